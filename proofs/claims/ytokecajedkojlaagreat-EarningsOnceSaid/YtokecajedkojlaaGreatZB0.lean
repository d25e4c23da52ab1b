import Derived.Below
/- Data types of the program: printed by a program. -/
set_option linter.all false
namespace Go.Ax
structure GRounding where
  Mode:Int
  Unit:Int
structure GCredit where
  Kind:Int
  Limit:Int
structure GFraction where
  Num:Int
  Den:Int
structure GIndex where
  Year:Int
  Factor:GFraction
structure GExpr where
  Op:Int
  Value:GFraction
  Dim:Int
  Name:ByteArray
  Args:List GExpr
structure GLet where
  Name:ByteArray
  Body:GExpr
structure GGrant where
  Benefit:Int
  If:GExpr
  Pay:GExpr
structure GReduce where
  Benefit:Int
  By:GExpr
structure GVersion where
  From:Int
  Rounding:GRounding
  Credits:List GCredit
  Series:List GIndex
  Lets:List GLet
  Grants:List GGrant
  Reduces:List GReduce
structure GStatute where
  Name:ByteArray
  Currency:Int
  Versions:List GVersion
structure GState where
  State:Int
  Statute:GStatute
structure GRules where
  From:Int
  MinDays:Int
  PostingLimit:Int
  Substantial:Int
  Members:List Int
structure GRate where
  Currency:Int
  Month:Int
  Value:GFraction
structure GLaws where
  States:List GState
  Treaty:List GRules
  Rates:List GRate
structure GSpan where
  From:Int
  To:Int
structure GEarning where
  Year:Int
  Amount:Int
structure GFact where
  Issuer:Int
  Number:Int
  Version:Int
  Withdrawn:Bool
  Person:Int
  Kind:Int
  State:Int
  Span:GSpan
  Seat:Int
  Share:Int
  Currency:Int
  Amount:Int
  Ref:Int
structure GPensionhand_Fact where
  Issuer:Int
  Number:Int
  Version:Int
  Withdrawn:Bool
  Person:Int
  Kind:Int
  State:Int
  Seat:Int
  From:Int
  Length:Int
  Share:Int
  Amount:Int
  Ref:Int
structure GPosting where
  Seat:Int
  State:Int
  Span:GSpan
structure GSegment where
  Span:GSpan
  State:Int
  Rule:Int
structure GPensionmade_Version where
  From:Int
  Mode:Int
  Unit:Int
  Credits:List Int
  Series:List Int
  Lets:List (List Int)
  Ifs:List (List Int)
  Pays:List (List Int)
  Cuts:List (List Int)
  Twist:Int
structure GScheme where
  State:Int
  Version:GVersion
structure GPeriod where
  State:Int
  Rank:Int
  Span:GSpan
structure GAnon120 where
  kind:Int
  rank:Int
structure GEarnings_income where
  fact:GFact
  days:List GSpan
structure GToken where
  Kind:Int
  Text:ByteArray
  At:Int
structure GPensionref5_reader where
  l:List GToken
  at_:Int
  end_:Int
  bad:Bool
structure GBinding where
  Name:ByteArray
  Dim:Int
structure GPensionref1_wide where
  hi:Int
  lo:Int
structure GPensionmade_source where
  l:List Int
  at_:Int
  left:Int
structure GCounted where
  Span:GSpan
  State:Int
  Rank:Int
structure GErrors_errorString where
  s:ByteArray
inductive SK where
  | GRounding
  | GCredit
  | GFraction
  | GIndex
  | GExpr
  | GLet
  | GGrant
  | GReduce
  | GVersion
  | GStatute
  | GState
  | GRules
  | GRate
  | GLaws
  | GSpan
  | GEarning
  | GFact
  | GPensionhand_Fact
  | GPosting
  | GSegment
  | GPensionmade_Version
  | GScheme
  | GPeriod
  | GAnon120
  | GEarnings_income
  | GToken
  | GPensionref5_reader
  | GBinding
  | GPensionref1_wide
  | GPensionmade_source
  | GCounted
  | GErrors_errorString
  deriving DecidableEq
abbrev SS:SK→Type
  | .GRounding=>GRounding
  | .GCredit=>GCredit
  | .GFraction=>GFraction
  | .GIndex=>GIndex
  | .GExpr=>GExpr
  | .GLet=>GLet
  | .GGrant=>GGrant
  | .GReduce=>GReduce
  | .GVersion=>GVersion
  | .GStatute=>GStatute
  | .GState=>GState
  | .GRules=>GRules
  | .GRate=>GRate
  | .GLaws=>GLaws
  | .GSpan=>GSpan
  | .GEarning=>GEarning
  | .GFact=>GFact
  | .GPensionhand_Fact=>GPensionhand_Fact
  | .GPosting=>GPosting
  | .GSegment=>GSegment
  | .GPensionmade_Version=>GPensionmade_Version
  | .GScheme=>GScheme
  | .GPeriod=>GPeriod
  | .GAnon120=>GAnon120
  | .GEarnings_income=>GEarnings_income
  | .GToken=>GToken
  | .GPensionref5_reader=>GPensionref5_reader
  | .GBinding=>GBinding
  | .GPensionref1_wide=>GPensionref1_wide
  | .GPensionmade_source=>GPensionmade_source
  | .GCounted=>GCounted
  | .GErrors_errorString=>GErrors_errorString
def ac (l:List Nat):ByteArray:=⟨(l.map UInt8.ofNat).toArray⟩
def zS:(k:SK)→SS k
  | .GRounding=>⟨0,0⟩
  | .GCredit=>⟨0,0⟩
  | .GFraction=>⟨0,0⟩
  | .GIndex=>⟨0,⟨0,0⟩⟩
  | .GExpr=>⟨0,⟨0,0⟩,0,(ac []),[]⟩
  | .GLet=>⟨(ac []),⟨0,⟨0,0⟩,0,(ac []),[]⟩⟩
  | .GGrant=>⟨0,⟨0,⟨0,0⟩,0,(ac []),[]⟩,⟨0,⟨0,0⟩,0,(ac []),[]⟩⟩
  | .GReduce=>⟨0,⟨0,⟨0,0⟩,0,(ac []),[]⟩⟩
  | .GVersion=>⟨0,⟨0,0⟩,[],[],[],[],[]⟩
  | .GStatute=>⟨(ac []),0,[]⟩
  | .GState=>⟨0,⟨(ac []),0,[]⟩⟩
  | .GRules=>⟨0,0,0,0,[]⟩
  | .GRate=>⟨0,0,⟨0,0⟩⟩
  | .GLaws=>⟨[],[],[]⟩
  | .GSpan=>⟨0,0⟩
  | .GEarning=>⟨0,0⟩
  | .GFact=>⟨0,0,0,false,0,0,0,⟨0,0⟩,0,0,0,0,0⟩
  | .GPensionhand_Fact=>⟨0,0,0,false,0,0,0,0,0,0,0,0,0⟩
  | .GPosting=>⟨0,0,⟨0,0⟩⟩
  | .GSegment=>⟨⟨0,0⟩,0,0⟩
  | .GPensionmade_Version=>⟨0,0,0,[],[],[],[],[],[],0⟩
  | .GScheme=>⟨0,⟨0,⟨0,0⟩,[],[],[],[],[]⟩⟩
  | .GPeriod=>⟨0,0,⟨0,0⟩⟩
  | .GAnon120=>⟨0,0⟩
  | .GEarnings_income=>⟨⟨0,0,0,false,0,0,0,⟨0,0⟩,0,0,0,0,0⟩,[]⟩
  | .GToken=>⟨0,(ac []),0⟩
  | .GPensionref5_reader=>⟨[],0,0,false⟩
  | .GBinding=>⟨(ac []),0⟩
  | .GPensionref1_wide=>⟨0,0⟩
  | .GPensionmade_source=>⟨[],0,0⟩
  | .GCounted=>⟨⟨0,0⟩,0,0⟩
  | .GErrors_errorString=>⟨(ac [])⟩
inductive Ty where
  | i (k:IntKind)
  | b
  | s
  | st (k:SK)
  | ls (t:Ty)
  | arr (n:Nat) (t:Ty)
  deriving DecidableEq
abbrev Ty.T:Ty→Type
  | .i _=>Int
  | .b=>Bool
  | .s=>ByteArray
  | .st k=>SS k
  | .ls t=>List t.T
  | .arr _ t=>List t.T
abbrev HP:List Ty→Type
  | []=>Unit
  | [t]=>t.T
  | t :: u :: r=>t.T × HP (u :: r)
def lf:SK→List Ty
  | .GRounding=>[.i .i64, .i .i64]
  | .GCredit=>[.i .i64, .i .i64]
  | .GFraction=>[.i .i64, .i .i64]
  | .GIndex=>[.i .i64, .i .i64, .i .i64]
  | .GExpr=>[.i .i64, .i .i64, .i .i64, .i .i64, .s, .ls (.st .GExpr)]
  | .GLet=>[.s, .i .i64, .i .i64, .i .i64, .i .i64, .s, .ls (.st .GExpr)]
  | .GGrant=>[.i .i64, .i .i64, .i .i64, .i .i64, .i .i64, .s, .ls (.st .GExpr), .i .i64, .i .i64, .i .i64, .i .i64, .s, .ls (.st .GExpr)]
  | .GReduce=>[.i .i64, .i .i64, .i .i64, .i .i64, .i .i64, .s, .ls (.st .GExpr)]
  | .GVersion=>[.i .i64, .i .i64, .i .i64, .ls (.st .GCredit), .ls (.st .GIndex), .ls (.st .GLet), .ls (.st .GGrant), .ls (.st .GReduce)]
  | .GStatute=>[.s, .i .i64, .ls (.st .GVersion)]
  | .GState=>[.i .i64, .s, .i .i64, .ls (.st .GVersion)]
  | .GRules=>[.i .i64, .i .i64, .i .i64, .i .i64, .ls (.i .i64)]
  | .GRate=>[.i .i64, .i .i64, .i .i64, .i .i64]
  | .GLaws=>[.ls (.st .GState), .ls (.st .GRules), .ls (.st .GRate)]
  | .GSpan=>[.i .i64, .i .i64]
  | .GEarning=>[.i .i64, .i .i64]
  | .GFact=>[.i .i64, .i .i64, .i .i64, .b, .i .i64, .i .i64, .i .i64, .i .i64, .i .i64, .i .i64, .i .i64, .i .i64, .i .i64, .i .i64]
  | .GPensionhand_Fact=>[.i .i64, .i .i64, .i .i64, .b, .i .i64, .i .i64, .i .i64, .i .i64, .i .i64, .i .i64, .i .i64, .i .i64, .i .i64]
  | .GPosting=>[.i .i64, .i .i64, .i .i64, .i .i64]
  | .GSegment=>[.i .i64, .i .i64, .i .i64, .i .i64]
  | .GPensionmade_Version=>[.i .i64, .i .i64, .i .i64, .ls (.i .i64), .ls (.i .i64), .ls (.ls (.i .i64)), .ls (.ls (.i .i64)), .ls (.ls (.i .i64)), .ls (.ls (.i .i64)), .i .i64]
  | .GScheme=>[.i .i64, .i .i64, .i .i64, .i .i64, .ls (.st .GCredit), .ls (.st .GIndex), .ls (.st .GLet), .ls (.st .GGrant), .ls (.st .GReduce)]
  | .GPeriod=>[.i .i64, .i .i64, .i .i64, .i .i64]
  | .GAnon120=>[.i .i64, .i .i64]
  | .GEarnings_income=>[.i .i64, .i .i64, .i .i64, .b, .i .i64, .i .i64, .i .i64, .i .i64, .i .i64, .i .i64, .i .i64, .i .i64, .i .i64, .i .i64, .ls (.st .GSpan)]
  | .GToken=>[.i .i64, .s, .i .i64]
  | .GPensionref5_reader=>[.ls (.st .GToken), .i .i64, .i .i64, .b]
  | .GBinding=>[.s, .i .i64]
  | .GPensionref1_wide=>[.i .u64, .i .u64]
  | .GPensionmade_source=>[.ls (.i .i64), .i .i64, .i .i64]
  | .GCounted=>[.i .i64, .i .i64, .i .i64, .i .i64]
  | .GErrors_errorString=>[.s]
def Px:(k:SK)→SS k→HP (lf k)
  | .GRounding,x=>(x.Mode,x.Unit)
  | .GCredit,x=>(x.Kind,x.Limit)
  | .GFraction,x=>(x.Num,x.Den)
  | .GIndex,x=>(x.Year,x.Factor.Num,x.Factor.Den)
  | .GExpr,x=>(x.Op,x.Value.Num,x.Value.Den,x.Dim,x.Name,x.Args)
  | .GLet,x=>(x.Name,x.Body.Op,x.Body.Value.Num,x.Body.Value.Den,x.Body.Dim,x.Body.Name,x.Body.Args)
  | .GGrant,x=>(x.Benefit,x.If.Op,x.If.Value.Num,x.If.Value.Den,x.If.Dim,x.If.Name,x.If.Args,x.Pay.Op,x.Pay.Value.Num,x.Pay.Value.Den,x.Pay.Dim,x.Pay.Name,x.Pay.Args)
  | .GReduce,x=>(x.Benefit,x.By.Op,x.By.Value.Num,x.By.Value.Den,x.By.Dim,x.By.Name,x.By.Args)
  | .GVersion,x=>(x.From,x.Rounding.Mode,x.Rounding.Unit,x.Credits,x.Series,x.Lets,x.Grants,x.Reduces)
  | .GStatute,x=>(x.Name,x.Currency,x.Versions)
  | .GState,x=>(x.State,x.Statute.Name,x.Statute.Currency,x.Statute.Versions)
  | .GRules,x=>(x.From,x.MinDays,x.PostingLimit,x.Substantial,x.Members)
  | .GRate,x=>(x.Currency,x.Month,x.Value.Num,x.Value.Den)
  | .GLaws,x=>(x.States,x.Treaty,x.Rates)
  | .GSpan,x=>(x.From,x.To)
  | .GEarning,x=>(x.Year,x.Amount)
  | .GFact,x=>(x.Issuer,x.Number,x.Version,x.Withdrawn,x.Person,x.Kind,x.State,x.Span.From,x.Span.To,x.Seat,x.Share,x.Currency,x.Amount,x.Ref)
  | .GPensionhand_Fact,x=>(x.Issuer,x.Number,x.Version,x.Withdrawn,x.Person,x.Kind,x.State,x.Seat,x.From,x.Length,x.Share,x.Amount,x.Ref)
  | .GPosting,x=>(x.Seat,x.State,x.Span.From,x.Span.To)
  | .GSegment,x=>(x.Span.From,x.Span.To,x.State,x.Rule)
  | .GPensionmade_Version,x=>(x.From,x.Mode,x.Unit,x.Credits,x.Series,x.Lets,x.Ifs,x.Pays,x.Cuts,x.Twist)
  | .GScheme,x=>(x.State,x.Version.From,x.Version.Rounding.Mode,x.Version.Rounding.Unit,x.Version.Credits,x.Version.Series,x.Version.Lets,x.Version.Grants,x.Version.Reduces)
  | .GPeriod,x=>(x.State,x.Rank,x.Span.From,x.Span.To)
  | .GAnon120,x=>(x.kind,x.rank)
  | .GEarnings_income,x=>(x.fact.Issuer,x.fact.Number,x.fact.Version,x.fact.Withdrawn,x.fact.Person,x.fact.Kind,x.fact.State,x.fact.Span.From,x.fact.Span.To,x.fact.Seat,x.fact.Share,x.fact.Currency,x.fact.Amount,x.fact.Ref,x.days)
  | .GToken,x=>(x.Kind,x.Text,x.At)
  | .GPensionref5_reader,x=>(x.l,x.at_,x.end_,x.bad)
  | .GBinding,x=>(x.Name,x.Dim)
  | .GPensionref1_wide,x=>(x.hi,x.lo)
  | .GPensionmade_source,x=>(x.l,x.at_,x.left)
  | .GCounted,x=>(x.Span.From,x.Span.To,x.State,x.Rank)
  | .GErrors_errorString,x=>x.s
def PP:(k:SK)→HP (lf k)→SS k
  | .GRounding,p=>⟨p.1,p.2⟩
  | .GCredit,p=>⟨p.1,p.2⟩
  | .GFraction,p=>⟨p.1,p.2⟩
  | .GIndex,p=>⟨p.1,⟨p.2.1,p.2.2⟩⟩
  | .GExpr,p=>⟨p.1,⟨p.2.1,p.2.2.1⟩,p.2.2.2.1,p.2.2.2.2.1,p.2.2.2.2.2⟩
  | .GLet,p=>⟨p.1,⟨p.2.1,⟨p.2.2.1,p.2.2.2.1⟩,p.2.2.2.2.1,p.2.2.2.2.2.1,p.2.2.2.2.2.2⟩⟩
  | .GGrant,p=>⟨p.1,⟨p.2.1,⟨p.2.2.1,p.2.2.2.1⟩,p.2.2.2.2.1,p.2.2.2.2.2.1,p.2.2.2.2.2.2.1⟩,⟨p.2.2.2.2.2.2.2.1,⟨p.2.2.2.2.2.2.2.2.1,p.2.2.2.2.2.2.2.2.2.1⟩,p.2.2.2.2.2.2.2.2.2.2.1,p.2.2.2.2.2.2.2.2.2.2.2.1,p.2.2.2.2.2.2.2.2.2.2.2.2⟩⟩
  | .GReduce,p=>⟨p.1,⟨p.2.1,⟨p.2.2.1,p.2.2.2.1⟩,p.2.2.2.2.1,p.2.2.2.2.2.1,p.2.2.2.2.2.2⟩⟩
  | .GVersion,p=>⟨p.1,⟨p.2.1,p.2.2.1⟩,p.2.2.2.1,p.2.2.2.2.1,p.2.2.2.2.2.1,p.2.2.2.2.2.2.1,p.2.2.2.2.2.2.2⟩
  | .GStatute,p=>⟨p.1,p.2.1,p.2.2⟩
  | .GState,p=>⟨p.1,⟨p.2.1,p.2.2.1,p.2.2.2⟩⟩
  | .GRules,p=>⟨p.1,p.2.1,p.2.2.1,p.2.2.2.1,p.2.2.2.2⟩
  | .GRate,p=>⟨p.1,p.2.1,⟨p.2.2.1,p.2.2.2⟩⟩
  | .GLaws,p=>⟨p.1,p.2.1,p.2.2⟩
  | .GSpan,p=>⟨p.1,p.2⟩
  | .GEarning,p=>⟨p.1,p.2⟩
  | .GFact,p=>⟨p.1,p.2.1,p.2.2.1,p.2.2.2.1,p.2.2.2.2.1,p.2.2.2.2.2.1,p.2.2.2.2.2.2.1,⟨p.2.2.2.2.2.2.2.1,p.2.2.2.2.2.2.2.2.1⟩,p.2.2.2.2.2.2.2.2.2.1,p.2.2.2.2.2.2.2.2.2.2.1,p.2.2.2.2.2.2.2.2.2.2.2.1,p.2.2.2.2.2.2.2.2.2.2.2.2.1,p.2.2.2.2.2.2.2.2.2.2.2.2.2⟩
  | .GPensionhand_Fact,p=>⟨p.1,p.2.1,p.2.2.1,p.2.2.2.1,p.2.2.2.2.1,p.2.2.2.2.2.1,p.2.2.2.2.2.2.1,p.2.2.2.2.2.2.2.1,p.2.2.2.2.2.2.2.2.1,p.2.2.2.2.2.2.2.2.2.1,p.2.2.2.2.2.2.2.2.2.2.1,p.2.2.2.2.2.2.2.2.2.2.2.1,p.2.2.2.2.2.2.2.2.2.2.2.2⟩
  | .GPosting,p=>⟨p.1,p.2.1,⟨p.2.2.1,p.2.2.2⟩⟩
  | .GSegment,p=>⟨⟨p.1,p.2.1⟩,p.2.2.1,p.2.2.2⟩
  | .GPensionmade_Version,p=>⟨p.1,p.2.1,p.2.2.1,p.2.2.2.1,p.2.2.2.2.1,p.2.2.2.2.2.1,p.2.2.2.2.2.2.1,p.2.2.2.2.2.2.2.1,p.2.2.2.2.2.2.2.2.1,p.2.2.2.2.2.2.2.2.2⟩
  | .GScheme,p=>⟨p.1,⟨p.2.1,⟨p.2.2.1,p.2.2.2.1⟩,p.2.2.2.2.1,p.2.2.2.2.2.1,p.2.2.2.2.2.2.1,p.2.2.2.2.2.2.2.1,p.2.2.2.2.2.2.2.2⟩⟩
  | .GPeriod,p=>⟨p.1,p.2.1,⟨p.2.2.1,p.2.2.2⟩⟩
  | .GAnon120,p=>⟨p.1,p.2⟩
  | .GEarnings_income,p=>⟨⟨p.1,p.2.1,p.2.2.1,p.2.2.2.1,p.2.2.2.2.1,p.2.2.2.2.2.1,p.2.2.2.2.2.2.1,⟨p.2.2.2.2.2.2.2.1,p.2.2.2.2.2.2.2.2.1⟩,p.2.2.2.2.2.2.2.2.2.1,p.2.2.2.2.2.2.2.2.2.2.1,p.2.2.2.2.2.2.2.2.2.2.2.1,p.2.2.2.2.2.2.2.2.2.2.2.2.1,p.2.2.2.2.2.2.2.2.2.2.2.2.2.1⟩,p.2.2.2.2.2.2.2.2.2.2.2.2.2.2⟩
  | .GToken,p=>⟨p.1,p.2.1,p.2.2⟩
  | .GPensionref5_reader,p=>⟨p.1,p.2.1,p.2.2.1,p.2.2.2⟩
  | .GBinding,p=>⟨p.1,p.2⟩
  | .GPensionref1_wide,p=>⟨p.1,p.2⟩
  | .GPensionmade_source,p=>⟨p.1,p.2.1,p.2.2⟩
  | .GCounted,p=>⟨⟨p.1,p.2.1⟩,p.2.2.1,p.2.2.2⟩
  | .GErrors_errorString,p=>⟨p⟩
theorem QH:∀ k p,Px k (PP k p) = p:=by intro k; cases k <;> intro p <;> rfl
def Vb:List (Nat × SK):=[(32, .GLaws),(33, .GLaws),(49, .GSpan),(50, .GSpan),(57, .GEarning),(58, .GEarning),(60, .GFact),(61, .GFact),(63, .GPensionhand_Fact),(64, .GPensionhand_Fact),(75, .GRules),(76, .GRules),(77, .GPosting),(78, .GPosting),(84, .GSegment),(85, .GSegment),(86, .GFraction),(87, .GFraction),(88, .GRate),(89, .GRate),(91, .GStatute),(92, .GStatute),(96, .GState),(97, .GState),(99, .GRounding),(100, .GRounding),(106, .GVersion),(107, .GVersion),(110, .GPensionmade_Version),(111, .GPensionmade_Version),(112, .GScheme),(113, .GScheme),(114, .GPeriod),(115, .GPeriod),(120, .GAnon120),(129, .GCredit),(130, .GCredit),(139, .GEarnings_income),(140, .GEarnings_income),(171, .GPensionref5_reader),(172, .GPensionref5_reader),(181, .GIndex),(182, .GIndex),(185, .GExpr),(186, .GExpr),(188, .GLet),(189, .GLet),(190, .GBinding),(191, .GBinding),(192, .GGrant),(193, .GGrant),(194, .GReduce),(195, .GReduce),(223, .GPensionref1_wide),(224, .GPensionref1_wide),(235, .GToken),(236, .GToken),(244, .GPensionmade_source),(245, .GPensionmade_source),(271, .GCounted),(272, .GCounted),(373, .GErrors_errorString),(374, .GErrors_errorString)]
end Go.Ax
