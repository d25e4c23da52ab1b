import Derived.Below
/- Data types of the program: printed by a program. -/
set_option linter.all false
namespace Go.Ax
structure GDocument where
  Sender:Int
  Number:Int
  Kind:Int
  Prev:Int
  Body:List Int
structure GClaim where
  Issuer:Int
  Number:Int
  Person:Int
  Benefit:Int
  Ref:Int
  Day:Int
structure GPensionref31_kept where
  D:GDocument
  B:List Int
structure GPensionref31_Feeds where
  L:List GPensionref31_kept
structure GPensionhand_Fact where
  Issuer:Int
  Number:Int
  Version:Int
  Withdrawn:Bool
  Person:Int
  Kind:Int
  State:Int
  Seat:Int
  From:Int
  Length:Int
  Share:Int
  Amount:Int
  Ref:Int
structure GPensionlaw31_Raw where
  Kind:Int
  Number:Int
  Prev:Int
  Fact:GPensionhand_Fact
  Person:Int
  Month:Int
  A:Int
  B:Int
  C:Int
structure GRequest where
  Person:Int
  Month:Int
  Amount:Int
structure GFeed_key where
  sender:Int
  number:Int
structure GSpan where
  From:Int
  To:Int
structure GFact where
  Issuer:Int
  Number:Int
  Version:Int
  Withdrawn:Bool
  Person:Int
  Kind:Int
  State:Int
  Span:GSpan
  Seat:Int
  Share:Int
  Currency:Int
  Amount:Int
  Ref:Int
structure GRemittance where
  To:Int
  Person:Int
  Month:Int
  Request:Int
  Sent:Int
  Credited:Int
structure GNotice where
  Person:Int
  Month:Int
  Due:Int
  Settled:Int
structure GDocument_reader where
  b:List Int
structure GFact_reader where
  b:List Int
  short:Bool
inductive SK where
  | GDocument
  | GClaim
  | GPensionref31_kept
  | GPensionref31_Feeds
  | GPensionhand_Fact
  | GPensionlaw31_Raw
  | GRequest
  | GFeed_key
  | GSpan
  | GFact
  | GRemittance
  | GNotice
  | GDocument_reader
  | GFact_reader
  deriving DecidableEq
abbrev SS:SK→Type
 | .GDocument=>GDocument
 | .GClaim=>GClaim
 | .GPensionref31_kept=>GPensionref31_kept
 | .GPensionref31_Feeds=>GPensionref31_Feeds
 | .GPensionhand_Fact=>GPensionhand_Fact
 | .GPensionlaw31_Raw=>GPensionlaw31_Raw
 | .GRequest=>GRequest
 | .GFeed_key=>GFeed_key
 | .GSpan=>GSpan
 | .GFact=>GFact
 | .GRemittance=>GRemittance
 | .GNotice=>GNotice
 | .GDocument_reader=>GDocument_reader
 | .GFact_reader=>GFact_reader
def aE (l:List Nat):ByteArray:=⟨(l.map UInt8.ofNat).toArray⟩
def zS:(k:SK)→SS k
 | .GDocument=>⟨0,0,0,0,[]⟩
 | .GClaim=>⟨0,0,0,0,0,0⟩
 | .GPensionref31_kept=>⟨⟨0,0,0,0,[]⟩,[]⟩
 | .GPensionref31_Feeds=>⟨[]⟩
 | .GPensionhand_Fact=>⟨0,0,0,false,0,0,0,0,0,0,0,0,0⟩
 | .GPensionlaw31_Raw=>⟨0,0,0,⟨0,0,0,false,0,0,0,0,0,0,0,0,0⟩,0,0,0,0,0⟩
 | .GRequest=>⟨0,0,0⟩
 | .GFeed_key=>⟨0,0⟩
 | .GSpan=>⟨0,0⟩
 | .GFact=>⟨0,0,0,false,0,0,0,⟨0,0⟩,0,0,0,0,0⟩
 | .GRemittance=>⟨0,0,0,0,0,0⟩
 | .GNotice=>⟨0,0,0,0⟩
 | .GDocument_reader=>⟨[]⟩
 | .GFact_reader=>⟨[],false⟩
inductive Ty where
  | i (k:IntKind)
  | b
  | s
  | st (k:SK)
  | ls (t:Ty)
  | arr (n:Nat) (t:Ty)
  deriving DecidableEq
abbrev Ty.T:Ty→Type
 | .i _=>Int
 | .b=>Bool
 | .s=>ByteArray
 | .st k=>SS k
 | .ls t=>List t.T
 | .arr _ t=>List t.T
abbrev HP:List Ty→Type
 | []=>Unit
 | [t]=>t.T
 | t :: u :: r=>t.T × HP (u :: r)
def lf:SK→List Ty
 | .GDocument=>[.i .i64, .i .i64, .i .i64, .i .u32, .ls (.i .u8)]
 | .GClaim=>[.i .i64, .i .i64, .i .i64, .i .i64, .i .i64, .i .i64]
 | .GPensionref31_kept=>[.i .i64, .i .i64, .i .i64, .i .u32, .ls (.i .u8), .ls (.i .u8)]
 | .GPensionref31_Feeds=>[.ls (.st .GPensionref31_kept)]
 | .GPensionhand_Fact=>[.i .i64, .i .i64, .i .i64, .b, .i .i64, .i .i64, .i .i64, .i .i64, .i .i64, .i .i64, .i .i64, .i .i64, .i .i64]
 | .GPensionlaw31_Raw=>[.i .i64, .i .i64, .i .i64, .i .i64, .i .i64, .i .i64, .b, .i .i64, .i .i64, .i .i64, .i .i64, .i .i64, .i .i64, .i .i64, .i .i64, .i .i64, .i .i64, .i .i64, .i .i64, .i .i64, .i .i64]
 | .GRequest=>[.i .i64, .i .i64, .i .i64]
 | .GFeed_key=>[.i .i64, .i .i64]
 | .GSpan=>[.i .i64, .i .i64]
 | .GFact=>[.i .i64, .i .i64, .i .i64, .b, .i .i64, .i .i64, .i .i64, .i .i64, .i .i64, .i .i64, .i .i64, .i .i64, .i .i64, .i .i64]
 | .GRemittance=>[.i .i64, .i .i64, .i .i64, .i .i64, .i .i64, .i .i64]
 | .GNotice=>[.i .i64, .i .i64, .i .i64, .i .i64]
 | .GDocument_reader=>[.ls (.i .u8)]
 | .GFact_reader=>[.ls (.i .u8), .b]
def Cp:(k:SK)→SS k→HP (lf k)
 | .GDocument,x=>(x.Sender,x.Number,x.Kind,x.Prev,x.Body)
 | .GClaim,x=>(x.Issuer,x.Number,x.Person,x.Benefit,x.Ref,x.Day)
 | .GPensionref31_kept,x=>(x.D.Sender,x.D.Number,x.D.Kind,x.D.Prev,x.D.Body,x.B)
 | .GPensionref31_Feeds,x=>x.L
 | .GPensionhand_Fact,x=>(x.Issuer,x.Number,x.Version,x.Withdrawn,x.Person,x.Kind,x.State,x.Seat,x.From,x.Length,x.Share,x.Amount,x.Ref)
 | .GPensionlaw31_Raw,x=>(x.Kind,x.Number,x.Prev,x.Fact.Issuer,x.Fact.Number,x.Fact.Version,x.Fact.Withdrawn,x.Fact.Person,x.Fact.Kind,x.Fact.State,x.Fact.Seat,x.Fact.From,x.Fact.Length,x.Fact.Share,x.Fact.Amount,x.Fact.Ref,x.Person,x.Month,x.A,x.B,x.C)
 | .GRequest,x=>(x.Person,x.Month,x.Amount)
 | .GFeed_key,x=>(x.sender,x.number)
 | .GSpan,x=>(x.From,x.To)
 | .GFact,x=>(x.Issuer,x.Number,x.Version,x.Withdrawn,x.Person,x.Kind,x.State,x.Span.From,x.Span.To,x.Seat,x.Share,x.Currency,x.Amount,x.Ref)
 | .GRemittance,x=>(x.To,x.Person,x.Month,x.Request,x.Sent,x.Credited)
 | .GNotice,x=>(x.Person,x.Month,x.Due,x.Settled)
 | .GDocument_reader,x=>x.b
 | .GFact_reader,x=>(x.b,x.short)
def Hl:(k:SK)→HP (lf k)→SS k
 | .GDocument,p=>⟨p.1,p.2.1,p.2.2.1,p.2.2.2.1,p.2.2.2.2⟩
 | .GClaim,p=>⟨p.1,p.2.1,p.2.2.1,p.2.2.2.1,p.2.2.2.2.1,p.2.2.2.2.2⟩
 | .GPensionref31_kept,p=>⟨⟨p.1,p.2.1,p.2.2.1,p.2.2.2.1,p.2.2.2.2.1⟩,p.2.2.2.2.2⟩
 | .GPensionref31_Feeds,p=>⟨p⟩
 | .GPensionhand_Fact,p=>⟨p.1,p.2.1,p.2.2.1,p.2.2.2.1,p.2.2.2.2.1,p.2.2.2.2.2.1,p.2.2.2.2.2.2.1,p.2.2.2.2.2.2.2.1,p.2.2.2.2.2.2.2.2.1,p.2.2.2.2.2.2.2.2.2.1,p.2.2.2.2.2.2.2.2.2.2.1,p.2.2.2.2.2.2.2.2.2.2.2.1,p.2.2.2.2.2.2.2.2.2.2.2.2⟩
 | .GPensionlaw31_Raw,p=>⟨p.1,p.2.1,p.2.2.1,⟨p.2.2.2.1,p.2.2.2.2.1,p.2.2.2.2.2.1,p.2.2.2.2.2.2.1,p.2.2.2.2.2.2.2.1,p.2.2.2.2.2.2.2.2.1,p.2.2.2.2.2.2.2.2.2.1,p.2.2.2.2.2.2.2.2.2.2.1,p.2.2.2.2.2.2.2.2.2.2.2.1,p.2.2.2.2.2.2.2.2.2.2.2.2.1,p.2.2.2.2.2.2.2.2.2.2.2.2.2.1,p.2.2.2.2.2.2.2.2.2.2.2.2.2.2.1,p.2.2.2.2.2.2.2.2.2.2.2.2.2.2.2.1⟩,p.2.2.2.2.2.2.2.2.2.2.2.2.2.2.2.2.1,p.2.2.2.2.2.2.2.2.2.2.2.2.2.2.2.2.2.1,p.2.2.2.2.2.2.2.2.2.2.2.2.2.2.2.2.2.2.1,p.2.2.2.2.2.2.2.2.2.2.2.2.2.2.2.2.2.2.2.1,p.2.2.2.2.2.2.2.2.2.2.2.2.2.2.2.2.2.2.2.2⟩
 | .GRequest,p=>⟨p.1,p.2.1,p.2.2⟩
 | .GFeed_key,p=>⟨p.1,p.2⟩
 | .GSpan,p=>⟨p.1,p.2⟩
 | .GFact,p=>⟨p.1,p.2.1,p.2.2.1,p.2.2.2.1,p.2.2.2.2.1,p.2.2.2.2.2.1,p.2.2.2.2.2.2.1,⟨p.2.2.2.2.2.2.2.1,p.2.2.2.2.2.2.2.2.1⟩,p.2.2.2.2.2.2.2.2.2.1,p.2.2.2.2.2.2.2.2.2.2.1,p.2.2.2.2.2.2.2.2.2.2.2.1,p.2.2.2.2.2.2.2.2.2.2.2.2.1,p.2.2.2.2.2.2.2.2.2.2.2.2.2⟩
 | .GRemittance,p=>⟨p.1,p.2.1,p.2.2.1,p.2.2.2.1,p.2.2.2.2.1,p.2.2.2.2.2⟩
 | .GNotice,p=>⟨p.1,p.2.1,p.2.2.1,p.2.2.2⟩
 | .GDocument_reader,p=>⟨p⟩
 | .GFact_reader,p=>⟨p.1,p.2⟩
theorem IF:∀ k p,Cp k (Hl k p) = p:=by intro k;cases k <;> intro p <;> rfl
def LO:List (Nat × SK):=[(40, .GDocument),(41, .GDocument),(63, .GClaim),(64, .GClaim),(71, .GPensionref31_Feeds),(72, .GPensionref31_Feeds),(73, .GPensionhand_Fact),(74, .GPensionhand_Fact),(75, .GPensionlaw31_Raw),(76, .GPensionlaw31_Raw),(84, .GPensionref31_kept),(85, .GPensionref31_kept),(87, .GRequest),(88, .GRequest),(96, .GFeed_key),(97, .GFeed_key),(104, .GSpan),(105, .GSpan),(109, .GFact),(110, .GFact),(126, .GRemittance),(127, .GRemittance),(129, .GNotice),(130, .GNotice),(137, .GDocument_reader),(138, .GDocument_reader),(167, .GFact_reader),(168, .GFact_reader)]
end Go.Ax
