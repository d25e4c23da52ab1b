import Derived.Test.YtnnblpijaoocaaaGreatXB20
import Derived.Laws.Externs
set_option linter.all false
/- Words for what functions of the library do. -/
namespace Go.Ax
noncomputable def ki (l:List GSpan):List GSpan:=@kj _ ⟨zS .GSpan⟩ (fun a b=>aa (a.From < b.From)) l
def nz (t:List GRules) (day:Int):Option (GRules × Bool) :=
  bif aa (t.length≤1000)&&t.all (fun r=>aa (r.Members.length≤1000)) then
    bif aa (day < 0)||aa (73049≤day) then some (zS .GRules,false) else
      match t.reverse.find? (fun r=>aa (r.From≤day)) with
      | some r=>some (r,true)
      | none=>some (zS .GRules,false)
  else none
def dx (a b:GPosting):Bool:=aa (a.Span.From < b.Span.From)||(ae a.Span.From b.Span.From&&(aa (a.Seat < b.Seat)||(ae a.Seat b.Seat&&aa (a.State < b.State))))
noncomputable def fH (l:List GPosting):List GPosting:=@mW _ ⟨zS .GPosting⟩ dx l
abbrev kR:Ty:=.st .GCompetence_route
def Ba (f:GFact):GCompetence_route:=⟨f.Seat,f.State⟩
def iZ (s:List GCompetence_route × List (List GSpan)) (f:GFact):List GCompetence_route × List (List GSpan) :=
  bif ae f.Kind 4 then (dq kR s.1 (Ba f),du kR s.1 s.2 (Ba f) (cF kR s.1 s.2 (Ba f) []++[f.Span])) else s
def dv (c:List GFact):List GCompetence_route × List (List GSpan):=c.foldl iZ ([],[])
def uy (x:List GFact × List GFact × Int × Int × List GCompetence_route × List (List GSpan)):Option (List GFact × List GCompetence_route × List (List GSpan)) :=
  bif aa (x.2.1.length≤1000000)&&(ae x.2.2.1 x.2.1.length&&(ae x.2.2.2.1 0&&(x.2.2.2.2.1.isEmpty&&x.2.2.2.2.2.isEmpty))) then some (x.1,dv x.2.1) else none
end Go.Ax
