import Derived.Test.YtnnblpijaoocaaaGreatZB20
import Derived.Laws.Externs
set_option linter.all false
/- Words for what functions of the library do. -/
namespace Go.Ax
noncomputable def fW (l:List GSpan):List GSpan:=@fN _ ⟨zS .GSpan⟩ (fun a b=>aa (a.From < b.From)) l
def nR (t:List GRules) (day:Int):Option (GRules × Bool) :=
  bif aa (t.length≤1000)&&t.all (fun r=>aa (r.Members.length≤1000)) then
    bif aa (day < 0)||aa (73049≤day) then some (zS .GRules,false) else
      match t.reverse.find? (fun r=>aa (r.From≤day)) with
      | some r=>some (r,true)
      | none=>some (zS .GRules,false)
  else none
def cx (a b:GPosting):Bool:=aa (a.Span.From < b.Span.From)||(ah a.Span.From b.Span.From&&(aa (a.Seat < b.Seat)||(ah a.Seat b.Seat&&aa (a.State < b.State))))
noncomputable def dE (l:List GPosting):List GPosting:=@iY _ ⟨zS .GPosting⟩ cx l
abbrev kR:Ty:=.st .GCompetence_route
def rT (f:GFact):GCompetence_route:=⟨f.Seat,f.State⟩
def eX (s:List GCompetence_route × List (List GSpan)) (f:GFact):List GCompetence_route × List (List GSpan) :=
  bif ah f.Kind 4 then (cT kR s.1 (rT f),dD kR s.1 s.2 (rT f) (cV kR s.1 s.2 (rT f) []++[f.Span])) else s
def bZ (c:List GFact):List GCompetence_route × List (List GSpan):=c.foldl eX ([],[])
def nE (x:List GFact × List GFact × Int × Int × List GCompetence_route × List (List GSpan)):Option (List GFact × List GCompetence_route × List (List GSpan)) :=
  bif aa (x.2.1.length≤1000000)&&(ah x.2.2.1 x.2.1.length&&(ah x.2.2.2.1 0&&(x.2.2.2.2.1.isEmpty&&x.2.2.2.2.2.isEmpty))) then some (x.1,bZ x.2.1) else none
end Go.Ax
