import Derived.Test.YtnnblpijaoocaaaGreatYB20
import Derived.Laws.Externs
set_option linter.all false
/- Words for what functions of the library do. -/
namespace Go.Ax
noncomputable def iL (l:List GSpan):List GSpan:=@iG _ ⟨zS .GSpan⟩ (fun a b=>aa (a.From < b.From)) l
def lO (t:List GRules) (day:Int):Option (GRules × Bool) :=
  bif aa (t.length≤1000)&&t.all (fun r=>aa (r.Members.length≤1000)) then
    bif aa (day < 0)||aa (73049≤day) then some (zS .GRules,false) else
      match t.reverse.find? (fun r=>aa (r.From≤day)) with
      | some r=>some (r,true)
      | none=>some (zS .GRules,false)
  else none
def cV (a b:GPosting):Bool:=aa (a.Span.From < b.Span.From)||(ah a.Span.From b.Span.From&&(aa (a.Seat < b.Seat)||(ah a.Seat b.Seat&&aa (a.State < b.State))))
noncomputable def eC (l:List GPosting):List GPosting:=@lp _ ⟨zS .GPosting⟩ cV l
abbrev kR:Ty:=.st .GCompetence_route
def wS (f:GFact):GCompetence_route:=⟨f.Seat,f.State⟩
def gI (s:List GCompetence_route × List (List GSpan)) (f:GFact):List GCompetence_route × List (List GSpan) :=
  bif ah f.Kind 4 then (dC kR s.1 (wS f),eH kR s.1 s.2 (wS f) (dF kR s.1 s.2 (wS f) []++[f.Span])) else s
def cE (c:List GFact):List GCompetence_route × List (List GSpan):=c.foldl gI ([],[])
def qR (x:List GFact × List GFact × Int × Int × List GCompetence_route × List (List GSpan)):Option (List GFact × List GCompetence_route × List (List GSpan)) :=
  bif aa (x.2.1.length≤1000000)&&(ah x.2.2.1 x.2.1.length&&(ah x.2.2.2.1 0&&(x.2.2.2.2.1.isEmpty&&x.2.2.2.2.2.isEmpty))) then some (x.1,cE x.2.1) else none
end Go.Ax
