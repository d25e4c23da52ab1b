import Derived.Test.YtnnblpijaoocaaaGreatWB20
import Derived.Laws.Externs
set_option linter.all false
/- Words for what functions of the library do. -/
namespace Go.Ax
noncomputable def jl (l:List GSpan):List GSpan:=@jm _ ⟨zS .GSpan⟩ (fun a b=>aa (a.From < b.From)) l
def mm (t:List GRules) (day:Int):Option (GRules × Bool) :=
  bif aa (t.length≤1000)&&t.all (fun r=>aa (r.Members.length≤1000)) then
    bif aa (day < 0)||aa (73049≤day) then some (zS .GRules,false) else
      match t.reverse.find? (fun r=>aa (r.From≤day)) with
      | some r=>some (r,true)
      | none=>some (zS .GRules,false)
  else none
def dw (a b:GPosting):Bool:=aa (a.Span.From < b.Span.From)||(af a.Span.From b.Span.From&&(aa (a.Seat < b.Seat)||(af a.Seat b.Seat&&aa (a.State < b.State))))
noncomputable def dK (l:List GPosting):List GPosting:=@lM _ ⟨zS .GPosting⟩ dw l
abbrev kR:Ty:=.st .GCompetence_route
def xc (f:GFact):GCompetence_route:=⟨f.Seat,f.State⟩
def il (s:List GCompetence_route × List (List GSpan)) (f:GFact):List GCompetence_route × List (List GSpan) :=
  bif af f.Kind 4 then (cO kR s.1 (xc f),cQ kR s.1 s.2 (xc f) (cd kR s.1 s.2 (xc f) []++[f.Span])) else s
def cE (c:List GFact):List GCompetence_route × List (List GSpan):=c.foldl il ([],[])
def sF (x:List GFact × List GFact × Int × Int × List GCompetence_route × List (List GSpan)):Option (List GFact × List GCompetence_route × List (List GSpan)) :=
  bif aa (x.2.1.length≤1000000)&&(af x.2.2.1 x.2.1.length&&(af x.2.2.2.1 0&&(x.2.2.2.2.1.isEmpty&&x.2.2.2.2.2.isEmpty))) then some (x.1,cE x.2.1) else none
end Go.Ax
