import Derived.Test.YtnnblpijaoocaaaGreatZP11
set_option linter.all false
/- Spans of facts; the first days of a list; the days under a law; credits. -/
set_option maxRecDepth 100000
namespace Go.Ax
theorem sE (a:List GSpan) (hn:a.length≤1000000):jJ a a = some true:=by
  rw [xK,EN.2 rfl,cond_false]
  have:=(wV a (fun i (_:Unit)=>ct a a i) (fun s _=>s) (fun _ _=>True) (fun i s hi _=>⟨?_,trivial⟩) () trivial).1
  · refine Eq.trans this ?_
    show ct _ _ _ = _
    rw [la,cI]; rfl
  · show ct _ _ _ = ct _ _ _
    rw [la]
    simp only [cg hi,cN,cond_true,aX,Bool.or_true,cD hi,cH hi (by omega)]
    simp only [GN,Bool.and_true,Bool.not_true,cond_false]
theorem Gg:∀ {l:List GSpan} {lo:Int},cf lo l→(l.length:Int)≤73049 - lo∨l = []
  | [],_,_=>.inr rfl
  | s :: r,lo,h=>by
    unfold cf at h
    left
    rcases Gg h.2.2.2 with e | e
    · rw [List.length_cons]; omega
    · subst e; simp; omega
theorem AX {l:List GSpan} (h:cf (-1) l):l.length≤73050:=by
  rcases Gg h with e | e
  · omega
  · subst e; simp
def lu (state rule:Int) (x:GSegment):Bool:=ai x.State state&&aa (x.Rule≤rule)
def nt (law:List GSegment) (state rule:Int):List GSpan:=(law.filter (lu state rule)).map GSegment.Span
theorem Be (law:List GSegment) (s r:Int):(nt law s r).length≤law.length:=by
  unfold nt
  rw [List.length_map]
  exact List.length_filter_le _ _
theorem lL (law:List GSegment) (s r:Int) (hl:law.length≤100000):hZ law s r = some (eF (nt law s r)):=by
  have:=Be law s r
  rw [uK]
  refine (K4 law (fun i out=>bi s r law (law.length:Int) i out) (lu s r) GSegment.Span fun i out hi ho=>?_).trans ?_
  · show bi _ _ _ _ _ _ = bi _ _ _ _ _ _
    rw [j8]
    simp only [cg hi,cN,cond_true,aX,Bool.or_true,cD hi,cH hi (by omega)]
    rw [pH (by omega) (by omega),ce]
    show (bif lu s r law[i] then _ else _) = _
    cases lu s r law[i] <;> rfl
  · show bi _ _ _ _ _ (nt law s r) = _
    rw [j8,cI,cond_false,Cj _ (by omega)]; rfl
theorem qD (law:List GSegment) (s r:Int) (hl:law.length≤100000):mW law s r = some (eF (nt law s r)):=by
  have:=Be law s r
  rw [CG]
  refine (K4 law (fun i out=>cP law s r i out) (lu s r) GSegment.Span fun i out hi ho=>?_).trans ?_
  · show cP _ _ _ _ _ = cP _ _ _ _ _
    rw [nW]
    simp only [cg hi,cN,cond_true,aX,Bool.or_true,cD hi,cH hi (by omega)]
    rw [pH (by omega) (by omega),ce]
    show (bif lu s r law[i] then _ else _) = _
    cases lu s r law[i] <;> rfl
  · show cP _ _ _ _ (nt law s r) = _
    rw [nW,cI,cond_false,u6 _ (by omega)]; rfl
end Go.Ax
