import Derived.Test.YtnnblpijaoocaaaGreatZP3
set_option linter.all false
/- Clauses, versions, statutes: their reading ends. -/
set_option maxRecDepth 100000
namespace Go.Ax
structure JR (n:Int) (C:List GCredit) (S:List GIndex) (L:List GLet) (G:List GGrant) (R:List GReduce):Prop where
  cr:(C.length:Int)≤n
  se:(S.length:Int)≤n
  le:(L.length:Int)≤n
  gr:(G.length:Int)≤n
  re:(R.length:Int)≤n
  xle:∀ x∈L,x.Name.size≤8000∧wG x.Body
  xgr:∀ x∈G,wG x.If∧wG x.Pay
  xre:∀ x∈R,wG x.By
theorem JR.mono {n m:Int} {cr se le gr re} (h:JR n cr se le gr re) (hm:n≤m):JR m cr se le gr re :=
  ⟨Int.le_trans h.cr hm,Int.le_trans h.se hm,Int.le_trans h.le hm,Int.le_trans h.gr hm,Int.le_trans h.re hm,h.xle,h.xgr,h.xre⟩
section
variable {r0 r:Rd} {F:Int} {R:GRounding} {cr:List GCredit} {se:List GIndex} {le:List GLet} {gr:List GGrant} {re:List GReduce}
theorem small (h:RI r):r.at_≤8000:=by have:=h.2.1; have:=h.2.2.1; omega
end
end Go.Ax
