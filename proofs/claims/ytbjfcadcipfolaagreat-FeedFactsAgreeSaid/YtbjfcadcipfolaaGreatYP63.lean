import Derived.Test.YtbjfcadcipfolaaGreatYP62
set_option linter.all false
/- Get returns the encodings of the reference; Missing agrees with the reference. -/
set_option maxRecDepth 100000
namespace Go.Ax
theorem KB {l:List (List Int)} (h:mC l):G5 l:=fun b hb=>⟨(h b hb).1,by have:=(po (h b hb).1 (h b hb).2).2;omega⟩
theorem DR {l m:List (List Int)} (h:oa l m) (hl:mC l):mC m:=fun b hb=>hl b ((h.2 b).1 hb)
theorem Jt {m:List (List Int)} (h:mC m) (hm:m.length≤24):∃ L ks vs,jH m = some (true,m,⟨L⟩,ks,vs)∧bI (dA m) ks vs∧fe (dA m) L∧bL (dA m)∧ks.length≤24∧L.length≤24:=by
 obtain ⟨L,ks,vs,h1,h2,h3,h4,h5⟩:=Eu (KB h) (by omega)
 exact ⟨L,ks,vs,h1,h2,h3,Ph (KB h),by omega,by omega⟩
theorem Jz (l:List GPensionlaw31_Raw) (xby:List Int):∃ d m L ks vs,mu l = some d∧gF d xby = some m∧jH m = some (true,m,⟨L⟩,ks,vs)∧C1 d∧oa d m∧mC m∧bI (dA m) ks vs∧fe (dA m) L∧bL (dA m)∧ks.length≤24∧L.length≤24:=by
 obtain ⟨d,h1,h2⟩:=IO l
 obtain ⟨m,h3,h4⟩:=(wq xby h2.1).1
 have hok:=DR h4 h2.2
 obtain ⟨L,ks,vs,g1,g2,g3,g4,g5,g6⟩:=Jt hok h4.1
 exact ⟨d,m,L,ks,vs,h1,h3,g1,h2,h4,hok,g2,g3,g4,g5,g6⟩
end Go.Ax
