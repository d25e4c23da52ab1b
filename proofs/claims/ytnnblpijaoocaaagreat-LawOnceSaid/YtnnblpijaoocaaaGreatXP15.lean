import Derived.Test.YtnnblpijaoocaaaGreatXP12
set_option linter.all false
/- The document's law ends: its spans are few. -/
set_option maxRecDepth 100000
namespace Go.Ax
theorem UX (l:List Int) (n:Int) (hl:l.length≤1000000):En (fun r=>r.length≤l.length+1) (cV l n):=by
 rw [Ci]
 have key:∀ (k:Nat) (x:Int),x≤k→0≤x→x≤(l.length:Int)→En (fun r=>r.length≤l.length+1) (jy l n x):=by
  intro k
  have fin:∀ (x:Int),0≤x→x≤(l.length:Int)→En (fun r=>r.length≤l.length+1) (gb ((!(aa (x < (l.length:Int))&&true))||aa (0≤x))<|gb ((!(aa (x < (l.length:Int))&&true))||aa (x < (l.length:Int))) <|
    bif (bif aa (x < (l.length:Int)) then (ae (gD l x.toNat 0) n) else false) then some l else gb (aa (0≤x))<|gb (aa (x≤(l.length:Int)))<|gb (aa (((aq l 0 (x - 0).toNat).length*8)≤140737488355328)) <|
    gb (aa ((aq l 0 (x - 0).toNat).length≤140737488355328))<|gb (aa ((((aq l 0 (x - 0).toNat).length+1)*8)≤140737488355328))<|gb (aa (((aq l 0 (x - 0).toNat).length+1)≤140737488355328))<|gb (aa (0≤x)) <|
    gb (aa (x≤(l.length:Int)))<|gb (aa ((l.length:Int)≤(l.length:Int)))<|gb (aa (((((aq l 0 (x - 0).toNat)++[n]).length+(aq l x.toNat ((l.length:Int) - x).toNat).length)*8)≤140737488355328)) <|
    gb (aa ((((aq l 0 (x - 0).toNat)++[n]).length+(aq l x.toNat ((l.length:Int) - x).toNat).length)≤140737488355328)) <|
    some (((aq l 0 (x - 0).toNat)++[n])++(aq l x.toNat ((l.length:Int) - x).toNat))):=by
   intro x h0 hx
   rw [iP h0 hx,nr h0 hx]
   simp only [List.length_append,List.length_singleton]
   rw [iP h0 hx]
   refine En.go (fun _=>h0) (En.go (fun h=>by simpa using h) (En.bif (fun _=>.some (Nat.le_succ _)) fun _=>?_))
   refine En.gd (by omega) (En.gd (by omega) (En.gd (by omega) (En.gd (by omega) (En.gd (by omega) (En.gd (by omega) (En.gd (by omega) (En.gd (by omega) (En.gd (by omega) (En.gd (by omega) (En.gd (by omega) (.some ?_)))))))))))
   simp only [List.length_append,List.length_singleton]
   rw [iP h0 hx,nr h0 hx]
   omega
  induction k with
  | zero =>
   intro x hk h0 hx
   obtain rfl:x = 0:=by omega
   rw [kP]
   refine En.go (fun h=>by simp at h) (En.go (fun h=>by simp at h) (En.and (fun h=>by simp at h) fun _=>fin 0 h0 hx))
  | succ k ih =>
   intro x hk h0 hx
   rw [kP]
   refine En.go (fun h=>?_) (En.go (fun h=>?_) (En.and (fun h _=>?_) fun _=>fin x h0 hx))
   ·simp at h;rw [al (by omega) (by omega)];omega
   ·simp at h;rw [al (by omega) (by omega)];omega
   ·have:=dJ h
    rw [al (n:=x - 1) (by omega) (by omega)]
    exact ih _ (by omega) (by omega) (by omega)
 exact key _ _ (Int.self_le_toNat _) (by omega) (by omega)
def Th (c:List GFact):Prop:=c.length≤30∧∀ f∈c,cq f = true
section
variable {l c:List GFact} (hl:l.length≤30) (hc:Th c)
include hc
end
end Go.Ax
set_option linter.all false
/- The document's law ends: its spans are few. -/
set_option maxRecDepth 100000
namespace Go.Ax
section
variable {l c:List GFact} (hl:l.length≤30) (hc:Th c)
include hl hc
end
theorem wJ (l:List GSpan) (s:GSpan):(ik l s).length≤l.length+1:=by
 have h1:=(lP l).2.2
 have h2:(ii [s]).length≤1:=(lP [s]).2.2
 have key:∀ (a b:List GSpan),(eW a b).length≤a.length+b.length:=by
  intro a b
  induction a,b using eW.induct with
  | case1 b=>rw [oz];simp
  | case2 s r=>rw [mE];simp
  | case3 s r t u ih1 ih2 =>
   have:=Hl s t
   rw [mx,List.length_append]
   split
   ·simp only [List.length_cons] at ih1 ⊢; omega
   ·simp only [List.length_cons] at ih2 ⊢; omega
 have:=key (ii l) (ii [s])
 unfold ik
 omega
end Go.Ax
