import Derived.Test.YtgamnldjlncdlaaGreatZL163
set_option linter.all false
/- The laws of chapter 16: what is made of raw numbers; the claims of any spans of law. -/
set_option maxRecDepth 100000
namespace Go.Ax
open Go.Proofs
theorem Vu (l):En True (fun a:List ae=>a.length≤12) (x5 l []):=by
  show En _ _ ((fixL (nB l []) (([]:List ae),(0:Int))).bind _)
  refine En.bind (R:=fun o:List ae=>o.length≤12) (En.fixL (fun s=>0≤s.2∧s.2≤12∧(s.1.length:Int)≤s.2) (fun s=>(12 - s.2).toNat) ⟨by show (0:Int)≤0; omega,by show (0:Int)≤12; omega,by show (([]:List ae).length:Int)≤0; simp⟩ fun s hs=>?_) fun y hy=>?_
  · obtain ⟨o,i⟩:=s
    obtain ⟨h1,h2,h3⟩:=hs
    simp only [] at h1 h2 h3
    show En _ _ (nv l [] o i).opt
    simp only [nv,oT]
    refine En.bif (fun hc=>?_) (fun _=>.some (by show o.length≤12; omega))
    rw [fh] at hc
    obtain ⟨c1,c2⟩:=(Bool.and_eq_true _ _).mp hc
    have hi:=of_decide_eq_true c1
    have hi2:=of_decide_eq_true c2
    rw [aE ⟨h1,hi⟩,bu (n:=i+1) (by omega) (by omega)]
    refine En.bif (fun _=>?_) (fun _=>?_)
    · rw [rK _ 6 (by omega),Option.bind_some]
      refine En.bind (RN _) fun f _=>?_
      rw [aE (Ko (by omega))]
      exact .some ⟨⟨by simp only []; omega,by simp only []; omega,by simp only [List.length_append,List.length_singleton]; omega⟩,by simp only []; omega⟩
    · refine En.bind (RN _) fun f _=>?_
      rw [aE (Ko (by omega))]
      exact .some ⟨⟨by simp only []; omega,by simp only []; omega,by simp only [List.length_append,List.length_singleton]; omega⟩,by simp only []; omega⟩
  · show En _ _ (ny [] y).opt
    simp only [ny,oT]
    rw [show decide ((0:Int) < (([]:List Int).length:Int)) = false from rfl,cond_false]
    refine En.bind (Yr y (by omega)) fun z hz=>.some (by omega)
theorem ahW {v:az} (h:rL v) (i:Int):DA ⟨i,v⟩:=⟨by show v.Credits.length≤1000; have:=h.1.1; omega,fun c hc=>by have:=h.1.2 c hc; omega⟩
theorem WY:At = some true:=by kernel_rfl
end Go.Ax
