import Derived.Test.YtgamnldjlncdlaaGreatZL163
set_option linter.all false
/- The laws of chapter 16: what is made of raw numbers; the claims of any spans of law. -/
set_option maxRecDepth 100000
namespace Go.Ax
open Go.Proofs
theorem VU (l):En True (fun a:List ac=>a.length≤12) (yO l []):=by
  show En _ _ ((fixL (nM l []) (([]:List ac),(0:Int))).bind _)
  refine En.bind (R:=fun o:List ac=>o.length≤12) (En.fixL (fun s=>0≤s.2∧s.2≤12∧(s.1.length:Int)≤s.2) (fun s=>(12 - s.2).toNat) ⟨by show (0:Int)≤0; omega,by show (0:Int)≤12; omega,by show (([]:List ac).length:Int)≤0; simp⟩ fun s hs=>?_) fun y hy=>?_
  · obtain ⟨o,i⟩:=s
    obtain ⟨h1,h2,h3⟩:=hs
    simp only [] at h1 h2 h3
    show En _ _ (nU l [] o i).opt
    simp only [nU,oT]
    refine En.bif (fun hc=>?_) (fun _=>.some (by show o.length≤12; omega))
    rw [dV] at hc
    obtain ⟨c1,c2⟩:=(Bool.and_eq_true _ _).mp hc
    have hi:=of_decide_eq_true c1
    have hi2:=of_decide_eq_true c2
    rw [aD ⟨h1,hi⟩,bu (n:=i+1) (by omega) (by omega)]
    refine En.bif (fun _=>?_) (fun _=>?_)
    · rw [zj _ 6 (by omega),Option.bind_some]
      refine En.bind (S2 _) fun f _=>?_
      rw [aD (Mj (by omega))]
      exact .some ⟨⟨by simp only []; omega,by simp only []; omega,by simp only [List.length_append,List.length_singleton]; omega⟩,by simp only []; omega⟩
    · refine En.bind (S2 _) fun f _=>?_
      rw [aD (Mj (by omega))]
      exact .some ⟨⟨by simp only []; omega,by simp only []; omega,by simp only [List.length_append,List.length_singleton]; omega⟩,by simp only []; omega⟩
  · show En _ _ (nY [] y).opt
    simp only [nY,oT]
    rw [show decide ((0:Int) < (([]:List Int).length:Int)) = false from rfl,cond_false]
    refine En.bind (Ye y (by omega)) fun z hz=>.some (by omega)
def TR (s:List an):Prop:=s.length≤4∧∀ x∈s,si x
theorem aiV {v:aJ} (h:vt v) (i:Int):si ⟨i,v⟩:=⟨by show v.Credits.length≤1000; have:=h.1.1; omega,fun c hc=>by have:=h.1.2 c hc; omega⟩
theorem aqa {n:Nat} (h:n≤1000000):zb n 152:=⟨by omega,by omega⟩
theorem UP (v) (order:Int):En True TR (xb v order):=by
  show En _ _ ((fixL (mm v order) (([]:List an),(0:Int))).bind _)
  refine En.bind (R:=TR) (En.fixL (fun s=>0≤s.2∧s.2≤4∧(s.1.length:Int)≤s.2∧∀ x∈s.1,si x) (fun s=>(4 - s.2).toNat) ⟨by show (0:Int)≤0; omega,by show (0:Int)≤4; omega,by show (([]:List an).length:Int)≤0; simp,fun x hx=>by cases hx⟩ fun s hs=>?_) fun y hy=>?_
  · obtain ⟨o,i⟩:=s
    obtain ⟨h1,h2,h3,h4⟩:=hs
    simp only [] at h1 h2 h3 h4
    show En _ _ (mf v order o i).opt
    simp only [mf,oT]
    refine En.bif (fun hc=>?_) (fun _=>.some (show TR o from ⟨by omega,h4⟩))
    rw [dV] at hc
    obtain ⟨c1,c2⟩:=(Bool.and_eq_true _ _).mp hc
    have hi:=of_decide_eq_true c1
    have hi2:=of_decide_eq_true c2
    rw [aD ⟨h1,hi⟩,bu (n:=i+1) (by omega) (by omega)]
    refine En.bind (apU _) fun x hx=>?_
    rw [aD (aqa (by omega))]
    refine .some ⟨⟨by simp only []; omega,by simp only []; omega,by simp only [List.length_append,List.length_singleton]; omega,fun y hy=>?_⟩,by simp only []; omega⟩
    rcases List.mem_append.1 hy with hy | hy
    · exact h4 y hy
    · rw [List.mem_singleton.1 hy]; exact aiV hx i
  · show En _ _ (mq order y).opt
    simp only [mq,oT]
    refine En.bif (fun hc=>?_) (fun _=>.some hy)
    rw [dV] at hc
    obtain ⟨c1,_⟩:=(Bool.and_eq_true _ _).mp hc
    have hi:=of_decide_eq_true c1
    rw [aD ⟨by omega,by omega⟩]
    refine .some ⟨by rw [List.length_set]; exact hy.1,fun x hx=>?_⟩
    rcases List.mem_or_eq_of_mem_set hx with hx | rfl
    · exact hy.2 x hx
    · exact hy.2 (y.getD 0 bz) (Ey (i:=0) (by omega))
theorem WV (a:List aj) (hn:a.length≤1000000000):lc a a = some true:=by
  have key:∀ (n i:Nat),a.length = i+n→fixL (jh a a) (i:Int) = some (.inr ()):=by
    intro n
    induction n with
    | zero =>
      intro i h
      have:i = a.length:=by omega
      subst this
      rw [bU]
      show ((fc a a ((a.length:Nat):Int)).opt).bind _ = _
      simp only [fc,oT]
      rw [cl,cond_false]
      rfl
    | succ n ih =>
      intro i h
      have hi:i < a.length:=by omega
      rw [bU]
      show ((fc a a (i:Int)).opt).bind _ = _
      simp only [fc,oT]
      rw [dg hi,cond_true,aD (bJ hi),aD (bJ hi),cF (by omega)]
      simp only [beq_self_eq_true,Bool.and_true,Bool.not_true,cond_false]
      rw [Option.bind_some]
      exact ih (i+1) (by omega)
  have:=key a.length 0 (by omega)
  rw [show ((0:Nat):Int) = 0 from rfl] at this
  show (jn a a).opt = _
  simp only [jn,oT]
  rw [bne_self_eq_false,cond_false]
  unfold me
  rw [this]
  rfl
theorem YQ:Bh = some true:=by kernel_rfl
theorem RH (l:List ac) (law:List ar) (schemes:List an) (h:schemes.length≤1000) (past:ab):(yg l law schemes past).length≤600000000:=by
  have:=EE (Bn l law past) 600000 schemes fun x _=>KA _ _ _ _
  have h2:schemes.length*600000≤1000*600000:=Nat.mul_le_mul_right _ h
  unfold yg
  omega
theorem K5 (l) (law:List ar) (v) (before:Int):pL l law v before = some true:=by
  show (jk l law v before).opt = _
  simp only [jk,oT]
  cases hc:(bif decide ((20:Int) < (law.length:Int)) then true else decide ((5:Int) < (v.length:Int))) with
  | true=>rfl
  | false =>
    have hw:law.length≤20:=by
      rw [lQ] at hc
      have:=(Bool.or_eq_false_iff.1 hc).1
      have:=of_decide_eq_false this
      omega
    rw [cond_false]
    obtain ⟨a,ha,h1⟩:=(VU l).ends
    obtain ⟨s,hs,h2,h3⟩:=(UP v 1).ends
    obtain ⟨y,y1,y2,y3⟩:=RG a (by omega) law (by omega) s (by omega) h3 before
    rw [ha,Option.bind_some,hs,Option.bind_some,y1,Option.bind_some,y2,Option.bind_some,YQ,Option.bind_some]
    have hl:y.1.length≤1000000000:=by
      rcases y3 with rfl | rfl
      · simp
      · have:=RH a law s (by omega) ⟨0,before⟩; simp only []; omega
    rw [WV y.1 hl,aD (p:=((bif true then (y.2 == y.2) else false)&&true) = true→(some true).isSome = true) (fun _=>rfl),beq_self_eq_true]
    rfl
end Go.Ax
