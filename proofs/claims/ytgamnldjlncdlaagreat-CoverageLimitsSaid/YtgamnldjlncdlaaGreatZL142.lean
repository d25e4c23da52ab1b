import Derived.Test.YtgamnldjlncdlaaGreatZL141c
import Derived.Test.YtgamnldjlncdlaaGreatZL90
set_option linter.all false
/- Functions that end, and what is known of their results: rules. Small functions of pensionmade and pensionref5. -/
set_option maxRecDepth 100000
namespace Go.Ax
open Go.Proofs
def En (tot:Prop) {α:Type} (Q:α→Prop) (o:Option α):Prop:=(tot→∃ y,o = some y)∧∀ y,o = some y→Q y
section
variable {tot tot':Prop} {α β:Type} {Q Q':α→Prop}
theorem En.some {y:α} (h:Q y):En tot Q (some y):=⟨fun _=>⟨y,rfl⟩,fun y' e=>by cases e; exact h⟩
theorem En.none (h:¬ tot):En tot Q none:=⟨fun t=>absurd t h,fun y e=>by cases e⟩
theorem En.bind {R:β→Prop} {o:Option β} {f:β→Option α} (h:En tot R o) (h2:∀ y,R y→En tot Q (f y)):En tot Q (o.bind f):=by
  refine ⟨fun t=>?_,fun y e=>?_⟩
  · obtain ⟨x,hx⟩:=h.1 t
    rw [hx]
    exact (h2 x (h.2 x hx)).1 t
  · cases o with
    | none=>cases e
    | some x=>exact (h2 x (h.2 x rfl)).2 y e
theorem En.bif {c:Bool} {a b:Option α} (h1:c = true→En tot Q a) (h2:c = false→En tot Q b):En tot Q (bif c then a else b):=by
  cases c with
  | true=>exact h1 rfl
  | false=>exact h2 rfl
theorem En.gd {p:Prop} [Decidable p] {o:Option α} (hp:p) (h:En tot Q o):En tot Q (gd p o):=by rw [aE hp]; exact h
theorem En.imp {o:Option α} (h:En tot Q o) (ht:tot'→tot) (hq:∀ y,Q y→Q' y):En tot' Q' o:=⟨fun t=>h.1 (ht t),fun y e=>hq y (h.2 y e)⟩
theorem En.weak {o:Option α} (h:En tot Q o) (hq:∀ y,Q y→Q' y):En tot Q' o:=h.imp id hq
theorem En.ends {o:Option α} (h:En True Q o):∃ y,o = Option.some y∧Q y:=by
  obtain ⟨y,hy⟩:=h.1 trivial
  exact ⟨y,hy,h.2 y hy⟩
theorem En.of {o:Option α} {y:α} (h:o = Option.some y) (hq:Q y):En tot Q o:=by rw [h]; exact .some hq
theorem En.isSome {o:Option α} (h:En True Q o):o.isSome = true:=by obtain ⟨y,hy,_⟩:=h.ends; rw [hy]; rfl
theorem En.lim {g:Nat→Option α} (k:Nat) (h:∀ n,En (k≤n) Q (g n)):En tot Q (t7 g):=by
  refine ⟨fun _=>?_,fun y e=>?_⟩
  · obtain ⟨x,hx⟩:=(h k).1 (Nat.le_refl k)
    obtain ⟨m,y,_,hy⟩:=WC hx
    exact ⟨y,hy⟩
  · obtain ⟨n,hn⟩:=Mi e
    exact (h n).2 y hn
theorem En.fix {σ ρ:Type} {R:ρ→Prop} {f:σ→Option (σ ⊕ ρ)} (I:σ→Prop) (μ:σ→Nat)
    (h:∀ s,I s→En tot (fun x=>match x with | .inl s'=>I s'∧μ s' < μ s | .inr r=>R r) (f s)):∀ (n:Nat) (s:σ),μ s < n→I s→En tot R (fixL f s)
  | 0,s,hn,_=>by omega
  | n+1,s,hn,hs=>by
    rw [bS]
    refine En.bind (h s hs) fun x hx=>?_
    cases x with
    | inl s'=>exact En.fix I μ h n s' (by have:=hx.2; omega) hx.1
    | inr r=>exact .some hx
theorem En.fixL {σ ρ:Type} {R:ρ→Prop} {f:σ→Option (σ ⊕ ρ)} {s:σ} (I:σ→Prop) (μ:σ→Nat) (hs:I s)
    (h:∀ s,I s→En tot (fun x=>match x with | .inl s'=>I s'∧μ s' < μ s | .inr r=>R r) (f s)):En tot R (fixL f s) :=
  En.fix I μ h (μ s+1) s (by omega) hs
end
def Bq (v:aF):Prop:=0≤v.Num∧v.Num≤4000∧0≤v.Den∧v.Den≤10000
theorem Sx (v:aF) (h:Bq v):∃ b,eT v = some b∧(b = true→1≤v.Den):=by
  obtain ⟨n,d⟩:=v
  obtain ⟨h1,h2,h3,h4⟩:=h
  simp only [] at h1 h2 h3 h4
  obtain ⟨n,rfl⟩:=Int.eq_ofNat_of_zero_le h1
  obtain ⟨d,rfl⟩:=Int.eq_ofNat_of_zero_le h3
  unfold eT; simp only [fZ,oT]
  have e1:=mN (n:Int) h1 (by omega)
  have e2:=AW n d
  simp only [e1,oY,Option.isSome_some,Hd d (by omega),e2]
  rw [aE (by simp),aE (by simp)]
  refine ⟨_,rfl,fun hb=>?_⟩
  by_cases hd:(1:Int)≤(d:Int)
  · exact hd
  · rw [show decide ((1:Int)≤(d:Int)) = false by simp; omega] at hb
    cases hb
theorem Wa:(ak [48,49,50,51,52,53,54,55,56,57]).size = 10:=by kernel_rfl
theorem Qr (d:Int) (h:0≤d) (h':d < 10):((ak [48,49,50,51,52,53,54,55,56,57]).extract (Int.toNat d) (Int.toNat (ai (d+1)))).size = 1:=by
  rw [ByteArray.size_extract,Wa,bu (by omega) (by omega)]
  omega
theorem Qs (n:Int) (h:0≤n) (h':n≤1000000):En True (fun s=>s.size≤1000001) (p6 n 1):=by
  unfold p6; simp only [tJ,oT]; unfold ue
  refine En.bind (R:=fun s=>s.size≤1000001) ?_ fun y hy=>?_
  · refine En.fixL (fun (s:Int × ByteArray)=>0≤s.1∧s.1≤1000000∧(s.2.size:Int)+s.1≤1000001∧(s.1 = 0→(s.2.size:Int)≤1000001)) (fun s=>(s.1+(1000001 - s.2.size)).toNat) ⟨h,h', ?_, ?_⟩ ?_
    · have:(ak []).size = 0:=by kernel_rfl
      simp only [this]
      omega
    · intro e
      have:(ak []).size = 0:=by kernel_rfl
      simp only [this]
      omega
    · rintro ⟨n,s⟩ ⟨h1,h2,h3,h4⟩
      simp only [] at h1 h2 h3 h4
      show En True _ (pf n 1 s).opt
      simp only [pf,oT]
      refine En.bif (fun hc=>?_) (fun hc=>?_)
      · have hd:0 < n∨s.size = 0:=by
          rw [m3] at hc
          simp at hc
          omega
        have ht:Int.tmod n 10 = n % 10:=by rw [Int.tmod_eq_emod_of_nonneg h1]
        have hq:Int.tdiv n 10 = n / 10:=by rw [Int.tdiv_eq_ediv_of_nonneg h1]
        have hz:=Qr (n % 10) (by omega) (by omega)
        rw [ht,hq]
        refine En.gd ⟨by omega, ?_, ?_⟩ (En.gd ?_ (En.some ⟨⟨?_, ?_, ?_, ?_⟩, ?_⟩))
        · rw [bu (by omega) (by omega)]; omega
        · rw [bu (by omega) (by omega)]; omega
        · rw [hz]; omega
        · simp only []; rw [bu (by omega) (by omega)]; omega
        · simp only []; rw [bu (by omega) (by omega)]; omega
        · simp only [ByteArray.size_append,hz]; rw [bu (by omega) (by omega)]; omega
        · intro _; simp only [ByteArray.size_append,hz]; omega
        · simp only [ByteArray.size_append,hz]; rw [bu (by omega) (by omega)]; omega
      · refine En.some ?_
        simp only []
        omega
  · exact .some hy
theorem Ou (q:Int) (h:0≤q) (h':q≤1000000):En True (fun s=>s.size≤1000001) (jS ⟨q,1⟩):=by
  obtain ⟨k,rfl⟩:=Int.eq_ofNat_of_zero_le h
  unfold jS; simp only [kN,oT]
  rw [show eT ⟨(k:Int),1⟩ = some true from Mp k 1 (by omega) (by omega) (by omega) (Nat.gcd_one_right k)]
  simp only [Option.bind_some,Bool.not_true,cond_false]
  rw [mN (k:Int) h (by omega),Option.bind_some,bu (by omega) (by omega)]
  refine En.bind (Qs k h h') fun s hs=>?_
  rw [show decide ((k:Int) < 0) = false by simp,cond_false]
  simp only [iC,oT]
  exact .some hs
theorem DD (dim:Int) (s:ByteArray) (rest k:Int) (X:Nat) (hX:X≤2000000) (h:0≤rest) (hs:s.size≤X) (hk:0 < k) (hk2:k≤1000) (hr:rest / k < 10) (hr0:0≤rest / k) :
    En True (fun x=>match x with | .inl s'=>s'.1.size≤X+1∧s'.2.1 = rest % k∧s'.2.2 = k / 10 | .inr s'=>s'.size≤X) (eF dim s rest k).opt:=by
  simp only [eF,oT]
  rw [Int.tdiv_eq_ediv_of_nonneg h,Int.tmod_eq_emod_of_nonneg h,Int.tdiv_eq_ediv_of_nonneg (by omega:0≤k),bu (n:=rest / k) (by omega) (by omega)]
  have hz:=Qr (rest / k) hr0 hr
  generalize rest / k = q at *
  refine En.bif (fun _=>?_) fun _=>.some hs
  refine En.gd (by omega) (En.gd (by omega) (En.gd ⟨hr0, ?_, ?_⟩ (En.gd ?_ (En.gd (by omega) (En.some ⟨?_,rfl, ?_⟩)))))
  · rw [bu (by omega) (by omega)]; omega
  · rw [bu (by omega) (by omega)]; omega
  · rw [hz]; omega
  · simp only [ByteArray.size_append,hz]; omega
  · simp only []; rw [bu (by omega) (by omega)]
theorem akQ (dim:Int) (s:ByteArray) (rk:Nat) (h:rk < 10000) (hd:2≤dim) (hd':dim≤4) (_:0≤(rk:Int)) (hs:s.size≤1000002):En True (fun _=>True) (eD dim s (rk:Int)).opt:=by
  simp only [eD,oT]; unfold ln
  refine En.bind (R:=fun s=>s.size≤1000010) ?_ fun y hy=>?_
  · refine En.fixL (fun (s:ByteArray × Int × Int)=>0≤s.2.1∧((s.2.2 = 1000∧s.2.1 < 10000∧s.1.size≤1000002)∨(s.2.2 = 100∧s.2.1 < 1000∧s.1.size≤1000003)∨(s.2.2 = 10∧s.2.1 < 100∧s.1.size≤1000004)∨(s.2.2 = 1∧s.2.1 < 10∧s.1.size≤1000005)∨(s.2.2 = 0∧s.2.1 = 0∧s.1.size≤1000006))) (fun s=>s.2.2.toNat) ⟨by simp only []; omega, .inl ⟨rfl,by simp only []; omega,hs⟩⟩ ?_
    rintro ⟨s,rest,k⟩ ⟨h0,hk⟩
    simp only [] at h0 hk
    show En True _ (eF dim s rest k).opt
    rcases hk with ⟨rfl,hr,hz⟩ | ⟨rfl,hr,hz⟩ | ⟨rfl,hr,hz⟩ | ⟨rfl,hr,hz⟩ | ⟨rfl,rfl,hz⟩
    · refine (DD dim s rest _ _ (by omega) h0 hz (by omega) (by omega) (by omega) (by omega)).weak fun x hx=>?_
      rcases x with ⟨s',r',k'⟩ | s' <;> simp only [] at hx ⊢ <;> omega
    · refine (DD dim s rest _ _ (by omega) h0 hz (by omega) (by omega) (by omega) (by omega)).weak fun x hx=>?_
      rcases x with ⟨s',r',k'⟩ | s' <;> simp only [] at hx ⊢ <;> omega
    · refine (DD dim s rest _ _ (by omega) h0 hz (by omega) (by omega) (by omega) (by omega)).weak fun x hx=>?_
      rcases x with ⟨s',r',k'⟩ | s' <;> simp only [] at hx ⊢ <;> omega
    · refine (DD dim s rest _ _ (by omega) h0 hz (by omega) (by omega) (by omega) (by omega)).weak fun x hx=>?_
      rcases x with ⟨s',r',k'⟩ | s' <;> simp only [] at hx ⊢ <;> omega
    · simp only [eF,oT]
      rw [show decide ((0:Int) < 0) = false from rfl,cond_false]
      exact .some (by simp only []; omega)
  · show En True _ (iN dim y).opt
    simp only [iN,oT]
    have hc:dim = 2∨dim = 3∨dim = 4:=by omega
    rcases hc with rfl | rfl | rfl
    all_goals
      refine En.gd (by rw [bu (by omega) (by omega)]; omega) (En.gd ?_ (.some trivial))
    · have:(([(ak []),(ak [100]),(ak [109])]:List ByteArray).getD (0+(Int.toNat (ai ((2:Int) - 2)))) (ak [])).size = 0:=by kernel_rfl
      rw [this]; omega
    · have:(([(ak []),(ak [100]),(ak [109])]:List ByteArray).getD (0+(Int.toNat (ai ((3:Int) - 2)))) (ak [])).size = 1:=by kernel_rfl
      rw [this]; omega
    · have:(([(ak []),(ak [100]),(ak [109])]:List ByteArray).getD (0+(Int.toNat (ai ((4:Int) - 2)))) (ak [])).size = 1:=by kernel_rfl
      rw [this]; omega
theorem PZ (v:aF) (dim:Int) (h:Bq v):En True (fun _=>True) (kp v dim):=by
  obtain ⟨b,hb,hd⟩:=Sx v h
  obtain ⟨n,d⟩:=v
  obtain ⟨h1,h2,h3,h4⟩:=h
  simp only [] at h1 h2 h3 h4 hd
  unfold kp; simp only [lI,oT]
  rw [hb,Option.bind_some]
  cases b with
  | false =>
    simp only [Bool.not_false,cond_true,Bool.not_true,Bool.false_and]
    exact En.gd (fun h=>nomatch h) (.some trivial)
  | true =>
    have hd:=hd rfl
    obtain ⟨n,rfl⟩:=Int.eq_ofNat_of_zero_le h1
    obtain ⟨d,rfl⟩:=Int.eq_ofNat_of_zero_le h3
    refine En.gd (fun _=>by show (d:Int)≠0; omega) (En.bif (fun _=>.some trivial) fun hc=>?_)
    simp only [m3,Bool.or_eq_false_iff,Bool.not_true,decide_eq_false_iff_not,bne_eq_false_iff_eq,Int.not_lt] at hc
    obtain ⟨⟨⟨-,hm⟩,hd2⟩,hd4⟩:=hc
    have hm:10000 % d = 0:=by
      have:=ZD 10000 d
      have e:((10000:Nat):Int) = 10000:=rfl
      rw [e] at this
      omega
    obtain ⟨k,hk⟩:=Nat.dvd_of_mod_eq_zero hm
    have hd0:0 < d:=by omega
    have hq:10000 / d = k:=by rw [hk]; exact Nat.mul_div_cancel_left k hd0
    have ed:Int.tdiv (n:Int) (d:Int) = ((n / d:Nat):Int):=NS n d
    have ek:Int.tdiv 10000 (d:Int) = (k:Int):=by rw [show (10000:Int) = ((10000:Nat):Int) from rfl,NS,hq]
    have hle:n / d≤n:=Nat.div_le_self n d
    have hk1:k≤10000:=by rw [← hq]; exact Nat.div_le_self _ _
    have hmul:n / d*d≤n:=Nat.div_mul_le_self n d
    have hrem:n - n / d*d = n % d:=by have:=Nat.div_add_mod n d; rw [Nat.mul_comm] at this; omega
    have hlt:n % d < d:=Nat.mod_lt _ hd0
    have hr:(n % d)*k < 10000:=by
      have hk0:0 < k:=by
        rcases Nat.eq_zero_or_pos k with h | h
        · rw [h] at hk; simp at hk
        · exact h
      rw [hk]
      exact Nat.mul_lt_mul_of_pos_right hlt hk0
    generalize n / d = q at *
    generalize n % d = r at *
    generalize hrk:r*k = rk at *
    have hrest:ai (ai ((n:Int) - ai (ai (Int.tdiv (n:Int) (d:Int))*(d:Int)))*ai (Int.tdiv 10000 (d:Int))) = (rk:Int):=by
      rw [ed,ek,bu (n:=(q:Int)) (by omega) (by omega), ← Int.natCast_mul]
      generalize q*d = qd at *
      rw [bu (n:=(qd:Int)) (by omega) (by omega),show (n:Int) - (qd:Int) = (r:Int) by omega,
        bu (n:=(r:Int)) (by omega) (by omega),bu (n:=(k:Int)) (by omega) (by omega), ← Int.natCast_mul,hrk,bu (by omega) (by omega)]
    show En True _ (gd ((d:Int)≠0) _)
    refine En.gd (by omega) (En.bif (fun _=>.some trivial) fun _=>?_)
    simp only [hrest]
    rw [ed,bu (n:=(q:Int)) (by omega) (by omega)]
    have tail:∀ s:ByteArray,s.size≤1000002→En True (fun _=>True) (eD dim s (rk:Int)).opt:=fun s hs=>akQ dim s rk (by omega) (by omega) (by omega) (by omega) hs
    refine En.bind (Ou _ (by omega) (by omega)) fun s hs=>?_
    have hs1:(ak [46]).size = 1:=by kernel_rfl
    refine En.gd (by omega) (En.bif (fun _=>En.gd ?_ (tail _ ?_)) fun _=>tail _ (by omega))
    · omega
    · rw [ByteArray.size_append]
      omega
end Go.Ax
