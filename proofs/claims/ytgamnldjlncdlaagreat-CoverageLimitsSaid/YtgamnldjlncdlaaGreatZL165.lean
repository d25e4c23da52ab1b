import Derived.Test.YtgamnldjlncdlaaGreatZL164
set_option linter.all false
/- How many days a list has. -/
set_option maxRecDepth 100000
namespace Go.Ax
open Go.Proofs
def iA:List ab→Int
  | []=>0
  | s :: r=>(s.To - s.From)+iA r
theorem I7:∀ {l:List ab} {lo:Int},df lo l→∀ s∈l,lo < s.From∧s.From < s.To∧s.To≤73049
  | [],_,_,s,hs=>by simp at hs
  | t :: r,lo,⟨h1,h2,h3,h4⟩,s,hs=>by
    rcases List.mem_cons.1 hs with rfl | hs
    · exact ⟨h1,h2,h3⟩
    · have:=I7 h4 s hs
      exact ⟨by omega,this.2⟩
theorem MF:∀ {l:List ab} {lo:Int},df lo l→lo≤73049→0≤iA l∧iA l≤73049 - lo
  | [],_,_,h=>by unfold iA; omega
  | s :: r,lo,⟨h1,h2,h3,h4⟩,_=>by
    have:=MF h4 h3
    unfold iA
    omega
theorem DQ {l:List ab} (h:df (-1) l):cy l = l:=by
  obtain ⟨c1,c2,_⟩:=cE l
  refine wd c1 h fun d=>?_
  rw [c2]
  exact ⟨And.left,fun hc=>⟨hc,by have:=iV h hc; omega⟩⟩
theorem TF (t:List ab) (ht:∀ s∈t,0≤s.From∧s.From < s.To∧s.To≤73049) (hl:t.length≤1000000):∀ (n i:Nat) (acc:Int),t.length = i+n→0≤acc→acc+iA (t.drop i)≤100000 →
    fixL (lE t) (acc,(i:Int)) = some (acc+iA (t.drop i)):=by
  intro n
  induction n with
  | zero =>
    intro i acc h h0 hb
    have:i = t.length:=by omega
    subst this
    rw [bS]
    show (lm acc t ((t.length:Nat):Int)).opt.bind _ = _
    simp only [lm,oT]
    rw [cu,cond_false,List.drop_length]
    simp [iA]
  | succ n ih =>
    intro i acc h h0 hb
    have hi:i < t.length:=by omega
    have hm:=ht t[i] (List.getElem_mem hi)
    have hpos:0≤iA (t.drop (i+1)):=by
      have:∀ l:List ab,(∀ s∈l,s∈t)→0≤iA l:=by
        intro l
        induction l with
        | nil=>intro _; exact Int.le_refl _
        | cons s r ih =>
          intro hs
          have h1:=ht s (hs s (by simp))
          have h2:=ih fun x hx=>hs x (by simp [hx])
          unfold iA; omega
      exact this _ fun s hs=>List.mem_of_mem_drop hs
    rw [List.drop_eq_getElem_cons hi] at hb ⊢
    unfold iA at hb ⊢
    rw [bS]
    show (lm acc t (i:Int)).opt.bind _ = _
    simp only [lm,oT]
    rw [dH hi,cond_true,aE (bQ hi),aE (bQ hi),fX t _ i hi,cP (by omega),bu (n:=t[i].To - t[i].From) (by omega) (by omega),bu (by omega) (by omega),Option.bind_some]
    show fixL (lE t) (acc+(t[i].To - t[i].From),((i+1:Nat):Int)) = _
    rw [ih (i+1) _ (by omega) (by omega) (by omega)]
    congr 1
    omega
theorem PF (l:List ab) (hn:l.length≤100000):zp l = some (iA (cy l)):=by
  obtain ⟨c1,_,c3⟩:=cE l
  have hr:=MF c1 (by omega)
  show (ll l).bind _ = _
  rw [wW l hn,Option.bind_some]
  show (fixL (lE (cy l)) ((0:Int),(0:Int))).bind _ = _
  have:=TF (cy l) (fun s hs=>by have:=I7 c1 s hs; omega) (by omega) (cy l).length 0 0 (by omega) (by omega) (by rw [List.drop_zero]; omega)
  rw [show ((0:Nat):Int) = 0 from rfl,List.drop_zero,Int.zero_add] at this
  rw [this,Option.bind_some]
  rfl
def my (p:Nat→Bool):Nat→Nat
  | 0=>0
  | n+1=>my p n+(if p n = true then 1 else 0)
theorem Pd {p q:Nat→Bool}:∀ (n:Nat),(∀ i,i < n→p i = true→q i = true)→my p n≤my q n
  | 0,_=>Nat.le_refl _
  | n+1,h=>by
    have:=Pd n fun i hi=>h i (by omega)
    have hn:=h n (by omega)
    unfold my
    cases hp:p n with
    | true=>rw [hn hp]; omega
    | false=>simp; omega
theorem Ul (p q:Nat→Bool):∀ n:Nat,my (fun i=>p i||q i) n≤my p n+my q n
  | 0=>Nat.le_refl _
  | n+1=>by
    have:=Ul p q n
    unfold my
    cases p n <;> cases q n <;> simp <;> omega
theorem MJ (p q:Nat→Bool):∀ n:Nat,(∀ i,i < n→p i = true→q i = true→False)→my (fun i=>p i||q i) n = my p n+my q n
  | 0,_=>rfl
  | n+1,h=>by
    have:=MJ p q n fun i hi=>h i (by omega)
    have hn:=h n (by omega)
    unfold my
    cases hp:p n <;> cases hq:q n
    · simp; omega
    · simp; omega
    · simp; omega
    · exact (hn hp hq).elim
theorem yR {p:Nat→Bool}:∀ n:Nat,(∀ i,i < n→p i = false)→my p n = 0
  | 0,_=>rfl
  | n+1,h=>by
    unfold my
    rw [yR n fun i hi=>h i (by omega),h n (by omega)]
    rfl
theorem Oe (a b:Nat):∀ n:Nat,a≤b→my (fun i=>decide (a≤i)&&decide (i < b)) n = min n b - min n a
  | 0,_=>by simp [my]
  | n+1,h=>by
    have ih:=Oe a b n h
    unfold my
    rw [ih]
    by_cases h1:a≤n
    · by_cases h2:n < b
      · rw [decide_eq_true h1,decide_eq_true h2]; simp; omega
      · rw [decide_eq_true h1,decide_eq_false h2]; simp; omega
    · rw [decide_eq_false h1]; simp; omega
def kI (l:List ab) (n:Nat):Nat:=my (fun i=>jh l (i:Int)) n
theorem Wt (s:ab) (r:List ab) (d:Int):jh (s :: r) d = ((decide (s.From≤d)&&decide (d < s.To))||jh r d):=rfl
theorem I1 (N:Nat) (hN:N = 73049):∀ {l:List ab} {lo:Int},df lo l→-1≤lo→((kI l N:Nat):Int) = iA l
  | [],_,_,_=>by
    have:kI [] N = 0:=yR N fun i _=>rfl
    rw [this]; rfl
  | s :: r,lo,⟨h1,h2,h3,h4⟩,h0=>by
    have ih:=I1 N hN h4 (by omega)
    have e:kI (s :: r) N = my (fun i=>decide (s.From.toNat≤i)&&decide (i < s.To.toNat)) N+kI r N:=by
      unfold kI
      have:(fun i:Nat=>jh (s :: r) (i:Int)) = fun i:Nat=>(decide (s.From.toNat≤i)&&decide (i < s.To.toNat))||jh r (i:Int):=by
        funext i
        rw [Wt]
        have a:decide (s.From≤(i:Int)) = decide (s.From.toNat≤i):=by
          by_cases hc:s.From≤(i:Int)
          · rw [decide_eq_true hc,decide_eq_true (by omega)]
          · rw [decide_eq_false hc,decide_eq_false (by omega)]
        have b:decide ((i:Int) < s.To) = decide (i < s.To.toNat):=by
          by_cases hc:(i:Int) < s.To
          · rw [decide_eq_true hc,decide_eq_true (by omega)]
          · rw [decide_eq_false hc,decide_eq_false (by omega)]
        rw [a,b]
      rw [this]
      refine MJ _ _ N fun i hi hp hq=>?_
      rw [Bool.and_eq_true] at hp
      have hp2:=of_decide_eq_true hp.2
      have:=iV h4 (jM.1 hq)
      omega
    have hs:=Oe s.From.toNat s.To.toNat N (by omega)
    unfold iA
    rw [e,hs, ← ih]
    omega
theorem Wj {a b:List ab} (N:Nat) (h:∀ d,0≤d→dD a d→dD b d):kI a N≤kI b N :=
  Pd N fun i _ hi=>jM.2 (h _ (by omega) (jM.1 hi))
theorem Xy (a b:List ab) (N:Nat):kI (a++b) N≤kI a N+kI b N:=by
  have:(fun i:Nat=>jh (a++b) (i:Int)) = fun i:Nat=>jh a (i:Int)||jh b (i:Int):=by
    funext i
    unfold jh
    rw [List.any_append]
  unfold kI
  rw [this]
  exact Ul _ _ N
theorem MY (N L:Nat) (g:Nat→List ab) (p:Nat→Bool) (h1:∀ i,p i = true→kI (g i) N≤L) (h2:∀ i,p i = false→kI (g i) N = 0) :
    ∀ l:List Nat,kI (l.flatMap g) N≤L*(l.filter p).length
  | []=>by
    have:kI [] N = 0:=yR N fun i _=>rfl
    rw [List.flatMap_nil,this]
    omega
  | x :: r=>by
    have ih:=MY N L g p h1 h2 r
    have ha:=Xy (g x) (r.flatMap g) N
    rw [List.flatMap_cons,List.filter_cons]
    cases hp:p x with
    | true =>
      have:=h1 x hp
      rw [if_pos rfl,List.length_cons,Nat.mul_succ]
      omega
    | false =>
      have:=h2 x hp
      rw [if_neg (by simp)]
      omega
theorem Eb:∀ {l:List ab} {lo:Int} (n:Int),df lo l→0≤n→iA (jO n l)≤n
  | [],_,n,_,h=>h
  | s :: r,lo,n,⟨h1,h2,h3,h4⟩,h0=>by
    rw [jO]
    split
    · exact h0
    · split
      · unfold iA; show s.From+n - s.From+0≤n; omega
      · have:=Eb (n - (s.To - s.From)) h4 (by omega)
        unfold iA; omega
theorem zC:∀ {l:List ab} {lo:Int} (n:Int),df lo l→df lo (jO n l)
  | [],_,_,h=>h
  | s :: r,lo,n,⟨h1,h2,h3,h4⟩=>by
    rw [jO]
    split
    · trivial
    · split
      · exact ⟨h1,by show s.From < s.From+n; omega,by show s.From+n≤73049; omega,trivial⟩
      · exact ⟨h1,h2,h3,zC _ h4⟩
theorem IQ:∀ {l:List ab} {n d:Int},dD (jO n l) d→dD l d
  | [],_,_,h=>h
  | s :: r,n,d,h=>by
    rw [jO] at h
    split at h
    · exact absurd h dp
    · split at h
      · rw [cg] at h ⊢
        rcases h with h | h
        · left; simp only [] at h; omega
        · exact absurd h dp
      · rw [cg] at h ⊢
        rcases h with h | h
        · exact .inl h
        · exact .inr (IQ h)
theorem Rf:∀ {a b:List Int},m7 a→m7 b→(∀ x∈a,x∈b)→a.length≤b.length
  | [],b,_,_,_=>Nat.zero_le _
  | x :: r,[],_,_,h=>by have:=h x List.mem_cons_self; cases this
  | x :: r,y :: t,ha,hb,h=>by
    have ha2:=List.pairwise_cons.1 ha
    have hb2:=List.pairwise_cons.1 hb
    have key:∀ z∈r,z∈t:=by
      intro z hz
      have hxz:=ha2.1 z hz
      rcases List.mem_cons.1 (h z (List.mem_cons_of_mem _ hz)) with e | e
      · rcases List.mem_cons.1 (h x List.mem_cons_self) with e2 | e2
        · omega
        · have:=hb2.1 x e2; omega
      · exact e
    have:=Rf ha2.2 hb2.2 key
    rw [List.length_cons,List.length_cons]
    omega
end Go.Ax
