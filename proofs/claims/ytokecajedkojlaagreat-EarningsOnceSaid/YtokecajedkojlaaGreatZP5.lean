import Derived.Test.YtokecajedkojlaaGreatZP4
set_option linter.all false
/- Raw numbers, the texts of statutes and the made laws: their making ends. -/
set_option maxRecDepth 100000
namespace Go.Ax
theorem Gg (n:Int) {m:Int} (h:0 < m):(n.tmod m = n % m)∨(n.tmod m = n % m - m∧n % m≠0):=by
  rw [Int.tmod_eq_emod]
  split
  · left; omega
  · next hc =>
    right
    rw [not_or] at hc
    refine ⟨?_,fun h0=>hc.2 (Int.dvd_of_emod_eq_zero h0)⟩
    have:(m.natAbs:Int) = m:=by omega
    omega
theorem KL (n m:Int) (h:0 < m) (h':m≤9223372036854775807):am n m = some (n % m):=by
  rw [Mi,aT (by omega)]
  have h1:=Int.emod_nonneg n (show m≠0 by omega)
  have h2:=Int.emod_lt_of_pos n h
  rcases Gg n h with hc | ⟨hc,hz⟩
  · rw [hc,aE (by omega)]; rfl
  · rw [hc,aB (by omega),cond_true,ah (by omega) (by omega)]
    congr 1; omega
theorem Wo (n m:Int) (h:0 < m) (h':m≤9223372036854775807):En (fun y=>0≤y∧y < m) (am n m) :=
  .of (KL n m h h') ⟨Int.emod_nonneg _ (by omega),Int.emod_lt_of_pos _ h⟩
theorem lh {α:Type} {Q:α→Prop} {n m:Int} {f:Int→Option α} (h:0 < m∧m≤100000000) (hf:∀ y,0≤y→y < m→En Q (f y)):En Q ((am n m).bind f) :=
  .bind (Wo n m h.1 (by omega)) fun y hy=>hf y hy.1 hy.2
theorem Az (n k:Int) (h:k≤4611686018427387903):su n k = some (if k < 1 then 0 else n % k):=by
  rw [M7]
  by_cases hk:k < 1
  · rw [aB hk,if_pos hk]; rfl
  · have h0:0 < k:=by omega
    have a:=Int.emod_nonneg n (show k≠0 by omega)
    have b:=Int.emod_lt_of_pos n h0
    have c:=Gg n h0
    have d:0≤n.tmod k+k:=by omega
    rw [aE hk,if_neg hk,cond_false,aT (by omega),aT (by omega),ah (by omega) (by omega),Int.tmod_eq_emod_of_nonneg d]
    congr 1
    rcases c with c | ⟨c,_⟩
    · rw [c,Int.add_emod_right,Int.emod_emod_of_dvd _ (Int.dvd_refl k)]
    · rw [c,show n % k - k+k = n % k by omega,Int.emod_emod_of_dvd _ (Int.dvd_refl k)]
theorem WI {α:Type} {Q:α→Prop} {n k:Int} {f:Int→Option α} (h:0 < k∧k≤1000000000) (hf:∀ y,0≤y→y < k→En Q (f y)):En Q ((su n k).bind f):=by
  rw [Az n k (by omega),Option.bind_some,if_neg (by omega)]
  exact hf _ (Int.emod_nonneg _ (by omega)) (Int.emod_lt_of_pos _ h.1)
theorem UI (n:List Int) (i:Int) (h:n.length≤100000000):En (fun _=>True) (ax n i):=by
  rw [Nh]
  refine En.ifi (fun _=>.some trivial) fun h0=>lh (by omega) fun y h1 h2=>En.gd h1 (En.gd h2 (.some trivial))
theorem jU {α:Type} {Q:α→Prop} {n:List Int} {i:Int} {f:Int→Option α} (h:n.length≤100000000) (hf:∀ y,En Q (f y)):En Q ((ax n i).bind f) :=
  .bind (UI n i h) fun y _=>hf y
theorem OO:∀ (k:Nat) (n:Int) (s:ByteArray),0≤n→n < 10 ^ k→s.size+k≤20→k≤9→En (fun y=>y.size≤s.size+k+1) (lr n s):=by
  intro k
  have hb:(ac [48,49,50,51,52,53,54,55,56,57]).size = 10:=rfl
  have last:∀ (n:Int) (s:ByteArray) (j:Nat),0≤n→n≤9→s.size≤20→En (fun y=>y.size≤s.size+j+1) (gb (aa (0≤n))<|gb (aa (n≤(ab (n+1))))<|gb (aa ((ab (n+1))≤10)) <|
      gb (aa (((ByteArray.size (ByteArray.extract (ac [48,49,50,51,52,53,54,55,56,57]) n.toNat (ab (n+1)).toNat))+(ByteArray.size s))≤9223372036854775807)) <|
      some ((ByteArray.extract (ac [48,49,50,51,52,53,54,55,56,57]) n.toNat (ab (n+1)).toNat)++s)):=by
    intro n s j h0 h9 hs
    rw [ah (by omega) (by omega)]
    have e:(ByteArray.extract (ac [48,49,50,51,52,53,54,55,56,57]) n.toNat (n+1).toNat).size = 1:=by rw [ByteArray.size_extract,hb]; omega
    exact En.gd h0 (En.gd (by omega) (En.gd (by omega) (En.gd (by rw [e]; omega) (.some (by rw [ByteArray.size_append,e]; omega)))))
  induction k with
  | zero =>
    intro n s h0 hn hs _
    rw [rH]
    have:n = 0:=by simp at hn; omega
    subst this
    exact En.ifd (fun h=>by omega) fun _=>last 0 s 0 (by omega) (by omega) hs
  | succ k ih =>
    intro n s h0 hn hs hk
    rw [rH]
    refine En.ifd (fun h=>?_) fun h=>last n s (k+1) h0 (by omega) (by omega)
    have a1:Int.tmod n 10 = n % 10:=Int.tmod_eq_emod_of_nonneg h0
    have a2:Int.tdiv n 10 = n / 10:=Int.tdiv_eq_ediv_of_nonneg h0
    have hp:(10:Int) ^ (k+1)≤1000000000:=by
      have:∀ j:Nat,j≤9→(10:Int) ^ j≤1000000000:=by decide
      exact this _ (by omega)
    rw [a1,a2,ah (n:=n % 10+1) (by omega) (by omega),ah (n:=n / 10) (by omega) (by omega)]
    have e:(ByteArray.extract (ac [48,49,50,51,52,53,54,55,56,57]) (n % 10).toNat (n % 10+1).toNat).size = 1:=by rw [ByteArray.size_extract,hb]; omega
    refine En.gd (by omega) (En.gd (by omega) (En.gd (by omega) (En.gd (by rw [e]; omega) ?_)))
    refine (ih (n / 10) _ (by omega) ?_ (by rw [ByteArray.size_append,e]; omega) (by omega)).weak fun y hy=>by rw [ByteArray.size_append,e] at hy; omega
    rw [Int.pow_succ] at hn
    omega
theorem Rt {n:Int} (h0:0≤n) (h:n≤99999999):En (fun y=>y.size≤9) (bH n):=by
  rw [Jf]
  exact (OO 8 n _ h0 (by omega) (by decide) (by omega)).weak fun y hy=>hy
theorem kZ {α:Type} {Q:α→Prop} {n:Int} {f:ByteArray→Option α} (h:0≤n∧n≤99999999) (hf:∀ y:ByteArray,y.size≤9→En Q (f y)):En Q ((bH n).bind f) :=
  .bind (Rt h.1 h.2) hf
theorem Rh {n:Int} (h0:0≤n) (h:n≤99999999):En (fun y=>y.size≤28) (fK n):=by
  rw [G2]
  rw [ah (n:=Int.tdiv n 100) (by rw [Int.tdiv_eq_ediv_of_nonneg h0]; omega) (by rw [Int.tdiv_eq_ediv_of_nonneg h0]; omega),ah (n:=Int.tdiv n 10) (by rw [Int.tdiv_eq_ediv_of_nonneg h0]; omega) (by rw [Int.tdiv_eq_ediv_of_nonneg h0]; omega),
    Int.tmod_eq_emod_of_nonneg h0,Int.tdiv_eq_ediv_of_nonneg h0,Int.tdiv_eq_ediv_of_nonneg h0,Int.tmod_eq_emod_of_nonneg (by omega)]
  refine kZ (by omega) fun y1 h1=>En.gd (by first | omega | (simp only [ByteArray.size_append,aq,List.length_cons,List.length_nil,Nat.zero_add,Nat.reduceAdd,Int.natCast_add]; omega)) (kZ (by omega) fun y2 h2=>En.gd (by first | omega | (simp only [ByteArray.size_append,aq,List.length_cons,List.length_nil,Nat.zero_add,Nat.reduceAdd,Int.natCast_add]; omega)) (kZ (by omega) fun y3 h3=>En.gd (by first | omega | (simp only [ByteArray.size_append,aq,List.length_cons,List.length_nil,Nat.zero_add,Nat.reduceAdd,Int.natCast_add]; omega)) (.some (by first | omega | (simp only [ByteArray.size_append,aq,List.length_cons,List.length_nil,Nat.zero_add,Nat.reduceAdd,Int.natCast_add]; omega)))))
theorem qM {α:Type} {Q:α→Prop} {n:Int} {f:ByteArray→Option α} (h:0≤n∧n≤99999999) (hf:∀ y:ByteArray,y.size≤28→En Q (f y)):En Q ((fK n).bind f) :=
  .bind (Rh h.1 h.2) hf
theorem Uc (state:Int):(gD [(ac [97,108,98,97]),(ac [98,111,114,97]),(ac [99,101,100,97,114])] state.toNat (ac [])).size≤5:=by
  match state.toNat with
  | 0=>decide
  | 1=>decide
  | 2=>decide
  | n+3=>exact Nat.zero_le _
section
variable {n:List Int} (hn:n.length≤100000000)
include hn
theorem Pi (xat:Int) (s:ByteArray) (hs:s.size≤5000):En (fun y=>y.size≤s.size+100) (ii n xat s):=by
  rw [wD]
  repeat' first
    | refine jU ‹_› fun _=>?_
    | refine lh (by decide) fun _ _ _=>?_
    | refine kZ (by first | omega | (rw [ah (by omega) (by omega)]; omega)) fun _ _=>?_
    | refine qM (by first | omega | (rw [ah (by omega) (by omega)]; omega)) fun _ _=>?_
    | refine En.gd (by first | omega | (simp only [ByteArray.size_append,aq,List.length_cons,List.length_nil,Nat.zero_add,Nat.reduceAdd,Int.natCast_add]; omega)) ?_
    | refine En.bif (fun _=>?_) (fun _=>?_)
    | exact En.some (by first | omega | (simp only [ByteArray.size_append,aq,List.length_cons,List.length_nil,Nat.zero_add,Nat.reduceAdd,Int.natCast_add]; omega))
theorem QL (xat:Int) (s:ByteArray) (hs:s.size≤4000):En (fun y=>y.size≤s.size+500) (iV n xat s):=by
  rw [xW]
  repeat' first
    | refine jU ‹_› fun _=>?_
    | refine lh (by decide) fun _ _ _=>?_
    | refine kZ (by first | omega | (rw [ah (by omega) (by omega)]; omega)) fun _ _=>?_
    | refine qM (by first | omega | (rw [ah (by omega) (by omega)]; omega)) fun _ _=>?_
    | refine En.gd (by first | omega | (simp only [ByteArray.size_append,aq,List.length_cons,List.length_nil,Nat.zero_add,Nat.reduceAdd,Int.natCast_add]; omega)) ?_
    | refine En.bif (fun _=>?_) (fun _=>?_)
    | exact En.some (by first | omega | (simp only [ByteArray.size_append,aq,List.length_cons,List.length_nil,Nat.zero_add,Nat.reduceAdd,Int.natCast_add]; omega))
  all_goals exact (Pi hn _ _ (by first | omega | (simp only [ByteArray.size_append,aq,List.length_cons,List.length_nil,Nat.zero_add,Nat.reduceAdd,Int.natCast_add]; omega))).weak fun y hy=>by revert hy; (first | omega | (simp only [ByteArray.size_append,aq,List.length_cons,List.length_nil,Nat.zero_add,Nat.reduceAdd,Int.natCast_add]; omega))
set_option maxHeartbeats 4000000 in
theorem S6 (xat:Int) (y s:ByteArray) (hy:y.size≤9) (hs:s.size≤3000):En (fun y=>y.size≤s.size+1500) (js n xat y s):=by
  rw [zc]
  repeat' first
    | refine jU ‹_› fun _=>?_
    | refine lh (by decide) fun _ _ _=>?_
    | refine kZ (by first | omega | (rw [ah (by omega) (by omega)]; omega)) fun _ _=>?_
    | refine qM (by first | omega | (rw [ah (by omega) (by omega)]; omega)) fun _ _=>?_
    | refine En.gd (by first | omega | (simp only [ByteArray.size_append,aq,List.length_cons,List.length_nil,Nat.zero_add,Nat.reduceAdd,Int.natCast_add]; omega)) ?_
    | refine En.bif (fun _=>?_) (fun _=>?_)
    | exact En.some (by first | omega | (simp only [ByteArray.size_append,aq,List.length_cons,List.length_nil,Nat.zero_add,Nat.reduceAdd,Int.natCast_add]; omega))
  all_goals exact (QL hn _ _ (by first | omega | (simp only [ByteArray.size_append,aq,List.length_cons,List.length_nil,Nat.zero_add,Nat.reduceAdd,Int.natCast_add]; omega))).weak fun y hy=>by revert hy; (first | omega | (simp only [ByteArray.size_append,aq,List.length_cons,List.length_nil,Nat.zero_add,Nat.reduceAdd,Int.natCast_add]; omega))
theorem Sy (xat:Int) (y s:ByteArray) (hy:y.size≤9) (hs:s.size≤2900):En (fun y=>y.size≤s.size+1600) (jk n xat y s):=by
  rw [zB]
  repeat' first
    | refine jU ‹_› fun _=>?_
    | refine lh (by decide) fun _ _ _=>?_
    | refine kZ (by first | omega | (rw [ah (by omega) (by omega)]; omega)) fun _ _=>?_
    | refine qM (by first | omega | (rw [ah (by omega) (by omega)]; omega)) fun _ _=>?_
    | refine En.gd (by first | omega | (simp only [ByteArray.size_append,aq,List.length_cons,List.length_nil,Nat.zero_add,Nat.reduceAdd,Int.natCast_add]; omega)) ?_
    | refine En.bif (fun _=>?_) (fun _=>?_)
    | exact En.some (by first | omega | (simp only [ByteArray.size_append,aq,List.length_cons,List.length_nil,Nat.zero_add,Nat.reduceAdd,Int.natCast_add]; omega))
  all_goals exact (S6 hn _ _ _ hy (by first | omega | (simp only [ByteArray.size_append,aq,List.length_cons,List.length_nil,Nat.zero_add,Nat.reduceAdd,Int.natCast_add]; omega))).weak fun y hy=>by revert hy; (first | omega | (simp only [ByteArray.size_append,aq,List.length_cons,List.length_nil,Nat.zero_add,Nat.reduceAdd,Int.natCast_add]; omega))
theorem UJ (xat:Int) (y s:ByteArray) (hy:y.size≤9) (hs:s.size≤2500):En (fun y=>y.size≤s.size+1900) (fh n xat y s):=by
  rw [AQ]
  repeat' first
    | refine jU ‹_› fun _=>?_
    | refine lh (by decide) fun _ _ _=>?_
    | refine kZ (by first | omega | (rw [ah (by omega) (by omega)]; omega)) fun _ _=>?_
    | refine qM (by first | omega | (rw [ah (by omega) (by omega)]; omega)) fun _ _=>?_
    | refine En.gd (by first | omega | (simp only [ByteArray.size_append,aq,List.length_cons,List.length_nil,Nat.zero_add,Nat.reduceAdd,Int.natCast_add]; omega)) ?_
    | refine En.bif (fun _=>?_) (fun _=>?_)
    | exact En.some (by first | omega | (simp only [ByteArray.size_append,aq,List.length_cons,List.length_nil,Nat.zero_add,Nat.reduceAdd,Int.natCast_add]; omega))
  all_goals exact (Sy hn _ _ _ hy (by first | omega | (simp only [ByteArray.size_append,aq,List.length_cons,List.length_nil,Nat.zero_add,Nat.reduceAdd,Int.natCast_add]; omega))).weak fun y hy=>by revert hy; (first | omega | (simp only [ByteArray.size_append,aq,List.length_cons,List.length_nil,Nat.zero_add,Nat.reduceAdd,Int.natCast_add]; omega))
theorem OB (xfrom:ByteArray) (xat:Int) (hx:xfrom.size≤100):En (fun y=>y.size≤2100) (lZ xfrom n xat):=by
  rw [Fv]
  repeat' first
    | refine jU ‹_› fun _=>?_
    | refine lh (by decide) fun _ _ _=>?_
    | refine kZ (by first | omega | (rw [ah (by omega) (by omega)]; omega)) fun _ _=>?_
    | refine qM (by first | omega | (rw [ah (by omega) (by omega)]; omega)) fun _ _=>?_
    | refine En.gd (by first | omega | (simp only [ByteArray.size_append,aq,List.length_cons,List.length_nil,Nat.zero_add,Nat.reduceAdd,Int.natCast_add]; omega)) ?_
    | refine En.bif (fun _=>?_) (fun _=>?_)
    | exact En.some (by first | omega | (simp only [ByteArray.size_append,aq,List.length_cons,List.length_nil,Nat.zero_add,Nat.reduceAdd,Int.natCast_add]; omega))
  all_goals exact (UJ hn _ _ _ ‹_› (by first | omega | (simp only [ByteArray.size_append,aq,List.length_cons,List.length_nil,Nat.zero_add,Nat.reduceAdd,Int.natCast_add]; omega))).weak fun y hy=>by revert hy; (first | omega | (simp only [ByteArray.size_append,aq,List.length_cons,List.length_nil,Nat.zero_add,Nat.reduceAdd,Int.natCast_add]; omega))
theorem J4 (state:Int) (s:ByteArray) (hs:s.size≤5000):En (fun y=>y.size≤8000) (od state n s):=by
  rw [E5]
  refine jU hn fun _=>lh (by decide) fun r h1 h2=>En.bif (fun _=>?_) fun _=>En.gd (by first | omega | (simp only [ByteArray.size_append,aq,List.length_cons,List.length_nil,Nat.zero_add,Nat.reduceAdd,Int.natCast_add]; omega)) (.some (by first | omega | (simp only [ByteArray.size_append,aq,List.length_cons,List.length_nil,Nat.zero_add,Nat.reduceAdd,Int.natCast_add]; omega)))
  exact .bind (OB hn _ _ (by rw [aq]; decide)) fun y hy=>En.gd (by first | omega | (simp only [ByteArray.size_append,aq,List.length_cons,List.length_nil,Nat.zero_add,Nat.reduceAdd,Int.natCast_add]; omega)) (En.gd (by first | omega | (simp only [ByteArray.size_append,aq,List.length_cons,List.length_nil,Nat.zero_add,Nat.reduceAdd,Int.natCast_add]; omega)) (.some (by first | omega | (simp only [ByteArray.size_append,aq,List.length_cons,List.length_nil,Nat.zero_add,Nat.reduceAdd,Int.natCast_add]; omega))))
theorem Vr (state:Int) (h0:0≤state) (h3:state < 3):En (fun y=>y.size≤8000) (B0 state n):=by
  rw [LB,ah (n:=1+state) (by omega) (by omega)]
  have hg:=Uc state
  generalize (gD [(ac [97,108,98,97]),(ac [98,111,114,97]),(ac [99,101,100,97,114])] state.toNat (ac [])) = nm at hg
  refine En.gd h0 (En.gd h3 (En.gd (by first | omega | (simp only [ByteArray.size_append,aq,List.length_cons,List.length_nil,Nat.zero_add,Nat.reduceAdd,Int.natCast_add]; omega)) (En.gd (by first | omega | (simp only [ByteArray.size_append,aq,List.length_cons,List.length_nil,Nat.zero_add,Nat.reduceAdd,Int.natCast_add]; omega)) (kZ (by omega) fun y1 h1=>En.gd (by first | omega | (simp only [ByteArray.size_append,aq,List.length_cons,List.length_nil,Nat.zero_add,Nat.reduceAdd,Int.natCast_add]; omega)) (En.gd (by first | omega | (simp only [ByteArray.size_append,aq,List.length_cons,List.length_nil,Nat.zero_add,Nat.reduceAdd,Int.natCast_add]; omega)) (.bind (OB hn _ _ (by rw [aq]; decide)) fun y2 h2=>En.gd (by first | omega | (simp only [ByteArray.size_append,aq,List.length_cons,List.length_nil,Nat.zero_add,Nat.reduceAdd,Int.natCast_add]; omega)) (jU hn fun _=>lh (by decide) fun r hr1 hr2=>En.bif (fun _=>?_) fun _=>?_)))))))
  · exact .bind (OB hn _ _ (by rw [aq]; decide)) fun y3 h3=>En.gd (by first | omega | (simp only [ByteArray.size_append,aq,List.length_cons,List.length_nil,Nat.zero_add,Nat.reduceAdd,Int.natCast_add]; omega)) (J4 hn _ _ (by first | omega | (simp only [ByteArray.size_append,aq,List.length_cons,List.length_nil,Nat.zero_add,Nat.reduceAdd,Int.natCast_add]; omega)))
  · exact J4 hn _ _ (by first | omega | (simp only [ByteArray.size_append,aq,List.length_cons,List.length_nil,Nat.zero_add,Nat.reduceAdd,Int.natCast_add]; omega))
end
def WB (p:Int):List GRules:=[⟨0,p,730,25,[0,1,2]⟩]
def Wn (p:Int):List GRules:=[⟨0,p,730,25,[0,1]⟩,⟨35000,p,365,30,[0,1,2]⟩]
def Wh (p:Int):List GRules:=[⟨0,p,730,25,[0,1,2]⟩,⟨36000,p,730,25,[0,1]⟩]
def My (t:List GRules):Prop:=∃ p:Int,0≤p∧p≤450∧(t = WB p∨t = Wn p∨t = Wh p)
end Go.Ax
