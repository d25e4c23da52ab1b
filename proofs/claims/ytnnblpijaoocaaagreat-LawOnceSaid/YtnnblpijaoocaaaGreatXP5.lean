import Derived.Test.YtnnblpijaoocaaaGreatXP4
set_option linter.all false
/- Raw numbers, the texts of statutes and the made laws: their making ends. -/
set_option maxRecDepth 100000
namespace Go.Ax
theorem FH (n:Int) {m:Int} (h:0 < m):(n.tmod m = n % m)∨(n.tmod m = n % m - m∧n % m≠0):=by
 rw [Int.tmod_eq_emod]
 split
 ·left;omega
 ·next hc =>
  right
  rw [not_or] at hc
  refine ⟨?_,fun h0=>hc.2 (Int.dvd_of_emod_eq_zero h0)⟩
  have:(m.natAbs:Int) = m:=by omega
  omega
theorem JK (n m:Int) (h:0 < m) (h':m≤9223372036854775807):an n m = some (n % m):=by
 rw [Lu,ay (by omega)]
 have h1:=Int.emod_nonneg n (show m≠0 by omega)
 have h2:=Int.emod_lt_of_pos n h
 rcases FH n h with hc | ⟨hc,hz⟩
 ·rw [hc,aJ (by omega)];rfl
 ·rw [hc,ax (by omega),cond_true,al (by omega) (by omega)]
  congr 1;omega
theorem UF (n m:Int) (h:0 < m) (h':m≤9223372036854775807):En (fun y=>0≤y∧y < m) (an n m) :=
 .of (JK n m h h') ⟨Int.emod_nonneg _ (by omega),Int.emod_lt_of_pos _ h⟩
theorem jA {α:Type} {Q:α→Prop} {n m:Int} {f:Int→Option α} (h:0 < m∧m≤9223372036854775807) (hf:∀ y,0≤y→y < m→En Q (f y)):En Q ((an n m).bind f) :=
 .bind (UF n m h.1 (by omega)) fun y hy=>hf y hy.1 hy.2
theorem I9 (n k:Int) (h:k≤4611686018427387903):gK n k = some (if k < 1 then 0 else n % k):=by
 rw [LO]
 by_cases hk:k < 1
 ·rw [ax hk,if_pos hk];rfl
 ·have h0:0 < k:=by omega
  have a:=Int.emod_nonneg n (show k≠0 by omega)
  have b:=Int.emod_lt_of_pos n h0
  have c:=FH n h0
  have d:0≤n.tmod k+k:=by omega
  rw [aJ hk,if_neg hk,cond_false,ay (by omega),ay (by omega),al (by omega) (by omega),Int.tmod_eq_emod_of_nonneg d]
  congr 1
  rcases c with c | ⟨c,_⟩
  ·rw [c,Int.add_emod_right,Int.emod_emod_of_dvd _ (Int.dvd_refl k)]
  ·rw [c,show n % k - k+k = n % k by omega,Int.emod_emod_of_dvd _ (Int.dvd_refl k)]
theorem SC (n:List Int) (i:Int) (h:n.length≤9223372036854775807):En (fun _=>True) (aF n i):=by
 rw [MB]
 refine En.ifi (fun _=>.some trivial) fun h0=>jA (by omega) fun y h1 h2=>En.gd h1 (En.gd h2 (.some trivial))
theorem hU {α:Type} {Q:α→Prop} {n:List Int} {i:Int} {f:Int→Option α} (h:n.length≤9223372036854775807) (hf:∀ y,En Q (f y)):En Q ((aF n i).bind f) :=
 .bind (SC n i h) fun y _=>hf y
theorem MX:∀ (k:Nat) (n:Int) (s:ByteArray),0≤n→n < 10 ^ k→s.size+k≤20→k≤9→En (fun y=>y.size≤s.size+k+1) (kU n s):=by
 intro k
 have hb:(ac [48,49,50,51,52,53,54,55,56,57]).size = 10:=rfl
 have last:∀ (n:Int) (s:ByteArray) (j:Nat),0≤n→n≤9→s.size≤20→En (fun y=>y.size≤s.size+j+1) (gb (aa (0≤n))<|gb (aa (n≤(ab (n+1))))<|gb (aa ((ab (n+1))≤10)) <|
   gb (aa (((ByteArray.size (ByteArray.extract (ac [48,49,50,51,52,53,54,55,56,57]) n.toNat (ab (n+1)).toNat))+(ByteArray.size s))≤9223372036854775807)) <|
   some ((ByteArray.extract (ac [48,49,50,51,52,53,54,55,56,57]) n.toNat (ab (n+1)).toNat)++s)):=by
  intro n s j h0 h9 hs
  rw [al (by omega) (by omega)]
  have e:(ByteArray.extract (ac [48,49,50,51,52,53,54,55,56,57]) n.toNat (n+1).toNat).size = 1:=by rw [ByteArray.size_extract,hb];omega
  exact En.gd h0 (En.gd (by omega) (En.gd (by omega) (En.gd (by rw [e];omega) (.some (by rw [ByteArray.size_append,e];omega)))))
 induction k with
 | zero =>
  intro n s h0 hn hs _
  rw [qM]
  have:n = 0:=by simp at hn;omega
  subst this
  exact En.ifd (fun h=>by omega) fun _=>last 0 s 0 (by omega) (by omega) hs
 | succ k ih =>
  intro n s h0 hn hs hk
  rw [qM]
  refine En.ifd (fun h=>?_) fun h=>last n s (k+1) h0 (by omega) (by omega)
  have a1:Int.tmod n 10 = n % 10:=Int.tmod_eq_emod_of_nonneg h0
  have a2:Int.tdiv n 10 = n / 10:=Int.tdiv_eq_ediv_of_nonneg h0
  have hp:(10:Int) ^ (k+1)≤1000000000:=by
   have:∀ j:Nat,j≤9→(10:Int) ^ j≤1000000000:=by decide
   exact this _ (by omega)
  rw [a1,a2,al (n:=n % 10+1) (by omega) (by omega),al (n:=n / 10) (by omega) (by omega)]
  have e:(ByteArray.extract (ac [48,49,50,51,52,53,54,55,56,57]) (n % 10).toNat (n % 10+1).toNat).size = 1:=by rw [ByteArray.size_extract,hb];omega
  refine En.gd (by omega) (En.gd (by omega) (En.gd (by omega) (En.gd (by rw [e];omega) ?_)))
  refine (ih (n / 10) _ (by omega) ?_ (by rw [ByteArray.size_append,e];omega) (by omega)).weak fun y hy=>by rw [ByteArray.size_append,e] at hy;omega
  rw [Int.pow_succ] at hn
  omega
theorem OL {n:Int} (h0:0≤n) (h:n≤99999999):En (fun y=>y.size≤9) (bT n):=by
 rw [GK]
 exact (MX 8 n _ h0 (by omega) (by decide) (by omega)).weak fun y hy=>hy
theorem kE {α:Type} {Q:α→Prop} {n:Int} {f:ByteArray→Option α} (h:0≤n∧n≤99999999) (hf:∀ y:ByteArray,y.size≤9→En Q (f y)):En Q ((bT n).bind f) :=
 .bind (OL h.1 h.2) hf
theorem Pd {n:Int} (h0:0≤n) (h:n≤99999999):En (fun y=>y.size≤28) (fN n):=by
 rw [EB]
 rw [al (n:=Int.tdiv n 100) (by rw [Int.tdiv_eq_ediv_of_nonneg h0];omega) (by rw [Int.tdiv_eq_ediv_of_nonneg h0];omega),al (n:=Int.tdiv n 10) (by rw [Int.tdiv_eq_ediv_of_nonneg h0];omega) (by rw [Int.tdiv_eq_ediv_of_nonneg h0];omega),
  Int.tmod_eq_emod_of_nonneg h0,Int.tdiv_eq_ediv_of_nonneg h0,Int.tdiv_eq_ediv_of_nonneg h0,Int.tmod_eq_emod_of_nonneg (by omega)]
 refine kE (by omega) fun y1 h1=>En.gd (by first | omega | (simp only [ByteArray.size_append,ar,List.length_cons,List.length_nil,Nat.zero_add,Nat.reduceAdd,Int.natCast_add];omega)) (kE (by omega) fun y2 h2=>En.gd (by first | omega | (simp only [ByteArray.size_append,ar,List.length_cons,List.length_nil,Nat.zero_add,Nat.reduceAdd,Int.natCast_add];omega)) (kE (by omega) fun y3 h3=>En.gd (by first | omega | (simp only [ByteArray.size_append,ar,List.length_cons,List.length_nil,Nat.zero_add,Nat.reduceAdd,Int.natCast_add];omega)) (.some (by first | omega | (simp only [ByteArray.size_append,ar,List.length_cons,List.length_nil,Nat.zero_add,Nat.reduceAdd,Int.natCast_add];omega)))))
theorem pI {α:Type} {Q:α→Prop} {n:Int} {f:ByteArray→Option α} (h:0≤n∧n≤99999999) (hf:∀ y:ByteArray,y.size≤28→En Q (f y)):En Q ((fN n).bind f) :=
 .bind (Pd h.1 h.2) hf
theorem SQ (state:Int):(gD [(ac [97,108,98,97]),(ac [98,111,114,97]),(ac [99,101,100,97,114])] state.toNat (ac [])).size≤5:=by
 match state.toNat with
 | 0=>decide
 | 1=>decide
 | 2=>decide
 | n+3=>exact Nat.zero_le _
section
variable {n:List Int} (hn:n.length≤9223372036854775807)
include hn
theorem Nl (xat:Int) (s:ByteArray) (hs:s.size≤5000):En (fun y=>y.size≤s.size+100) (ij n xat s):=by
 rw [vL]
 repeat' first
  | refine hU ‹_› fun _=>?_
  | refine jA (by decide) fun _ _ _=>?_
  | refine kE (by first | omega | (rw [al (by omega) (by omega)];omega)) fun _ _=>?_
  | refine pI (by first | omega | (rw [al (by omega) (by omega)];omega)) fun _ _=>?_
  | refine En.gd (by first | omega | (simp only [ByteArray.size_append,ar,List.length_cons,List.length_nil,Nat.zero_add,Nat.reduceAdd,Int.natCast_add];omega)) ?_
  | refine En.bif (fun _=>?_) (fun _=>?_)
  | exact En.some (by first | omega | (simp only [ByteArray.size_append,ar,List.length_cons,List.length_nil,Nat.zero_add,Nat.reduceAdd,Int.natCast_add];omega))
theorem O3 (xat:Int) (s:ByteArray) (hs:s.size≤4000):En (fun y=>y.size≤s.size+500) (iI n xat s):=by
 rw [v8]
 repeat' first
  | refine hU ‹_› fun _=>?_
  | refine jA (by decide) fun _ _ _=>?_
  | refine kE (by first | omega | (rw [al (by omega) (by omega)];omega)) fun _ _=>?_
  | refine pI (by first | omega | (rw [al (by omega) (by omega)];omega)) fun _ _=>?_
  | refine En.gd (by first | omega | (simp only [ByteArray.size_append,ar,List.length_cons,List.length_nil,Nat.zero_add,Nat.reduceAdd,Int.natCast_add];omega)) ?_
  | refine En.bif (fun _=>?_) (fun _=>?_)
  | exact En.some (by first | omega | (simp only [ByteArray.size_append,ar,List.length_cons,List.length_nil,Nat.zero_add,Nat.reduceAdd,Int.natCast_add];omega))
 all_goals exact (Nl hn _ _ (by first | omega | (simp only [ByteArray.size_append,ar,List.length_cons,List.length_nil,Nat.zero_add,Nat.reduceAdd,Int.natCast_add];omega))).weak fun y hy=>by revert hy; (first | omega | (simp only [ByteArray.size_append,ar,List.length_cons,List.length_nil,Nat.zero_add,Nat.reduceAdd,Int.natCast_add];omega))
set_option maxHeartbeats 4000000 in
theorem PY (xat:Int) (y s:ByteArray) (hy:y.size≤9) (hs:s.size≤3000):En (fun y=>y.size≤s.size+1500) (je n xat y s):=by
 rw [xQ]
 repeat' first
  | refine hU ‹_› fun _=>?_
  | refine jA (by decide) fun _ _ _=>?_
  | refine kE (by first | omega | (rw [al (by omega) (by omega)];omega)) fun _ _=>?_
  | refine pI (by first | omega | (rw [al (by omega) (by omega)];omega)) fun _ _=>?_
  | refine En.gd (by first | omega | (simp only [ByteArray.size_append,ar,List.length_cons,List.length_nil,Nat.zero_add,Nat.reduceAdd,Int.natCast_add];omega)) ?_
  | refine En.bif (fun _=>?_) (fun _=>?_)
  | exact En.some (by first | omega | (simp only [ByteArray.size_append,ar,List.length_cons,List.length_nil,Nat.zero_add,Nat.reduceAdd,Int.natCast_add];omega))
 all_goals exact (O3 hn _ _ (by first | omega | (simp only [ByteArray.size_append,ar,List.length_cons,List.length_nil,Nat.zero_add,Nat.reduceAdd,Int.natCast_add];omega))).weak fun y hy=>by revert hy; (first | omega | (simp only [ByteArray.size_append,ar,List.length_cons,List.length_nil,Nat.zero_add,Nat.reduceAdd,Int.natCast_add];omega))
theorem Qs (xat:Int) (y s:ByteArray) (hy:y.size≤9) (hs:s.size≤2900):En (fun y=>y.size≤s.size+1600) (ja n xat y s):=by
 rw [xV]
 repeat' first
  | refine hU ‹_› fun _=>?_
  | refine jA (by decide) fun _ _ _=>?_
  | refine kE (by first | omega | (rw [al (by omega) (by omega)];omega)) fun _ _=>?_
  | refine pI (by first | omega | (rw [al (by omega) (by omega)];omega)) fun _ _=>?_
  | refine En.gd (by first | omega | (simp only [ByteArray.size_append,ar,List.length_cons,List.length_nil,Nat.zero_add,Nat.reduceAdd,Int.natCast_add];omega)) ?_
  | refine En.bif (fun _=>?_) (fun _=>?_)
  | exact En.some (by first | omega | (simp only [ByteArray.size_append,ar,List.length_cons,List.length_nil,Nat.zero_add,Nat.reduceAdd,Int.natCast_add];omega))
 all_goals exact (PY hn _ _ _ hy (by first | omega | (simp only [ByteArray.size_append,ar,List.length_cons,List.length_nil,Nat.zero_add,Nat.reduceAdd,Int.natCast_add];omega))).weak fun y hy=>by revert hy; (first | omega | (simp only [ByteArray.size_append,ar,List.length_cons,List.length_nil,Nat.zero_add,Nat.reduceAdd,Int.natCast_add];omega))
theorem Sd (xat:Int) (y s:ByteArray) (hy:y.size≤9) (hs:s.size≤2500):En (fun y=>y.size≤s.size+1900) (fB n xat y s):=by
 rw [yY]
 repeat' first
  | refine hU ‹_› fun _=>?_
  | refine jA (by decide) fun _ _ _=>?_
  | refine kE (by first | omega | (rw [al (by omega) (by omega)];omega)) fun _ _=>?_
  | refine pI (by first | omega | (rw [al (by omega) (by omega)];omega)) fun _ _=>?_
  | refine En.gd (by first | omega | (simp only [ByteArray.size_append,ar,List.length_cons,List.length_nil,Nat.zero_add,Nat.reduceAdd,Int.natCast_add];omega)) ?_
  | refine En.bif (fun _=>?_) (fun _=>?_)
  | exact En.some (by first | omega | (simp only [ByteArray.size_append,ar,List.length_cons,List.length_nil,Nat.zero_add,Nat.reduceAdd,Int.natCast_add];omega))
 all_goals exact (Qs hn _ _ _ hy (by first | omega | (simp only [ByteArray.size_append,ar,List.length_cons,List.length_nil,Nat.zero_add,Nat.reduceAdd,Int.natCast_add];omega))).weak fun y hy=>by revert hy; (first | omega | (simp only [ByteArray.size_append,ar,List.length_cons,List.length_nil,Nat.zero_add,Nat.reduceAdd,Int.natCast_add];omega))
theorem J7 (xfrom:ByteArray) (xat:Int) (hx:xfrom.size≤100):En (fun y=>y.size≤2100) (ld xfrom n xat):=by
 rw [EZ]
 repeat' first
  | refine hU ‹_› fun _=>?_
  | refine jA (by decide) fun _ _ _=>?_
  | refine kE (by first | omega | (rw [al (by omega) (by omega)];omega)) fun _ _=>?_
  | refine pI (by first | omega | (rw [al (by omega) (by omega)];omega)) fun _ _=>?_
  | refine En.gd (by first | omega | (simp only [ByteArray.size_append,ar,List.length_cons,List.length_nil,Nat.zero_add,Nat.reduceAdd,Int.natCast_add];omega)) ?_
  | refine En.bif (fun _=>?_) (fun _=>?_)
  | exact En.some (by first | omega | (simp only [ByteArray.size_append,ar,List.length_cons,List.length_nil,Nat.zero_add,Nat.reduceAdd,Int.natCast_add];omega))
 all_goals exact (Sd hn _ _ _ ‹_› (by first | omega | (simp only [ByteArray.size_append,ar,List.length_cons,List.length_nil,Nat.zero_add,Nat.reduceAdd,Int.natCast_add];omega))).weak fun y hy=>by revert hy; (first | omega | (simp only [ByteArray.size_append,ar,List.length_cons,List.length_nil,Nat.zero_add,Nat.reduceAdd,Int.natCast_add];omega))
theorem I4 (state:Int) (s:ByteArray) (hs:s.size≤5000):En (fun y=>y.size≤8000) (mV state n s):=by
 rw [Dm]
 refine hU hn fun _=>jA (by decide) fun r h1 h2=>En.bif (fun _=>?_) fun _=>En.gd (by first | omega | (simp only [ByteArray.size_append,ar,List.length_cons,List.length_nil,Nat.zero_add,Nat.reduceAdd,Int.natCast_add];omega)) (.some (by first | omega | (simp only [ByteArray.size_append,ar,List.length_cons,List.length_nil,Nat.zero_add,Nat.reduceAdd,Int.natCast_add];omega)))
 exact .bind (J7 hn _ _ (by rw [ar];decide)) fun y hy=>En.gd (by first | omega | (simp only [ByteArray.size_append,ar,List.length_cons,List.length_nil,Nat.zero_add,Nat.reduceAdd,Int.natCast_add];omega)) (En.gd (by first | omega | (simp only [ByteArray.size_append,ar,List.length_cons,List.length_nil,Nat.zero_add,Nat.reduceAdd,Int.natCast_add];omega)) (.some (by first | omega | (simp only [ByteArray.size_append,ar,List.length_cons,List.length_nil,Nat.zero_add,Nat.reduceAdd,Int.natCast_add];omega))))
theorem TQ (state:Int) (h0:0≤state) (h3:state < 3):En (fun y=>y.size≤8000) (Ay state n):=by
 rw [L0,al (n:=1+state) (by omega) (by omega)]
 have hg:=SQ state
 generalize (gD [(ac [97,108,98,97]),(ac [98,111,114,97]),(ac [99,101,100,97,114])] state.toNat (ac [])) = nm at hg
 refine En.gd h0 (En.gd h3 (En.gd (by first | omega | (simp only [ByteArray.size_append,ar,List.length_cons,List.length_nil,Nat.zero_add,Nat.reduceAdd,Int.natCast_add];omega)) (En.gd (by first | omega | (simp only [ByteArray.size_append,ar,List.length_cons,List.length_nil,Nat.zero_add,Nat.reduceAdd,Int.natCast_add];omega)) (kE (by omega) fun y1 h1=>En.gd (by first | omega | (simp only [ByteArray.size_append,ar,List.length_cons,List.length_nil,Nat.zero_add,Nat.reduceAdd,Int.natCast_add];omega)) (En.gd (by first | omega | (simp only [ByteArray.size_append,ar,List.length_cons,List.length_nil,Nat.zero_add,Nat.reduceAdd,Int.natCast_add];omega)) (.bind (J7 hn _ _ (by rw [ar];decide)) fun y2 h2=>En.gd (by first | omega | (simp only [ByteArray.size_append,ar,List.length_cons,List.length_nil,Nat.zero_add,Nat.reduceAdd,Int.natCast_add];omega)) (hU hn fun _=>jA (by decide) fun r hr1 hr2=>En.bif (fun _=>?_) fun _=>?_)))))))
 ·exact .bind (J7 hn _ _ (by rw [ar];decide)) fun y3 h3=>En.gd (by first | omega | (simp only [ByteArray.size_append,ar,List.length_cons,List.length_nil,Nat.zero_add,Nat.reduceAdd,Int.natCast_add];omega)) (I4 hn _ _ (by first | omega | (simp only [ByteArray.size_append,ar,List.length_cons,List.length_nil,Nat.zero_add,Nat.reduceAdd,Int.natCast_add];omega)))
 ·exact I4 hn _ _ (by first | omega | (simp only [ByteArray.size_append,ar,List.length_cons,List.length_nil,Nat.zero_add,Nat.reduceAdd,Int.natCast_add];omega))
end
def Iv (p:Int):List GRules:=[⟨0,p,730,25,[0,1,2]⟩]
def wg (p:Int):List GRules:=[⟨0,p,730,25,[0,1]⟩,⟨35000,p,365,30,[0,1,2]⟩]
def wz (p:Int):List GRules:=[⟨0,p,730,25,[0,1,2]⟩,⟨36000,p,730,25,[0,1]⟩]
def Kv (t:List GRules):Prop:=∃ p:Int,0≤p∧p≤450∧(t = Iv p∨t = wg p∨t = wz p)
theorem TG (n:List Int) (hn:n.length≤9223372036854775807):En (fun y=>Kv y.2.1) (Aw n):=by
 rw [LE]
 have loop:∀ (k:Nat) (s:Int) (S:List GState) (R:List GRate),3 - s≤k→0≤s→(S.length:Int)≤s→En (fun y=>Kv y.2.1) (ky n s S R):=by
  intro k
  induction k with
  | zero =>
   intro s S R hk h0 hS
   rw [nk]
   refine En.ifd (fun h=>by omega) fun _=>hU hn fun _=>jA (by decide) fun p h1 h2=>hU hn fun _=>jA (by decide) fun q _ _=>?_
   rw [al (by omega) (by omega)]
   exact En.bif (fun _=>.some ⟨90*p,by omega,by omega, .inl rfl⟩) fun _=>En.bif (fun _=>.some ⟨90*p,by omega,by omega, .inr (.inl rfl)⟩) fun _=>.some ⟨90*p,by omega,by omega, .inr (.inr rfl)⟩
  | succ k ih =>
   intro s S R hk h0 hS
   by_cases hs:s < 3
   ·rw [nk]
    refine En.ifd (fun _=>?_) fun h=>absurd hs h
    rw [al (n:=s+1) (by omega) (by omega)]
    refine .bind (TQ hn s h0 hs) fun x hx=>.bind (Sc x) fun y _=>En.bif (fun _=>?_) fun _=>ih _ _ _ (by omega) (by omega) (by omega)
    exact En.gd (by omega) (En.gd (by omega) (ih _ _ _ (by omega) (by omega) (by simp;omega)))
   ·rw [nk]
    refine En.ifd (fun h=>absurd h hs) fun _=>hU hn fun _=>jA (by decide) fun p h1 h2=>hU hn fun _=>jA (by decide) fun q _ _=>?_
    rw [al (by omega) (by omega)]
    exact En.bif (fun _=>.some ⟨90*p,by omega,by omega, .inl rfl⟩) fun _=>En.bif (fun _=>.some ⟨90*p,by omega,by omega, .inr (.inl rfl)⟩) fun _=>.some ⟨90*p,by omega,by omega, .inr (.inr rfl)⟩
 exact loop 3 0 _ _ (by omega) (Int.le_refl _) (by simp)
end Go.Ax
