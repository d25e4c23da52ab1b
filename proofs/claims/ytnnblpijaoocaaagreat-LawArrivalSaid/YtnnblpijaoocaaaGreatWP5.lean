import Derived.Test.YtnnblpijaoocaaaGreatWP4
set_option linter.all false
/- Raw numbers, the texts of statutes and the made laws: their making ends. -/
set_option maxRecDepth 100000
namespace Go.Ax
theorem Cn (n:Int) {m:Int} (h:0 < m):(n.tmod m = n % m)∨(n.tmod m = n % m - m∧n % m≠0):=by
 rw [Int.tmod_eq_emod]
 split
 ·left;omega
 ·next hc =>
  right
  rw [not_or] at hc
  refine ⟨?_,fun h0=>hc.2 (Int.dvd_of_emod_eq_zero h0)⟩
  have:(m.natAbs:Int) = m:=by omega
  omega
theorem Gx (n m:Int) (h:0 < m) (h':m≤9223372036854775807):am n m = some (n % m):=by
 rw [HQ,aN (by omega)]
 have h1:=Int.emod_nonneg n (show m≠0 by omega)
 have h2:=Int.emod_lt_of_pos n h
 rcases Cn n h with hc | ⟨hc,hz⟩
 ·rw [hc,bu (by omega)];rfl
 ·rw [hc,aM (by omega),cond_true,al (by omega) (by omega)]
  congr 1;omega
theorem Ri (n m:Int) (h:0 < m) (h':m≤9223372036854775807):En (fun y=>0≤y∧y < m) (am n m) :=
 .of (Gx n m h h') ⟨Int.emod_nonneg _ (by omega),Int.emod_lt_of_pos _ h⟩
theorem iD {α:Type} {Q:α→Prop} {n m:Int} {f:Int→Option α} (h:0 < m∧m≤9223372036854775807) (hf:∀ y,0≤y→y < m→En Q (f y)):En Q ((am n m).bind f) :=
 .bind (Ri n m h.1 (by omega)) fun y hy=>hf y hy.1 hy.2
theorem F4 (n k:Int) (h:k≤4611686018427387903):gQ n k = some (if k < 1 then 0 else n % k):=by
 rw [Hd]
 by_cases hk:k < 1
 ·rw [aM hk,if_pos hk];rfl
 ·have h0:0 < k:=by omega
  have a:=Int.emod_nonneg n (show k≠0 by omega)
  have b:=Int.emod_lt_of_pos n h0
  have c:=Cn n h0
  have d:0≤n.tmod k+k:=by omega
  rw [bu hk,if_neg hk,cond_false,aN (by omega),aN (by omega),al (by omega) (by omega),Int.tmod_eq_emod_of_nonneg d]
  congr 1
  rcases c with c | ⟨c,_⟩
  ·rw [c,Int.add_emod_right,Int.emod_emod_of_dvd _ (Int.dvd_refl k)]
  ·rw [c,show n % k - k+k = n % k by omega,Int.emod_emod_of_dvd _ (Int.dvd_refl k)]
theorem Ok (n:List Int) (i:Int) (h:n.length≤9223372036854775807):En (fun _=>True) (az n i):=by
 rw [H5]
 refine En.ifi (fun _=>.some trivial) fun h0=>iD (by omega) fun y h1 h2=>En.gd h1 (En.gd h2 (.some trivial))
theorem gm {α:Type} {Q:α→Prop} {n:List Int} {i:Int} {f:Int→Option α} (h:n.length≤9223372036854775807) (hf:∀ y,En Q (f y)):En Q ((az n i).bind f) :=
 .bind (Ok n i h) fun y _=>hf y
theorem J6:∀ (k:Nat) (n:Int) (s:ByteArray),0≤n→n < 10 ^ k→s.size+k≤20→k≤9→En (fun y=>y.size≤s.size+k+1) (jZ n s):=by
 intro k
 have hb:(ab [48,49,50,51,52,53,54,55,56,57]).size = 10:=rfl
 have last:∀ (n:Int) (s:ByteArray) (j:Nat),0≤n→n≤9→s.size≤20→En (fun y=>y.size≤s.size+j+1) (gb (aa (0≤n))<|gb (aa (n≤(ac (n+1))))<|gb (aa ((ac (n+1))≤10)) <|
   gb (aa (((ByteArray.size (ByteArray.extract (ab [48,49,50,51,52,53,54,55,56,57]) n.toNat (ac (n+1)).toNat))+(ByteArray.size s))≤9223372036854775807)) <|
   some ((ByteArray.extract (ab [48,49,50,51,52,53,54,55,56,57]) n.toNat (ac (n+1)).toNat)++s)):=by
  intro n s j h0 h9 hs
  rw [al (by omega) (by omega)]
  have e:(ByteArray.extract (ab [48,49,50,51,52,53,54,55,56,57]) n.toNat (n+1).toNat).size = 1:=by rw [ByteArray.size_extract,hb];omega
  exact En.gd h0 (En.gd (by omega) (En.gd (by omega) (En.gd (by rw [e];omega) (.some (by rw [ByteArray.size_append,e];omega)))))
 induction k with
 | zero =>
  intro n s h0 hn hs _
  rw [oY]
  have:n = 0:=by simp at hn;omega
  subst this
  exact En.ifd (fun h=>by omega) fun _=>last 0 s 0 (by omega) (by omega) hs
 | succ k ih =>
  intro n s h0 hn hs hk
  rw [oY]
  refine En.ifd (fun h=>?_) fun h=>last n s (k+1) h0 (by omega) (by omega)
  have a1:Int.tmod n 10 = n % 10:=Int.tmod_eq_emod_of_nonneg h0
  have a2:Int.tdiv n 10 = n / 10:=Int.tdiv_eq_ediv_of_nonneg h0
  have hp:(10:Int) ^ (k+1)≤1000000000:=by
   have:∀ j:Nat,j≤9→(10:Int) ^ j≤1000000000:=by decide
   exact this _ (by omega)
  rw [a1,a2,al (n:=n % 10+1) (by omega) (by omega),al (n:=n / 10) (by omega) (by omega)]
  have e:(ByteArray.extract (ab [48,49,50,51,52,53,54,55,56,57]) (n % 10).toNat (n % 10+1).toNat).size = 1:=by rw [ByteArray.size_extract,hb];omega
  refine En.gd (by omega) (En.gd (by omega) (En.gd (by omega) (En.gd (by rw [e];omega) ?_)))
  refine (ih (n / 10) _ (by omega) ?_ (by rw [ByteArray.size_append,e];omega) (by omega)).weak fun y hy=>by rw [ByteArray.size_append,e] at hy;omega
  rw [Int.pow_succ] at hn
  omega
theorem Me {n:Int} (h0:0≤n) (h:n≤99999999):En (fun y=>y.size≤9) (bE n):=by
 rw [D5]
 exact (J6 8 n _ h0 (by omega) (by decide) (by omega)).weak fun y hy=>hy
theorem jA {α:Type} {Q:α→Prop} {n:Int} {f:ByteArray→Option α} (h:0≤n∧n≤99999999) (hf:∀ y:ByteArray,y.size≤9→En Q (f y)):En Q ((bE n).bind f) :=
 .bind (Me h.1 h.2) hf
theorem L3 {n:Int} (h0:0≤n) (h:n≤99999999):En (fun y=>y.size≤28) (eR n):=by
 rw [Bv]
 rw [al (n:=Int.tdiv n 100) (by rw [Int.tdiv_eq_ediv_of_nonneg h0];omega) (by rw [Int.tdiv_eq_ediv_of_nonneg h0];omega),al (n:=Int.tdiv n 10) (by rw [Int.tdiv_eq_ediv_of_nonneg h0];omega) (by rw [Int.tdiv_eq_ediv_of_nonneg h0];omega),
  Int.tmod_eq_emod_of_nonneg h0,Int.tdiv_eq_ediv_of_nonneg h0,Int.tdiv_eq_ediv_of_nonneg h0,Int.tmod_eq_emod_of_nonneg (by omega)]
 refine jA (by omega) fun y1 h1=>En.gd (by first | omega | (simp only [ByteArray.size_append,ao,List.length_cons,List.length_nil,Nat.zero_add,Nat.reduceAdd,Int.natCast_add];omega)) (jA (by omega) fun y2 h2=>En.gd (by first | omega | (simp only [ByteArray.size_append,ao,List.length_cons,List.length_nil,Nat.zero_add,Nat.reduceAdd,Int.natCast_add];omega)) (jA (by omega) fun y3 h3=>En.gd (by first | omega | (simp only [ByteArray.size_append,ao,List.length_cons,List.length_nil,Nat.zero_add,Nat.reduceAdd,Int.natCast_add];omega)) (.some (by first | omega | (simp only [ByteArray.size_append,ao,List.length_cons,List.length_nil,Nat.zero_add,Nat.reduceAdd,Int.natCast_add];omega)))))
theorem nS {α:Type} {Q:α→Prop} {n:Int} {f:ByteArray→Option α} (h:0≤n∧n≤99999999) (hf:∀ y:ByteArray,y.size≤28→En Q (f y)):En Q ((eR n).bind f) :=
 .bind (L3 h.1 h.2) hf
theorem O6 (state:Int):(gD [(ab [97,108,98,97]),(ab [98,111,114,97]),(ab [99,101,100,97,114])] state.toNat (ab [])).size≤5:=by
 match state.toNat with
 | 0=>decide
 | 1=>decide
 | 2=>decide
 | n+3=>exact Nat.zero_le _
section
variable {n:List Int} (hn:n.length≤9223372036854775807)
include hn
theorem JE (xat:Int) (s:ByteArray) (hs:s.size≤5000):En (fun y=>y.size≤s.size+100) (gw n xat s):=by
 rw [sN]
 repeat' first
  | refine gm ‹_› fun _=>?_
  | refine iD (by decide) fun _ _ _=>?_
  | refine jA (by first | omega | (rw [al (by omega) (by omega)];omega)) fun _ _=>?_
  | refine nS (by first | omega | (rw [al (by omega) (by omega)];omega)) fun _ _=>?_
  | refine En.gd (by first | omega | (simp only [ByteArray.size_append,ao,List.length_cons,List.length_nil,Nat.zero_add,Nat.reduceAdd,Int.natCast_add];omega)) ?_
  | refine En.bif (fun _=>?_) (fun _=>?_)
  | exact En.some (by first | omega | (simp only [ByteArray.size_append,ao,List.length_cons,List.length_nil,Nat.zero_add,Nat.reduceAdd,Int.natCast_add];omega))
theorem KY (xat:Int) (s:ByteArray) (hs:s.size≤4000):En (fun y=>y.size≤s.size+500) (gX n xat s):=by
 rw [tO]
 repeat' first
  | refine gm ‹_› fun _=>?_
  | refine iD (by decide) fun _ _ _=>?_
  | refine jA (by first | omega | (rw [al (by omega) (by omega)];omega)) fun _ _=>?_
  | refine nS (by first | omega | (rw [al (by omega) (by omega)];omega)) fun _ _=>?_
  | refine En.gd (by first | omega | (simp only [ByteArray.size_append,ao,List.length_cons,List.length_nil,Nat.zero_add,Nat.reduceAdd,Int.natCast_add];omega)) ?_
  | refine En.bif (fun _=>?_) (fun _=>?_)
  | exact En.some (by first | omega | (simp only [ByteArray.size_append,ao,List.length_cons,List.length_nil,Nat.zero_add,Nat.reduceAdd,Int.natCast_add];omega))
 all_goals exact (JE hn _ _ (by first | omega | (simp only [ByteArray.size_append,ao,List.length_cons,List.length_nil,Nat.zero_add,Nat.reduceAdd,Int.natCast_add];omega))).weak fun y hy=>by revert hy; (first | omega | (simp only [ByteArray.size_append,ao,List.length_cons,List.length_nil,Nat.zero_add,Nat.reduceAdd,Int.natCast_add];omega))
set_option maxHeartbeats 4000000 in
theorem Nm (xat:Int) (y s:ByteArray) (hy:y.size≤9) (hs:s.size≤3000):En (fun y=>y.size≤s.size+1500) (iv n xat y s):=by
 rw [vG]
 repeat' first
  | refine gm ‹_› fun _=>?_
  | refine iD (by decide) fun _ _ _=>?_
  | refine jA (by first | omega | (rw [al (by omega) (by omega)];omega)) fun _ _=>?_
  | refine nS (by first | omega | (rw [al (by omega) (by omega)];omega)) fun _ _=>?_
  | refine En.gd (by first | omega | (simp only [ByteArray.size_append,ao,List.length_cons,List.length_nil,Nat.zero_add,Nat.reduceAdd,Int.natCast_add];omega)) ?_
  | refine En.bif (fun _=>?_) (fun _=>?_)
  | exact En.some (by first | omega | (simp only [ByteArray.size_append,ao,List.length_cons,List.length_nil,Nat.zero_add,Nat.reduceAdd,Int.natCast_add];omega))
 all_goals exact (KY hn _ _ (by first | omega | (simp only [ByteArray.size_append,ao,List.length_cons,List.length_nil,Nat.zero_add,Nat.reduceAdd,Int.natCast_add];omega))).weak fun y hy=>by revert hy; (first | omega | (simp only [ByteArray.size_append,ao,List.length_cons,List.length_nil,Nat.zero_add,Nat.reduceAdd,Int.natCast_add];omega))
theorem Mp (xat:Int) (y s:ByteArray) (hy:y.size≤9) (hs:s.size≤2900):En (fun y=>y.size≤s.size+1600) (io n xat y s):=by
 rw [uj]
 repeat' first
  | refine gm ‹_› fun _=>?_
  | refine iD (by decide) fun _ _ _=>?_
  | refine jA (by first | omega | (rw [al (by omega) (by omega)];omega)) fun _ _=>?_
  | refine nS (by first | omega | (rw [al (by omega) (by omega)];omega)) fun _ _=>?_
  | refine En.gd (by first | omega | (simp only [ByteArray.size_append,ao,List.length_cons,List.length_nil,Nat.zero_add,Nat.reduceAdd,Int.natCast_add];omega)) ?_
  | refine En.bif (fun _=>?_) (fun _=>?_)
  | exact En.some (by first | omega | (simp only [ByteArray.size_append,ao,List.length_cons,List.length_nil,Nat.zero_add,Nat.reduceAdd,Int.natCast_add];omega))
 all_goals exact (Nm hn _ _ _ hy (by first | omega | (simp only [ByteArray.size_append,ao,List.length_cons,List.length_nil,Nat.zero_add,Nat.reduceAdd,Int.natCast_add];omega))).weak fun y hy=>by revert hy; (first | omega | (simp only [ByteArray.size_append,ao,List.length_cons,List.length_nil,Nat.zero_add,Nat.reduceAdd,Int.natCast_add];omega))
theorem OM (xat:Int) (y s:ByteArray) (hy:y.size≤9) (hs:s.size≤2500):En (fun y=>y.size≤s.size+1900) (eD n xat y s):=by
 rw [wT]
 repeat' first
  | refine gm ‹_› fun _=>?_
  | refine iD (by decide) fun _ _ _=>?_
  | refine jA (by first | omega | (rw [al (by omega) (by omega)];omega)) fun _ _=>?_
  | refine nS (by first | omega | (rw [al (by omega) (by omega)];omega)) fun _ _=>?_
  | refine En.gd (by first | omega | (simp only [ByteArray.size_append,ao,List.length_cons,List.length_nil,Nat.zero_add,Nat.reduceAdd,Int.natCast_add];omega)) ?_
  | refine En.bif (fun _=>?_) (fun _=>?_)
  | exact En.some (by first | omega | (simp only [ByteArray.size_append,ao,List.length_cons,List.length_nil,Nat.zero_add,Nat.reduceAdd,Int.natCast_add];omega))
 all_goals exact (Mp hn _ _ _ hy (by first | omega | (simp only [ByteArray.size_append,ao,List.length_cons,List.length_nil,Nat.zero_add,Nat.reduceAdd,Int.natCast_add];omega))).weak fun y hy=>by revert hy; (first | omega | (simp only [ByteArray.size_append,ao,List.length_cons,List.length_nil,Nat.zero_add,Nat.reduceAdd,Int.natCast_add];omega))
theorem HY (xfrom:ByteArray) (xat:Int) (hx:xfrom.size≤100):En (fun y=>y.size≤2100) (kG xfrom n xat):=by
 rw [BB]
 repeat' first
  | refine gm ‹_› fun _=>?_
  | refine iD (by decide) fun _ _ _=>?_
  | refine jA (by first | omega | (rw [al (by omega) (by omega)];omega)) fun _ _=>?_
  | refine nS (by first | omega | (rw [al (by omega) (by omega)];omega)) fun _ _=>?_
  | refine En.gd (by first | omega | (simp only [ByteArray.size_append,ao,List.length_cons,List.length_nil,Nat.zero_add,Nat.reduceAdd,Int.natCast_add];omega)) ?_
  | refine En.bif (fun _=>?_) (fun _=>?_)
  | exact En.some (by first | omega | (simp only [ByteArray.size_append,ao,List.length_cons,List.length_nil,Nat.zero_add,Nat.reduceAdd,Int.natCast_add];omega))
 all_goals exact (OM hn _ _ _ ‹_› (by first | omega | (simp only [ByteArray.size_append,ao,List.length_cons,List.length_nil,Nat.zero_add,Nat.reduceAdd,Int.natCast_add];omega))).weak fun y hy=>by revert hy; (first | omega | (simp only [ByteArray.size_append,ao,List.length_cons,List.length_nil,Nat.zero_add,Nat.reduceAdd,Int.natCast_add];omega))
theorem Fs (state:Int) (s:ByteArray) (hs:s.size≤5000):En (fun y=>y.size≤8000) (lQ state n s):=by
 rw [AT]
 refine gm hn fun _=>iD (by decide) fun r h1 h2=>En.bif (fun _=>?_) fun _=>En.gd (by first | omega | (simp only [ByteArray.size_append,ao,List.length_cons,List.length_nil,Nat.zero_add,Nat.reduceAdd,Int.natCast_add];omega)) (.some (by first | omega | (simp only [ByteArray.size_append,ao,List.length_cons,List.length_nil,Nat.zero_add,Nat.reduceAdd,Int.natCast_add];omega)))
 exact .bind (HY hn _ _ (by rw [ao];decide)) fun y hy=>En.gd (by first | omega | (simp only [ByteArray.size_append,ao,List.length_cons,List.length_nil,Nat.zero_add,Nat.reduceAdd,Int.natCast_add];omega)) (En.gd (by first | omega | (simp only [ByteArray.size_append,ao,List.length_cons,List.length_nil,Nat.zero_add,Nat.reduceAdd,Int.natCast_add];omega)) (.some (by first | omega | (simp only [ByteArray.size_append,ao,List.length_cons,List.length_nil,Nat.zero_add,Nat.reduceAdd,Int.natCast_add];omega))))
theorem P2 (state:Int) (h0:0≤state) (h3:state < 3):En (fun y=>y.size≤8000) (xf state n):=by
 rw [IS,al (n:=1+state) (by omega) (by omega)]
 have hg:=O6 state
 generalize (gD [(ab [97,108,98,97]),(ab [98,111,114,97]),(ab [99,101,100,97,114])] state.toNat (ab [])) = nm at hg
 refine En.gd h0 (En.gd h3 (En.gd (by first | omega | (simp only [ByteArray.size_append,ao,List.length_cons,List.length_nil,Nat.zero_add,Nat.reduceAdd,Int.natCast_add];omega)) (En.gd (by first | omega | (simp only [ByteArray.size_append,ao,List.length_cons,List.length_nil,Nat.zero_add,Nat.reduceAdd,Int.natCast_add];omega)) (jA (by omega) fun y1 h1=>En.gd (by first | omega | (simp only [ByteArray.size_append,ao,List.length_cons,List.length_nil,Nat.zero_add,Nat.reduceAdd,Int.natCast_add];omega)) (En.gd (by first | omega | (simp only [ByteArray.size_append,ao,List.length_cons,List.length_nil,Nat.zero_add,Nat.reduceAdd,Int.natCast_add];omega)) (.bind (HY hn _ _ (by rw [ao];decide)) fun y2 h2=>En.gd (by first | omega | (simp only [ByteArray.size_append,ao,List.length_cons,List.length_nil,Nat.zero_add,Nat.reduceAdd,Int.natCast_add];omega)) (gm hn fun _=>iD (by decide) fun r hr1 hr2=>En.bif (fun _=>?_) fun _=>?_)))))))
 ·exact .bind (HY hn _ _ (by rw [ao];decide)) fun y3 h3=>En.gd (by first | omega | (simp only [ByteArray.size_append,ao,List.length_cons,List.length_nil,Nat.zero_add,Nat.reduceAdd,Int.natCast_add];omega)) (Fs hn _ _ (by first | omega | (simp only [ByteArray.size_append,ao,List.length_cons,List.length_nil,Nat.zero_add,Nat.reduceAdd,Int.natCast_add];omega)))
 ·exact Fs hn _ _ (by first | omega | (simp only [ByteArray.size_append,ao,List.length_cons,List.length_nil,Nat.zero_add,Nat.reduceAdd,Int.natCast_add];omega))
end
def EP (p:Int):List GRules:=[⟨0,p,730,25,[0,1,2]⟩]
def tw (p:Int):List GRules:=[⟨0,p,730,25,[0,1]⟩,⟨35000,p,365,30,[0,1,2]⟩]
def tV (p:Int):List GRules:=[⟨0,p,730,25,[0,1,2]⟩,⟨36000,p,730,25,[0,1]⟩]
def HJ (t:List GRules):Prop:=∃ p:Int,0≤p∧p≤450∧(t = EP p∨t = tw p∨t = tV p)
theorem PO (n:List Int) (hn:n.length≤9223372036854775807):En (fun y=>HJ y.2.1) (ya n):=by
 rw [G9]
 have loop:∀ (k:Nat) (s:Int) (S:List GState) (R:List GRate),3 - s≤k→0≤s→(S.length:Int)≤s→En (fun y=>HJ y.2.1) (jr n s S R):=by
  intro k
  induction k with
  | zero =>
   intro s S R hk h0 hS
   rw [lU]
   refine En.ifd (fun h=>by omega) fun _=>gm hn fun _=>iD (by decide) fun p h1 h2=>gm hn fun _=>iD (by decide) fun q _ _=>?_
   rw [al (by omega) (by omega)]
   exact En.bif (fun _=>.some ⟨90*p,by omega,by omega, .inl rfl⟩) fun _=>En.bif (fun _=>.some ⟨90*p,by omega,by omega, .inr (.inl rfl)⟩) fun _=>.some ⟨90*p,by omega,by omega, .inr (.inr rfl)⟩
  | succ k ih =>
   intro s S R hk h0 hS
   by_cases hs:s < 3
   ·rw [lU]
    refine En.ifd (fun _=>?_) fun h=>absurd hs h
    rw [al (n:=s+1) (by omega) (by omega)]
    refine .bind (P2 hn s h0 hs) fun x hx=>.bind (O1 x) fun y _=>En.bif (fun _=>?_) fun _=>ih _ _ _ (by omega) (by omega) (by omega)
    exact En.gd (by omega) (En.gd (by omega) (ih _ _ _ (by omega) (by omega) (by simp;omega)))
   ·rw [lU]
    refine En.ifd (fun h=>absurd h hs) fun _=>gm hn fun _=>iD (by decide) fun p h1 h2=>gm hn fun _=>iD (by decide) fun q _ _=>?_
    rw [al (by omega) (by omega)]
    exact En.bif (fun _=>.some ⟨90*p,by omega,by omega, .inl rfl⟩) fun _=>En.bif (fun _=>.some ⟨90*p,by omega,by omega, .inr (.inl rfl)⟩) fun _=>.some ⟨90*p,by omega,by omega, .inr (.inr rfl)⟩
 exact loop 3 0 _ _ (by omega) (Int.le_refl _) (by simp)
end Go.Ax
