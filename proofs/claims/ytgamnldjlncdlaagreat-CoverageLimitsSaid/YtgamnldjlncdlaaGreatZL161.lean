import Derived.Test.YtgamnldjlncdlaaGreatZL160
set_option linter.all false
/- What the states claim. -/
set_option maxRecDepth 100000
namespace Go.Ax
open Go.Proofs
def wn (s r:Int) (d:List ab):List ao:=d.map fun x=>ao.mk s r x
theorem Lb (s r:Int) (d:List ab):(wn s r d).length = d.length:=List.length_map _
theorem P7 {T A:Type} (g:T→A):∀ l:List T,l.flatMap (fun x=>[g x]) = l.map g
  | []=>rfl
  | x :: r=>by rw [List.flatMap_cons,P7 g r]; rfl
theorem aom {n:Nat} (h:n≤4000000000000):AT n 32:=⟨by omega,by omega⟩
theorem xj (rank:Int) (days:List ab) (out:List ao) (x:ax) (h1:days.length≤1000000) (h2:out.length≤1000000000):cH rank days out x = some (out++wn x.State rank days):=by
  have:=qP (f:=gu rank x days out) days (fun d=>[ao.mk x.State rank d]) (fun o i=>((i:Int),out++o)) (fun o=>out++o) 1 (fun _ _=>by simp) (fun i hi o ho=>by
      show (fe rank x days (i:Int) (out++o)).opt = _
      simp only [fe,oT]
      rw [dH hi,cond_true,aE (bQ hi),aE (aom (by rw [List.length_append]; omega)),eL days _ i hi,cP (by omega),List.append_assoc]) (fun o ho=>by
      show (fe rank x days ((days.length:Nat):Int) (out++o)).opt = _
      simp only [fe,oT]
      rw [cu,cond_false])
  rw [P7] at this
  show (fixL (gu rank x days out) ((0:Int),out)).bind _ = _
  rw [List.append_nil,show ((0:Nat):Int) = 0 from rfl] at this
  rw [this]
  rfl
def kr:List (Int × Int):=[(6,2),(9,3),(7,4),(8,5),(10,6),(5,7)]
noncomputable def wM (l:List ae) (x:ax) (past:ab) (p:Int × Int):List ao :=
  if (du p.1 x.Version.Credits).2 = true then wn x.State p.2 (jm l p.1 x.State past (du p.1 x.Version.Credits).1) else []
theorem Oo (l:List ae) (x:ax) (past:ab) (p:Int × Int):(wM l x past p).length≤73050:=by
  unfold wM
  split
  · rw [Lb]; exact FR _ _ _ _ _
  · simp
noncomputable def vI (law:List aZ) (x:ax) (past:ab):List ao:=wn x.State 1 (da (cy (pN law x.State 3)) past)
theorem JQ (law:List aZ) (x:ax) (past:ab):(vI law x past).length≤73050:=by
  unfold vI
  rw [Lb]
  exact iD _ _
noncomputable def md (l:List ae) (law:List aZ) (past:ab) (x:ax):List ao:=vI law x past++kr.flatMap (wM l x past)
theorem Qn (l:List ae) (law:List aZ) (past:ab) (x:ax):(md l law past x).length≤600000:=by
  have h1:=JQ law x past
  have h2:=I5 (wM l x past) 73050 kr fun p _=>Oo _ _ _ _
  have:kr.length = 6:=rfl
  unfold md
  rw [List.length_append]
  omega
def DA (x:ax):Prop:=x.Version.Credits.length≤1000∧∀ c∈x.Version.Credits,0≤c.Limit∧c.Limit≤1000000
theorem Jh (k:Int):∀ l:List ap,(∀ c∈l,0≤c.Limit∧c.Limit≤1000000)→0≤(du k l).1∧(du k l).1≤1000000
  | [],_=>by simp [du]
  | c :: r,h=>by
    rw [du]
    split
    · exact h c (List.mem_cons_self)
    · exact Jh k r fun d hd=>h d (List.mem_cons_of_mem _ hd)
noncomputable def jJ:=kZ.getD []
theorem aj5:kZ = some jJ:=rfl
theorem ajV:jJ.map (fun t=>(t.kind,t.rank)) = kr:=rfl
theorem HT (x:ax):az.mk x.Version.From (bt.mk x.Version.Rounding.Mode x.Version.Rounding.Unit) x.Version.Credits x.Version.Series x.Version.Lets x.Version.Grants x.Version.Reduces = x.Version:=rfl
theorem KG (x:ax):ax.mk x.State x.Version = x:=rfl
theorem zx (l:List ae) (law:List aZ) (schemes:List ax) (a c:Int) (i:Nat) (hi:i < 6) (tab) (out:List ao) (past:ab) (x:ax):(eQ l law schemes a tab c (i:Int) out past x).opt = some (.inl (a,((i+1:Nat):Int),out)):=by
  simp only [eQ,oT]
  rw [cP (by omega)]
theorem Xv (l:List ae) (hl:l.length≤900) (law:List aZ) (schemes:List ax) (a:Int) (o1:List ao) (past:ab) (x:ax) (hx:DA x) (i:Nat) (hi:i < jJ.length) (out:List ao) (ho:out.length≤900000000) :
    eJ l law schemes a jJ ((jJ.length:Nat):Int) o1 past x (a,(i:Int),out) = some (.inl (a,((i+1:Nat):Int),out++wM l x past ((jJ[i]).kind,(jJ[i]).rank))):=by
  show (ga l law schemes a jJ ((jJ.length:Nat):Int) (i:Int) out past x).opt = _
  have h6:jJ.length = 6:=rfl
  simp only [ga,oT]
  rw [dH hi,cond_true,aE (bQ hi),fX jJ _ i hi]
  generalize jJ[i] = t
  obtain ⟨c1,c2⟩:=Jh t.kind _ hx.2
  rw [HT,KG,HB x.Version t.kind (by have:=hx.1; omega),Option.bind_some]
  unfold wM
  cases hc:(du t.kind x.Version.Credits).2 with
  | false =>
    rw [show (!false) = true from rfl,cond_true,zx _ _ _ _ _ i (by omega),if_neg (by simp),List.append_nil]
  | true =>
    have hs:=iD (dP l t.kind x.State) (fq l)
    have hs2:=iD (da (dP l t.kind x.State) (fq l)) past
    rw [show (!true) = false from rfl,cond_false,Kj l t.kind x.State (by omega),Option.bind_some,mH _ _ (by omega),Option.bind_some,if_pos rfl]
    generalize (du t.kind x.Version.Credits).1 = lim at c1 c2
    have hd:=FR l t.kind x.State past lim
    by_cases h0:lim = 0
    · subst h0
      have e:da (da (dP l t.kind x.State) (fq l)) past = jm l t.kind x.State past 0:=by
        unfold jm
        split
        · rename_i hk; rw [Gu,hk]
        · unfold og; rw [if_pos rfl]
      simp only [bne_self_eq_false,cond_false]
      rw [e,xj _ _ _ _ (by omega) (by omega),Option.bind_some,zx _ _ _ _ _ i (by omega)]
    · have hb:(lim != 0) = true:=by simp [h0]
      rw [hb,cond_true]
      by_cases hk:t.kind = 10
      · have e:cy (mD l x.State past lim) = jm l t.kind x.State past lim:=by unfold jm; rw [if_pos hk]
        rw [show (t.kind == 10) = true by simp [hk],cond_true,Fn l hl x.State lim past (by omega) (by omega),Option.bind_some,e,xj _ _ _ _ (by omega) (by omega),Option.bind_some,zx _ _ _ _ _ i (by omega)]
      · have e:jO lim (cy (da (da (dP l t.kind x.State) (fq l)) past)) = jm l t.kind x.State past lim:=by unfold jm og; rw [if_neg hk,if_neg h0]
        rw [show (t.kind == 10) = false by simp [hk],cond_false,cond_true,zR _ _ (by omega) (by omega) (by omega),Option.bind_some,e,xj _ _ _ _ (by omega) (by omega),Option.bind_some,zx _ _ _ _ _ i (by omega)]
theorem XV (l:List ae) (hl:l.length≤900) (law:List aZ) (schemes:List ax) (a:Int) (o1:List ao) (ho:o1.length≤700000000) (past:ab) (x:ax) (hx:DA x) :
    fixL (eJ l law schemes a jJ ((jJ.length:Nat):Int) o1 past x) (a,(0:Int),o1) = some (a,o1++kr.flatMap (wM l x past)):=by
  have h6:jJ.length = 6:=rfl
  have:=qP (f:=eJ l law schemes a jJ ((jJ.length:Nat):Int) o1 past x) jJ (fun t=>wM l x past (t.kind,t.rank)) (fun o i=>(a,(i:Int),o1++o)) (fun o=>(a,o1++o)) 73050 (fun t _=>Oo _ _ _ _) (fun i hi o hoo=>by
      rw [Xv l hl law schemes a o1 past x hx i hi (o1++o) (by rw [List.length_append]; omega),List.append_assoc]) (fun o hoo=>by
      show (ga l law schemes a jJ ((jJ.length:Nat):Int) ((jJ.length:Nat):Int) (o1++o) past x).opt = _
      simp only [ga,oT]
      rw [cu,cond_false])
  rw [List.append_nil,show ((0:Nat):Int) = 0 from rfl] at this
  rw [this, ← ajV,List.flatMap_map]
end Go.Ax
