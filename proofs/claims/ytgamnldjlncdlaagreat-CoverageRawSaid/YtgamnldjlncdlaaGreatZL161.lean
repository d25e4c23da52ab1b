import Derived.Test.YtgamnldjlncdlaaGreatZL160
set_option linter.all false
/- What the states claim. -/
set_option maxRecDepth 100000
namespace Go.Ax
open Go.Proofs
def Cp (s r:Int) (d:List ab):List aj:=d.map fun x=>aj.mk s r x
theorem LJ (s r:Int) (d:List ab):(Cp s r d).length = d.length:=List.length_map _
theorem Kh {T A:Type} (g:T→A):∀ l:List T,l.flatMap (fun x=>[g x]) = l.map g
  | []=>rfl
  | x :: r=>by rw [List.flatMap_cons,Kh g r]; rfl
theorem am7 {n:Nat} (h:n≤4000000000000):zb n 32:=⟨by omega,by omega⟩
theorem xI (rank:Int) (days:List ab) (out:List aj) (x:an) (h1:days.length≤1000000) (h2:out.length≤1000000000):cO rank days out x = some (out++Cp x.State rank days):=by
  have:=iU (f:=gx rank x days out) days (fun d=>[aj.mk x.State rank d]) (fun o i=>((i:Int),out++o)) (fun o=>out++o) 1 (fun _ _=>by simp) (fun i hi o ho=>by
      show (fe rank x days (i:Int) (out++o)).opt = _
      simp only [fe,oT]
      rw [dg hi,cond_true,aD (bJ hi),aD (am7 (by rw [List.length_append]; omega)),er days _ i hi,cF (by omega),List.append_assoc]) (fun o ho=>by
      show (fe rank x days ((days.length:Nat):Int) (out++o)).opt = _
      simp only [fe,oT]
      rw [cl,cond_false])
  rw [Kh] at this
  show (fixL (gx rank x days out) ((0:Int),out)).bind _ = _
  rw [List.append_nil,show ((0:Nat):Int) = 0 from rfl] at this
  rw [this]
  rfl
def kr:List (Int × Int):=[(6,2),(9,3),(7,4),(8,5),(10,6),(5,7)]
noncomputable def yS (l:List ac) (x:an) (past:ab) (p:Int × Int):List aj :=
  if (jU p.1 x.Version.Credits).2 = true then Cp x.State p.2 (tr l p.1 x.State past (jU p.1 x.Version.Credits).1) else []
theorem Ky (l:List ac) (x:an) (past:ab) (p:Int × Int):(yS l x past p).length≤73050:=by
  unfold yS
  split
  · rw [LJ]; exact GT _ _ _ _ _
  · simp
noncomputable def yP (law:List ar) (x:an) (past:ab):List aj:=Cp x.State 1 (dD (da (iv law x.State 3)) past)
theorem E5 (law:List ar) (x:an) (past:ab):(yP law x past).length≤73050:=by
  unfold yP
  rw [LJ]
  exact fF _ _
noncomputable def Bn (l:List ac) (law:List ar) (past:ab) (x:an):List aj:=yP law x past++kr.flatMap (yS l x past)
theorem KA (l:List ac) (law:List ar) (past:ab) (x:an):(Bn l law past x).length≤600000:=by
  have h1:=E5 law x past
  have h2:=EE (yS l x past) 73050 kr fun p _=>Ky _ _ _ _
  have:kr.length = 6:=rfl
  unfold Bn
  rw [List.length_append]
  omega
def si (x:an):Prop:=x.Version.Credits.length≤1000∧∀ c∈x.Version.Credits,0≤c.Limit∧c.Limit≤1000000
theorem JV (k:Int):∀ l:List av,(∀ c∈l,0≤c.Limit∧c.Limit≤1000000)→0≤(jU k l).1∧(jU k l).1≤1000000
  | [],_=>by simp [jU]
  | c :: r,h=>by
    rw [jU]
    split
    · exact h c (List.mem_cons_self)
    · exact JV k r fun d hd=>h d (List.mem_cons_of_mem _ hd)
noncomputable def jK:=ld.getD []
theorem aoa:ld = some jK:=rfl
theorem akV:jK.map (fun t=>(t.kind,t.rank)) = kr:=rfl
theorem Bj (x:an):aJ.mk x.Version.From (bs.mk x.Version.Rounding.Mode x.Version.Rounding.Unit) x.Version.Credits x.Version.Series x.Version.Lets x.Version.Grants x.Version.Reduces = x.Version:=rfl
theorem Mg (x:an):an.mk x.State x.Version = x:=rfl
theorem AM (l:List ac) (law:List ar) (schemes:List an) (a c:Int) (i:Nat) (hi:i < 6) (tab) (out:List aj) (past:ab) (x:an):(eL l law schemes a tab c (i:Int) out past x).opt = some (.inl (a,((i+1:Nat):Int),out)):=by
  simp only [eL,oT]
  rw [cF (by omega)]
theorem aaa (l:List ac) (hl:l.length≤900) (law:List ar) (schemes:List an) (a:Int) (o1:List aj) (past:ab) (x:an) (hx:si x) (i:Nat) (hi:i < jK.length) (out:List aj) (ho:out.length≤900000000) :
    eV l law schemes a jK ((jK.length:Nat):Int) o1 past x (a,(i:Int),out) = some (.inl (a,((i+1:Nat):Int),out++yS l x past ((jK[i]).kind,(jK[i]).rank))):=by
  show (fP l law schemes a jK ((jK.length:Nat):Int) (i:Int) out past x).opt = _
  have h6:jK.length = 6:=rfl
  simp only [fP,oT]
  rw [dg hi,cond_true,aD (bJ hi),fp jK _ i hi]
  generalize jK[i] = t
  obtain ⟨c1,c2⟩:=JV t.kind _ hx.2
  rw [Bj,Mg,IV x.Version t.kind (by have:=hx.1; omega),Option.bind_some]
  unfold yS
  cases hc:(jU t.kind x.Version.Credits).2 with
  | false =>
    rw [show (!false) = true from rfl,cond_true,AM _ _ _ _ _ i (by omega),if_neg (by simp),List.append_nil]
  | true =>
    have hs:=fF (eC l t.kind x.State) (gu l)
    have hs2:=fF (dD (eC l t.kind x.State) (gu l)) past
    rw [show (!true) = false from rfl,cond_false,Ms l t.kind x.State (by omega),Option.bind_some,mQ _ _ (by omega),Option.bind_some,if_pos rfl]
    generalize (jU t.kind x.Version.Credits).1 = lim at c1 c2
    have hd:=GT l t.kind x.State past lim
    by_cases h0:lim = 0
    · subst h0
      have e:dD (dD (eC l t.kind x.State) (gu l)) past = tr l t.kind x.State past 0:=by
        unfold tr
        split
        · rename_i hk; rw [WC,hk]
        · unfold xj; rw [if_pos rfl]
      simp only [bne_self_eq_false,cond_false]
      rw [e,xI _ _ _ _ (by omega) (by omega),Option.bind_some,AM _ _ _ _ _ i (by omega)]
    · have hb:(lim != 0) = true:=by simp [h0]
      rw [hb,cond_true]
      by_cases hk:t.kind = 10
      · have e:da (vM l x.State past lim) = tr l t.kind x.State past lim:=by unfold tr; rw [if_pos hk]
        rw [show (t.kind == 10) = true by simp [hk],cond_true,GM l hl x.State lim past (by omega) (by omega),Option.bind_some,e,xI _ _ _ _ (by omega) (by omega),Option.bind_some,AM _ _ _ _ _ i (by omega)]
      · have e:li lim (da (dD (dD (eC l t.kind x.State) (gu l)) past)) = tr l t.kind x.State past lim:=by unfold tr xj; rw [if_neg hk,if_neg h0]
        rw [show (t.kind == 10) = false by simp [hk],cond_false,cond_true,An _ _ (by omega) (by omega) (by omega),Option.bind_some,e,xI _ _ _ _ (by omega) (by omega),Option.bind_some,AM _ _ _ _ _ i (by omega)]
theorem YS (l:List ac) (hl:l.length≤900) (law:List ar) (schemes:List an) (a:Int) (o1:List aj) (ho:o1.length≤700000000) (past:ab) (x:an) (hx:si x) :
    fixL (eV l law schemes a jK ((jK.length:Nat):Int) o1 past x) (a,(0:Int),o1) = some (a,o1++kr.flatMap (yS l x past)):=by
  have h6:jK.length = 6:=rfl
  have:=iU (f:=eV l law schemes a jK ((jK.length:Nat):Int) o1 past x) jK (fun t=>yS l x past (t.kind,t.rank)) (fun o i=>(a,(i:Int),o1++o)) (fun o=>(a,o1++o)) 73050 (fun t _=>Ky _ _ _ _) (fun i hi o hoo=>by
      rw [aaa l hl law schemes a o1 past x hx i hi (o1++o) (by rw [List.length_append]; omega),List.append_assoc]) (fun o hoo=>by
      show (fP l law schemes a jK ((jK.length:Nat):Int) ((jK.length:Nat):Int) (o1++o) past x).opt = _
      simp only [fP,oT]
      rw [cl,cond_false])
  rw [List.append_nil,show ((0:Nat):Int) = 0 from rfl] at this
  rw [this, ← akV,List.flatMap_map]
end Go.Ax
