import Derived.Test.YtokecajedkojlaaGreatZP5
import Derived.Test.YtokecajedkojlaaGreatZP17
import Derived.Test.YtokecajedkojlaaGreatZP20
set_option linter.all false
/- Laws of states: their check ends. -/
set_option maxRecDepth 100000
namespace Go.Ax
def u6 (op:Int):Int:=if 1≤op∧op≤3 then 0 else if 4≤op∧op≤6 then 1 else if 7≤op∧op≤20 then 2 else if op = 21 then 3 else -1
theorem UU (op:Int):sg op = some (u6 op):=by
  rw [A2]
  simp only [bB]
  unfold u6
  by_cases a:1≤op∧op≤3
  · rw [aB a.1,aB a.2,if_pos a]; rfl
  · rw [if_neg a,show (aa (1≤op)&&aa (op≤3)) = false by rw [Bool.and_eq_false_iff]; by_cases h:1≤op; exact .inr (aE (by omega)); exact .inl (aE h),cond_false]
    by_cases b:4≤op∧op≤6
    · rw [aB b.1,aB b.2,if_pos b]; rfl
    · rw [if_neg b,show (aa (4≤op)&&aa (op≤6)) = false by rw [Bool.and_eq_false_iff]; by_cases h:4≤op; exact .inr (aE (by omega)); exact .inl (aE h),cond_false]
      by_cases c:7≤op∧op≤20
      · rw [aB c.1,aB c.2,if_pos c]; rfl
      · rw [if_neg c,show (aa (7≤op)&&aa (op≤20)) = false by rw [Bool.and_eq_false_iff]; by_cases h:7≤op; exact .inr (aE (by omega)); exact .inl (aE h),cond_false]
        by_cases d:op = 21
        · rw [if_pos d,cA.2 d]; rfl
        · rw [if_neg d,fx.2 d]; rfl
inductive JJ:GExpr→Prop
  | mk (e:GExpr) (h1:e.Name.size≤8000) (ha:(e.Args.length:Int) = u6 e.Op) (h3:∀ a∈e.Args,JJ a):JJ e
theorem QZ {e:GExpr} (h:ny e):En (fun b=>b = true→JJ e) (nJ e):=by
  induction h with
  | mk e h1 h2 h3 ih =>
    rw [yf]
    have key:∀ (z:Bool) (k:Nat) (i:Int),(e.Args.length:Int) - i≤k→0≤i→En (fun b=>b = true→∀ j:Nat,i≤(j:Int)→(h:j < e.Args.length)→JJ e.Args[j]) (ia z i e.Op e.Value e.Dim e.Name e.Args):=by
      intro z k
      induction k with
      | zero =>
        intro i h0 h1
        rw [ip]
        exact En.ifd (fun h=>by omega) fun _=>.some fun _ j hj hl=>by omega
      | succ k ihk =>
        intro i h0 h1
        rw [ip,aI]
        refine En.ifd (fun h=>?_) fun hn=>.some fun _ j hj hl=>by omega
        rw [ah (n:=i+1) (by omega) (by omega)]
        refine En.gd h1 (En.gd h (En.bind (ih _ (cw h1 h)) fun r hr=>En.not (fun hf=>.some fun h=>by cases h) fun ht=>?_))
        refine (ihk (i+1) (by omega) (by omega)).weak fun b hb hbt j hj hl=>?_
        by_cases e1:i = (j:Int)
        · subst e1
          have:=hr ht
          rw [bd hl] at this
          exact this
        · exact hb hbt j (by omega) hl
    have none_:e.Args.length = 0→∀ a∈e.Args,JJ a:=fun h0 a ha=>by rw [List.eq_nil_of_length_eq_zero h0] at ha; simp at ha
    rw [UU,Option.bind_some]
    refine En.ifn (fun _=>.some fun h=>by cases h) fun hargs=>?_
    refine En.ifi (fun e1=>?_) fun n1=>En.ifi (fun e2=>?_) fun n2=>En.ifi (fun e3=>?_) fun n3=>?_
    · exact En.bind (om _ _) fun _ _=>.some fun _=>.mk e h1 hargs (none_ (by rw [e1] at hargs; have z:u6 1 = 0:=rfl; omega))
    · have f:JJ e:=.mk e h1 hargs (none_ (by rw [e2] at hargs; have z:u6 2 = 0:=rfl; omega))
      exact En.bif (fun _=>En.bif (fun _=>En.bind (lU _ (by omega)) fun _ _=>.some fun _=>f) fun _=>.some fun _=>f) fun _=>.some fun _=>f
    · exact .some fun _=>.mk e h1 hargs (none_ (by rw [e3] at hargs; have z:u6 3 = 0:=rfl; omega))
    · refine (key _ _ 0 (Int.self_le_toNat _) (by omega)).weak fun b hb hbt=>.mk e h1 hargs fun a ha=>?_
      obtain ⟨j,hj,rfl⟩:=List.getElem_of_mem ha
      exact hb hbt j (by omega) hj
theorem Lg {e:GExpr} (h:ny e):En (fun b=>b = true→JJ e) (ee e):=by
  rw [s5,aI]
  exact En.bind (Nn h) fun _ _=>En.bif (fun _=>En.bind (PT h) fun _ _=>En.bif (fun _=>En.bind (QZ h) fun _ hb=>.some hb) fun _=>.some fun h=>by cases h) fun _=>.some fun h=>by cases h
theorem RJ (op:Int) (d:List Int) (h4:4≤op) (h:(d.length:Int) = u6 op):En (fun _=>True) (rD op d):=by
  have l1:1≤d.length:=by unfold u6 at h; split at h <;> (try split at h) <;> (try split at h) <;> (try split at h) <;> omega
  have l2:7≤op→2≤d.length:=by intro h7; unfold u6 at h; split at h <;> (try split at h) <;> (try split at h) <;> (try split at h) <;> omega
  have l3:op = 21→3≤d.length:=by intro h7; unfold u6 at h; split at h <;> (try split at h) <;> (try split at h) <;> (try split at h) <;> omega
  clear h
  rw [IB]
  refine En.ifi (fun e5=>?_) fun n5=>?_
  · exact En.gd (by omega) (En.bif (fun _=>.some trivial) fun _=>.some trivial)
  · by_cases h46:op = 4∨op = 6
    · have e:(bif af op 4 then true else af op 6) = true:=by
        rw [cW,Bool.or_eq_true,cA,cA]; exact h46
      rw [e,cond_true]
      exact En.gd (by omega) (En.bif (fun _=>En.gd (by omega) (.some trivial)) fun _=>.some trivial)
    · have l2:=l2 (by omega)
      refine En.bif (fun _=>?_) fun _=>?_
      · exact En.gd (by omega) (En.bif (fun _=>En.gd (by omega) (.some trivial)) fun _=>.some trivial)
      · repeat' first
          | exact En.some trivial
          | refine En.gd (by omega) ?_
          | refine En.go (fun _=>by omega) ?_
          | refine En.gb (by simp) ?_
          | refine En.ifi (fun h21=>?_) (fun _=>?_)
          | refine En.bif (fun _=>?_) (fun _=>?_)
theorem J1 (s:ByteArray):En (fun _=>True) (tD s):=by
  rw [K7]
  simp only [CU,BT]
  repeat' first
    | exact En.some trivial
    | refine En.bif (fun _=>?_) (fun _=>?_)
theorem LG {env:List GBinding} (hv:env.length≤1000) {e:GExpr} (h:JJ e):En (fun _=>True) (tS e env):=by
  induction h with
  | mk e h1 ha h3 ih =>
    rw [Ln]
    have back:∀ (k:Nat) (i:Int),i+1≤k→i < (env.length:Int)→En (fun _=>True) (ju env i e.Op e.Value e.Dim e.Name e.Args):=by
      intro k
      induction k with
      | zero=>intro i hk hi; rw [oS]; exact En.ifd (fun h=>by omega) fun _=>.some trivial
      | succ k ihk =>
        intro i hk hi
        rw [oS]
        refine En.ifd (fun h=>?_) fun _=>.some trivial
        rw [ah (n:=i - 1) (by omega) (by omega)]
        exact En.gd h (En.gd hi (En.bif (fun _=>En.gd h (En.gd hi (.some trivial))) fun _=>ihk _ (by omega) (by omega)))
    refine En.ifi (fun _=>.some trivial) fun n1=>En.ifi (fun _=>.some trivial) fun n3=>En.ifi (fun _=>?_) fun n2=>?_
    · rw [ah (n:=(env.length:Int) - 1) (by omega) (by omega)]
      exact En.bind (J1 _) fun _ _=>En.bif (fun _=>.some trivial) fun _=>back 1001 _ (by omega) (by omega)
    · have h4:4≤e.Op∧e.Args.length≤3:=by
        unfold u6 at ha
        split at ha <;> (try split at ha) <;> (try split at ha) <;> (try split at ha) <;> omega
      have key:∀ (k:Nat) (i:Int) (d:List Int),(e.Args.length:Int) - i≤k→0≤i→i≤(e.Args.length:Int)→(d.length:Int) = i→En (fun _=>True) (lM env i e.Op e.Value e.Dim e.Name e.Args d):=by
        have fin:∀ d:List Int,(d.length:Int) = (e.Args.length:Int)→En (fun _=>True) ((rD e.Op d).bind fun r1=>bif (af r1 0) then some ((0:Int),(6:Int)) else some (r1,0)):=fun d hd =>
          En.bind (RJ e.Op d h4.1 (hd.trans ha)) fun _ _=>En.bif (fun _=>.some trivial) fun _=>.some trivial
        intro k
        induction k with
        | zero =>
          intro i d hk h0 hi hd
          rw [sh]
          exact En.ifd (fun h=>by omega) fun _=>fin d (by omega)
        | succ k ihk =>
          intro i d hk h0 hi hd
          rw [sh,aI]
          refine En.ifd (fun h=>?_) fun _=>fin d (by omega)
          rw [ah (n:=i+1) (by omega) (by omega)]
          exact En.gd h0 (En.gd h (En.bind (ih _ (cw h0 h)) fun r _=>En.bif (fun _=>.some trivial) fun _=>En.gd (by omega) (En.gd (by omega) (ihk _ _ (by omega) (by omega) (by omega) (by rw [hZ]; omega)))))
      exact key _ 0 [] (Int.self_le_toNat _) (by omega) (by omega) rfl
theorem Oc {env:List GBinding} (hv:env.length≤1000) {e:GExpr} (h:ny e):En (fun _=>True) (pV e env):=by
  rw [Lb,aI]
  refine En.bind (Lg h) fun b hb=>En.not (fun _=>.some trivial) fun ht=>?_
  have hf:=hb ht
  have key:∀ (k:Nat) (i:Int),(env.length:Int) - i≤k→0≤i→En (fun _=>True) (mx env i e.Op e.Value e.Dim e.Name e.Args):=by
    intro k
    induction k with
    | zero=>intro i hk h0; rw [tc,aI]; exact En.ifd (fun h=>by omega) fun _=>En.bind (LG hv hf) fun _ _=>.some trivial
    | succ k ih =>
      intro i hk h0
      rw [tc,aI]
      refine En.ifd (fun h=>?_) fun _=>En.bind (LG hv hf) fun _ _=>.some trivial
      rw [ah (n:=i+1) (by omega) (by omega)]
      exact En.gd h0 (En.gd h (En.go (fun _=>h0) (En.go (fun _=>h) (En.bif (fun _=>.some trivial) fun _=>ih _ (by omega) (by omega)))))
  exact key _ 0 (Int.self_le_toNat _) (by omega)
theorem qw {env:List GBinding} (hv:env.length≤1000) {e:GExpr} (h:ny e) (dim:Int):En (fun _=>True) (pF e env dim):=by
  rw [K6,aI]
  exact En.bind (Oc hv h) fun _ _=>En.bif (fun _=>.some trivial) fun _=>.some trivial
theorem Vx {l:List GLet} (hx:∀ x∈l,x.Name.size≤8000∧ny x.Body):En (fun y:List GBinding × Int=>y.1.length≤1000) (A6 l):=by
  rw [LH]
  refine En.ifd (fun _=>.some (by simp)) fun hl=>?_
  have key:∀ (k:Nat) (i:Int) (out:List GBinding),(l.length:Int) - i≤k→0≤i→(out.length:Int)≤i→i≤(l.length:Int)→En (fun y:List GBinding × Int=>y.1.length≤1000) (jI l i out):=by
    intro k
    induction k with
    | zero=>intro i out hk h0 ho hi; rw [tf]; exact En.ifd (fun h=>by omega) fun _=>.some (by simp only []; omega)
    | succ k ih =>
      intro i out hk h0 ho hi
      rw [tf]
      refine En.ifd (fun h=>?_) fun _=>.some (by simp only []; omega)
      obtain ⟨x1,x2⟩:=hx _ (cw (z:=zS .GLet) h0 h)
      refine En.gd h0 (En.gd h (En.bind (J1 _) fun _ _=>En.bif (fun _=>.some (by simp)) fun _=>En.gd h0 (En.gd h (En.bind (lU _ (by omega)) fun nm _=>En.bif (fun _=>.some (by simp)) fun _=>?_))))
      have inner:∀ (m:Nat) (j t31 t32:Int) (t35:ByteArray) (t36 t37:Bool),i - j≤m→0≤j→En (fun y:List GBinding × Int=>y.1.length≤1000) (j7 l i j l t32 t35 t36 t37 out):=by
        have fin:En (fun y:List GBinding × Int=>y.1.length≤1000) (gb (aa (0≤i))<|gb (aa (i < (l.length:Int)))<|(pV (⟨(gD l i.toNat (zS .GLet)).Body.Op,(gD l i.toNat (zS .GLet)).Body.Value,(gD l i.toNat (zS .GLet)).Body.Dim,(gD l i.toNat (zS .GLet)).Body.Name,(gD l i.toNat (zS .GLet)).Body.Args⟩:GExpr) out).bind fun r0=>bif (aK r0.2 0) then some ([],r0.2) else gb (aa (0≤i))<|gb (aa (i < (l.length:Int)))<|gb (aa (((out.length+1)*24)≤140737488355328))<|gb (aa ((out.length+1)≤140737488355328))<|jI l (ab (i+1)) (out++[(⟨(gD l i.toNat (zS .GLet)).Name,r0.1⟩:GBinding)])):=by
          rw [aI,ah (n:=i+1) (by omega) (by omega)]
          exact En.gd h0 (En.gd h (En.bind (Oc (by omega) x2) fun _ _=>En.bif (fun _=>.some (by simp)) fun _=>En.gd h0 (En.gd h (En.gd (by omega) (En.gd (by omega) (ih _ _ (by omega) (by omega) (by rw [hZ]; omega) (by omega)))))))
        intro m
        induction m with
        | zero=>intro j t31 t32 t35 t36 t37 hm hj; rw [qa]; exact En.ifd (fun h=>by omega) fun _=>fin
        | succ m ihm =>
          intro j t31 t32 t35 t36 t37 hm hj
          rw [qa]
          refine En.ifd (fun hlt=>?_) fun _=>fin
          rw [ah (n:=j+1) (by omega) (by omega)]
          exact En.gd hj (En.gd (by omega) (En.gd h0 (En.gd h (En.bif (fun _=>.some (by simp)) fun _=>ihm _ t31 _ _ _ _ (by omega) (by omega)))))
      exact inner _ 0 0 _ _ _ _ (Int.self_le_toNat _) (by omega)
  exact key _ 0 [] (Int.self_le_toNat _) (by omega) (by simp) (by omega)
theorem Qw {v:GVersion} (h:sS v):En (fun _=>True) (uz v):=by
  rw [GB]
  refine En.bind (Vx h.xle) fun y hy=>En.bif (fun _=>.some trivial) fun _=>?_
  generalize y.1 = env at hy
  have c1:=h.cr
  have c2:=h.se
  have c3:=h.gr
  have c4:=h.re
  have red:∀ (k:Nat) (i:Int),(v.Reduces.length:Int) - i≤k→0≤i→En (fun _=>True) (iX env i v.From v.Rounding v.Credits v.Series v.Lets v.Grants v.Reduces):=by
    intro k
    induction k with
    | zero=>intro i hk h0; rw [oB]; exact En.ifd (fun h=>by omega) fun _=>.some trivial
    | succ k ih =>
      intro i hk h0
      rw [oB]
      refine En.ifd (fun hl=>?_) fun _=>.some trivial
      have inner:∀ (m:Nat) (j:Int),i - j≤m→0≤j→En (fun _=>True) (gu env i j v.From v.Rounding v.Credits v.Series v.Lets v.Grants v.Reduces):=by
        have fin:=h.xre _ (cw (z:=zS .GReduce) h0 hl)
        intro m
        induction m with
        | zero =>
          intro j hm hj
          rw [mT,aI,ah (n:=i+1) (by omega) (by omega)]
          exact En.ifd (fun h=>by omega) fun _=>En.gd h0 (En.gd hl (En.bind (qw hy fin 2) fun _ _=>En.bif (fun _=>.some trivial) fun _=>ih _ (by omega) (by omega)))
        | succ m ihm =>
          intro j hm hj
          rw [mT,aI,ah (n:=i+1) (by omega) (by omega)]
          refine En.ifd (fun hlt=>?_) fun _=>En.gd h0 (En.gd hl (En.bind (qw hy fin 2) fun _ _=>En.bif (fun _=>.some trivial) fun _=>ih _ (by omega) (by omega)))
          rw [ah (n:=j+1) (by omega) (by omega)]
          exact En.gd hj (En.gd (by omega) (En.gd h0 (En.gd hl (En.bif (fun _=>.some trivial) fun _=>ihm _ (by omega) (by omega)))))
      exact inner _ 0 (Int.self_le_toNat _) (by omega)
  have gra:∀ (k:Nat) (i:Int),(v.Grants.length:Int) - i≤k→0≤i→En (fun _=>True) (jm env i v.From v.Rounding v.Credits v.Series v.Lets v.Grants v.Reduces):=by
    intro k
    induction k with
    | zero=>intro i hk h0; rw [o4]; exact En.ifd (fun h=>by omega) fun _=>red _ 0 (Int.self_le_toNat _) (by omega)
    | succ k ih =>
      intro i hk h0
      rw [o4]
      refine En.ifd (fun hl=>?_) fun _=>red _ 0 (Int.self_le_toNat _) (by omega)
      have inner:∀ (m:Nat) (j:Int),i - j≤m→0≤j→En (fun _=>True) (iq env i j v.From v.Rounding v.Credits v.Series v.Lets v.Grants v.Reduces):=by
        obtain ⟨f1,f2⟩:=h.xgr _ (cw (z:=zS .GGrant) h0 hl)
        intro m
        induction m with
        | zero =>
          intro j hm hj
          rw [nE,aI,aI,ah (n:=i+1) (by omega) (by omega)]
          exact En.ifd (fun h=>by omega) fun _=>En.gd h0 (En.gd hl (En.bind (qw hy f1 1) fun _ _=>En.bif (fun _=>.some trivial) fun _=>En.gd h0 (En.gd hl (En.bind (qw hy f2 4) fun _ _=>En.bif (fun _=>.some trivial) fun _=>ih _ (by omega) (by omega)))))
        | succ m ihm =>
          intro j hm hj
          rw [nE,aI,aI,ah (n:=i+1) (by omega) (by omega)]
          refine En.ifd (fun hlt=>?_) fun _=>En.gd h0 (En.gd hl (En.bind (qw hy f1 1) fun _ _=>En.bif (fun _=>.some trivial) fun _=>En.gd h0 (En.gd hl (En.bind (qw hy f2 4) fun _ _=>En.bif (fun _=>.some trivial) fun _=>ih _ (by omega) (by omega)))))
          rw [ah (n:=j+1) (by omega) (by omega)]
          exact En.gd hj (En.gd (by omega) (En.gd h0 (En.gd hl (En.bif (fun _=>.some trivial) fun _=>ihm _ (by omega) (by omega)))))
      exact inner _ 0 (Int.self_le_toNat _) (by omega)
  have ser:∀ (k:Nat) (i:Int),(v.Series.length:Int) - i≤k→1≤i→En (fun _=>True) (jy env i v.From v.Rounding v.Credits v.Series v.Lets v.Grants v.Reduces):=by
    intro k
    induction k with
    | zero=>intro i hk h0; rw [oW]; exact En.ifd (fun h=>by omega) fun _=>gra _ 0 (Int.self_le_toNat _) (by omega)
    | succ k ih =>
      intro i hk h0
      rw [oW]
      refine En.ifd (fun hl=>?_) fun _=>gra _ 0 (Int.self_le_toNat _) (by omega)
      rw [ah (n:=i - 1) (by omega) (by omega),ah (n:=i+1) (by omega) (by omega)]
      exact En.gd (by omega) (En.gd hl (En.gd (by omega) (En.gd (by omega) (En.bif (fun _=>.some trivial) fun _=>ih _ (by omega) (by omega)))))
  have cre:∀ (k:Nat) (i:Int),(v.Credits.length:Int) - i≤k→0≤i→En (fun _=>True) (jv env i v.From v.Rounding v.Credits v.Series v.Lets v.Grants v.Reduces):=by
    intro k
    induction k with
    | zero=>intro i hk h0; rw [oZ]; exact En.ifd (fun h=>by omega) fun _=>ser _ 1 (Int.self_le_toNat _) (by omega)
    | succ k ih =>
      intro i hk h0
      rw [oZ]
      refine En.ifd (fun hl=>?_) fun _=>ser _ 1 (Int.self_le_toNat _) (by omega)
      have inner:∀ (m:Nat) (j:Int),i - j≤m→0≤j→En (fun _=>True) (iW env i j v.From v.Rounding v.Credits v.Series v.Lets v.Grants v.Reduces):=by
        intro m
        induction m with
        | zero =>
          intro j hm hj
          rw [oH,ah (n:=i+1) (by omega) (by omega)]
          exact En.ifd (fun h=>by omega) fun _=>ih _ (by omega) (by omega)
        | succ m ihm =>
          intro j hm hj
          rw [oH,ah (n:=i+1) (by omega) (by omega)]
          refine En.ifd (fun hlt=>?_) fun _=>ih _ (by omega) (by omega)
          rw [ah (n:=j+1) (by omega) (by omega)]
          exact En.gd hj (En.gd (by omega) (En.gd h0 (En.gd hl (En.bif (fun _=>.some trivial) fun _=>ihm _ (by omega) (by omega)))))
      exact inner _ 0 (Int.self_le_toNat _) (by omega)
  exact cre _ 0 (Int.self_le_toNat _) (by omega)
end Go.Ax
set_option linter.all false
/- Counted days: the document's way of finding them ends. -/
set_option maxRecDepth 100000
namespace Go.Ax
def Cl (v:GVersion):Prop:=v.Credits.length≤6∧∀ c∈v.Credits,0≤c.Limit∧c.Limit≤73049
theorem OP (F:Int) (R:GRounding) (cr:List GCredit) (se:List GIndex) (le:List GLet) (gr:List GGrant) (re:List GReduce) (h:sB 8000 cr se le gr re):∀ (k:Nat) (i:Int),(cr.length:Int) - i≤k→0≤i →
    En (fun b=>b = true→∀ j:Nat,i≤(j:Int)→(h:j < cr.length)→0≤cr[j].Limit∧cr[j].Limit≤73049) (db i F R cr se le gr re):=by
  intro k
  have:=h.cr
  have nxt:=De F R cr se le gr re h _ 0 (Int.self_le_toNat _) (Int.le_refl _)
  induction k with
  | zero=>intro i h0 h1; rw [eC]; exact En.ifd (fun h=>by omega) fun _=>nxt.weak fun _ _ _ j hj hl=>by omega
  | succ k ih =>
    intro i h0 h1
    rw [eC]
    refine En.ifd (fun hlt=>?_) fun hn=>nxt.weak fun _ _ _ j hj hl=>by omega
    rw [ah (n:=i+1) (by omega) (by omega)]
    refine En.gd h1 (En.gd hlt (En.bind (wc _ _) fun _ _=>En.go (fun _=>h1) (En.go (fun _=>hlt) (En.go (fun _=>h1) (En.go (fun _=>hlt) (En.bif (fun _=>.some fun h=>by cases h) fun hf=>?_))))))
    refine (ih (i+1) (by omega) (by omega)).weak fun b hb hbt j hj hl=>?_
    by_cases e:i = (j:Int)
    · subst e
      rw [bd hl,cW,cW,Bool.or_eq_false_iff,Bool.or_eq_false_iff] at hf
      have f1:=mK hf.1.2
      have f2:=mK hf.2
      omega
    · exact hb hbt j (by omega) hl
theorem D5 {v:GVersion} (h:sS v):En (fun b=>b = true→Cl v) (jo v):=by
  rw [oU,dY,jL]
  simp only [Option.bind_some]
  have g:=OP v.From v.Rounding _ _ _ _ _ h _ 0 (Int.self_le_toNat _) (Int.le_refl _)
  refine En.bif (fun _=>.some fun h=>by cases h) fun _=>En.bif (fun _=>.some fun h=>by cases h) fun _=>En.ifd (fun _=>.some fun h=>by cases h) fun h6=>?_
  have g2:En (fun b=>b = true→Cl v) (db 0 v.From v.Rounding v.Credits v.Series v.Lets v.Grants v.Reduces):=g.weak fun b hb hbt=>⟨by omega,fun c hc=>by
    obtain ⟨j,hj,rfl⟩:=List.getElem_of_mem hc
    exact hb hbt j (by omega) hj⟩
  repeat' first | exact g2 | exact En.some (fun h=>by cases h) | refine En.bif (fun _=>?_) (fun _=>?_)
theorem Tx {x:GStatute} (h1:x.Name.size≤8000) (h2:x.Versions.length≤8001) (h3:∀ v∈x.Versions,sS v):En (fun b=>b = true→∀ v∈x.Versions,Cl v) (kx x):=by
  rw [An]
  refine En.bind (lU _ (by omega)) fun _ _=>En.bif (fun _=>.some fun h=>by cases h) fun _=>?_
  have key:∀ (k:Nat) (i:Int),(x.Versions.length:Int) - i≤k→0≤i→En (fun b=>b = true→∀ j:Nat,i≤(j:Int)→(h:j < x.Versions.length)→Cl x.Versions[j]) (jG i x.Name x.Currency x.Versions):=by
    intro k
    induction k with
    | zero=>intro i h0 h1; rw [jq]; exact En.ifd (fun h=>by omega) fun _=>.some fun _ j hj hl=>by omega
    | succ k ih =>
      intro i h0 h1
      rw [jq]
      refine En.ifd (fun hlt=>?_) fun _=>.some fun _ j hj hl=>by omega
      rw [ah (n:=i+1) (by omega) (by omega)]
      refine En.gd h1 (En.gd hlt (En.bind (D5 (h3 _ (cw h1 hlt))) fun b hb=>En.not (fun _=>.some fun h=>by cases h) fun ht=>?_))
      refine (ih (i+1) (by omega) (by omega)).weak fun b' hb' hbt j hj hl=>?_
      by_cases e:i = (j:Int)
      · subst e
        have:=hb ht
        rw [bd hl] at this
        exact this
      · exact hb' hbt j (by omega) hl
  refine (key _ 0 (Int.self_le_toNat _) (Int.le_refl _)).weak fun b hb hbt v hv=>?_
  obtain ⟨j,hj,rfl⟩:=List.getElem_of_mem hv
  exact hb hbt j (by omega) hj
structure ol (x:GStatute):Prop where
  nm:x.Name.size≤8000
  len:x.Versions.length≤8001
  vs:∀ v∈x.Versions,sS v∧Cl v
theorem ol.nil:ol ⟨ac [],0,[]⟩:=⟨i7,by simp,fun v hv=>by simp at hv⟩
theorem SA (s:ByteArray):En (fun y=>ol y.1) (yP s):=by
  have fin:∀ (r:Rd) (nm:ByteArray) (cu:Int) (vs:List GVersion),RI r→nm.size≤8000→vs.length≤8001→(∀ v∈vs,sS v)→En (fun (y:GStatute × Int × Int)=>ol y.1) (bif (bif r.bad then true else aa (r.at_ < (r.l.length:Int))) then (jz r).bind fun r3=>some ((⟨(ac []),0,[]⟩:GStatute),r3,4)
      else (kx (⟨nm,cu,vs⟩:GStatute)).bind fun r4=>bif (!r4) then some ((⟨(ac []),0,[]⟩:GStatute),0,7) else some ((⟨nm,cu,vs⟩:GStatute),0,0)):=by
    intro r nm cu vs hr h1 h2 h3
    refine En.bif (fun _=>?_) fun _=>En.bind (Tx (x:=⟨nm,cu,vs⟩) h1 h2 h3) fun b hb=>En.not (fun _=>.some ol.nil) fun ht=>.some ⟨h1,h2,fun v hv=>⟨h3 v hv,hb ht v hv⟩⟩
    rw [yM]
    exact En.bind (R:=fun _=>True) (En.ifd (fun h=>En.gd hr.1 (En.gd h (.some trivial))) fun _=>.some trivial) fun _ _=>.some ol.nil
  have loop:∀ (k:Nat) (first:Bool) (r:Rd) (nm0:ByteArray) (cu0:Int) (nm:ByteArray) (cu:Int) (vs:List GVersion),((r.l.length:Int) - r.at_)+(if r.bad then 0 else 1)≤k→RI r→nm.size≤8000→(vs.length:Int)≤r.at_+(if r.bad then 1 else 0)→(∀ v∈vs,sS v) →
      En (fun y=>ol y.1) (fk first nm0 cu0 r nm cu vs):=by
    intro k
    induction k with
    | zero =>
      intro first r nm0 cu0 nm cu vs hk hr h1 h2 h3
      rw [qp]
      have:=hr.2.1
      have:=small hr
      refine En.not (fun hb=>?_) fun hb=>fin r nm cu vs hr h1 (by rw [hb] at h2; simp at h2; omega) h3
      rw [hb] at hk; simp at hk; omega
    | succ k ih =>
      intro first r nm0 cu0 nm cu vs hk hr h1 h2 h3
      rw [qp]
      have hsm:=small hr
      refine En.not (fun hb=>?_) fun hb=>fin r nm cu vs hr h1 (by rw [hb] at h2; simp at h2; omega) h3
      rw [hb] at hk h2
      simp at hk h2
      have go:∀ (r':Rd) (y:GVersion × Rd),sS y.1∧RN r y.2∧PG r y.2→En (fun y=>ol y.1) (gb (aa (((vs.length+1)*144)≤140737488355328))<|gb (aa ((vs.length+1)≤140737488355328))<|fk false nm0 cu0 y.2 nm cu (vs++[y.1])):=by
        intro r' y ⟨g1,g2,g3⟩
        refine En.gd (by omega) (En.gd (by omega) (ih _ _ _ _ _ _ _ ?_ g2.ok h1 ?_ fun v hv=>?_))
        · rw [g2.l]
          have:=g2.le
          rcases g3 with hbb | hlt
          · rw [hbb]; simp; omega
          · split <;> omega
        · rw [hZ]
          have:=g2.le
          rcases g3 with hbb | hlt
          · rw [hbb]; simp; omega
          · split <;> omega
        · rcases List.mem_append.1 hv with hv | hv
          · exact h3 v hv
          · simp at hv; subst hv; exact g1
      refine En.bif (fun _=>En.bind (F3 hr) fun y hy=>go r y hy) fun _=>En.bind (fP hr _) fun y1 t1=>En.not (fun g=>?_) fun g=>?_
      · rw [t1.2.2 g]
        exact En.bind (F3 hr) fun y hy=>go r y hy
      · exact fin _ nm cu vs t1.1.ok h1 (by omega) h3
  rw [KV]
  refine En.bind (U3 s) fun y hy=>En.bif (fun hb=>En.ifn (fun _=>.some ol.nil) fun h=>absurd h (hy.1 hb)) fun hb=>En.ifn (fun _=>.some ol.nil) fun _=>?_
  have hr:=hy.2 hb
  refine En.bind (cM hr _) fun r1 w1=>En.bind (Jp w1.1.ok) fun y2 x2=>En.bind (cM x2.1.ok _) fun r3 w3=>En.bind (rR w3.1.ok _ _) fun y4 x4=>En.bind (cM x4.ok _) fun r5 w5=>?_
  exact loop _ _ _ _ _ _ _ _ (Int.self_le_toNat _) w5.1.ok x2.2 (by have:=w5.1.ok.1; split <;> simp <;> omega) (fun v hv=>by simp at hv)
structure pJ (x:GLaws):Prop where
  tr:My x.Treaty
  rt:x.Rates = aO
  len:x.States.length≤3
  st:∀ s∈x.States,ol s.Statute
theorem Up (n:List Int) (hn:n.length≤100000000):En pJ (BE n):=by
  rw [M9]
  have loop:∀ (k:Nat) (s:Int) (S:List GState),3 - s≤k→0≤s→s≤3→(S.length:Int)≤s→(∀ x∈S,ol x.Statute)→En pJ (kJ n s S aO):=by
    have fin:∀ S:List GState,S.length≤3→(∀ x∈S,ol x.Statute)→En pJ ((ax n 2).bind fun r2=>(am r2 6).bind fun r3=>(ax n 5).bind fun r4=>(am r4 3).bind fun r5=>bif (af r5 0) then some (⟨S,[(⟨0,(ab (90*r3)),730,25,[0,1,2]⟩:GRules)],aO⟩:GLaws) else bif (af r5 1) then some (⟨S,[(⟨0,(ab (90*r3)),730,25,[0,1]⟩:GRules),(⟨35000,(ab (90*r3)),365,30,[0,1,2]⟩:GRules)],aO⟩:GLaws) else some (⟨S,[(⟨0,(ab (90*r3)),730,25,[0,1,2]⟩:GRules),(⟨36000,(ab (90*r3)),730,25,[0,1]⟩:GRules)],aO⟩:GLaws)):=by
      intro S hS hx
      refine jU hn fun _=>lh (by decide) fun p h1 h2=>jU hn fun _=>lh (by decide) fun q _ _=>?_
      rw [ah (by omega) (by omega)]
      exact En.bif (fun _=>.some ⟨⟨90*p,by omega,by omega, .inl rfl⟩,rfl,hS,hx⟩) fun _=>En.bif (fun _=>.some ⟨⟨90*p,by omega,by omega, .inr (.inl rfl)⟩,rfl,hS,hx⟩) fun _=>.some ⟨⟨90*p,by omega,by omega, .inr (.inr rfl)⟩,rfl,hS,hx⟩
    intro k
    induction k with
    | zero =>
      intro s S hk h0 h3 hS hx
      rw [u7]
      exact En.ifd (fun h=>by omega) fun _=>fin S (by omega) hx
    | succ k ih =>
      intro s S hk h0 h3 hS hx
      rw [u7]
      refine En.ifd (fun hs=>?_) fun h=>fin S (by omega) hx
      rw [ah (n:=s+1) (by omega) (by omega)]
      refine .bind (Vr hn s h0 hs) fun x _=>.bind (SA x) fun y hy=>En.bif (fun _=>?_) fun _=>ih _ _ (by omega) (by omega) (by omega) (by omega) hx
      refine En.gd (by omega) (En.gd (by omega) (ih _ _ (by omega) (by omega) (by omega) (by rw [hZ]; omega) fun z hz=>?_))
      rcases List.mem_append.1 hz with hz | hz
      · exact hx z hz
      · rw [List.mem_singleton.1 hz]; exact hy
  exact loop 3 0 _ (by omega) (Int.le_refl _) (by omega) (by simp) (fun x hx=>by simp at hx)
theorem RD {x:GStatute} (h:ol x):En (fun _=>True) (uQ x):=by
  rw [GZ]
  refine En.bind (UO h.nm h.len fun v hv=>(h.vs v hv).1) fun _ _=>En.bif (fun _=>.some trivial) fun _=>?_
  have hl:=h.len
  have key:∀ (k:Nat) (i:Int),(x.Versions.length:Int) - i≤k→0≤i→En (fun _=>True) (kw i x.Name x.Currency x.Versions):=by
    intro k
    induction k with
    | zero=>intro i h0 h1; rw [qh]; exact En.ifd (fun h=>by omega) fun _=>.some trivial
    | succ k ih =>
      intro i h0 h1
      rw [qh]
      refine En.ifd (fun hlt=>?_) fun _=>.some trivial
      have hi:∀ {b:Bool},(aa (0 < i)&&b) = true→0≤ab (i - 1)∧ab (i - 1) < (x.Versions.length:Int):=by
        intro b e
        have:=cJ (Bool.and_eq_true _ _ ▸ e).1
        rw [ah (by omega) (by omega)]; omega
      rw [ah (n:=i+1) (by omega) (by omega)]
      exact En.go (fun _=>h1) (En.go (fun _=>hlt) (En.go (fun e=>(hi e).1) (En.go (fun e=>(hi e).2) (En.bif (fun _=>.some trivial) fun _=>En.gd h1 (En.gd hlt (En.bind (Qw (h.vs _ (cw h1 hlt)).1) fun _ _=>En.bif (fun _=>.some trivial) fun _=>ih _ (by omega) (by omega)))))))
  exact key _ 0 (Int.self_le_toNat _) (by omega)
theorem UB {x:GLaws} (h:pJ x) (day:Int):En (fun _=>True) (xh x day):=by
  have hl:=h.len
  rw [IW,dY]
  refine En.bind (R:=fun _=>True) ?_ fun _ _=>En.bif (fun _=>.some trivial) fun _=>En.bif (fun _=>.some trivial) fun _=>.some trivial
  rw [Bh]
  obtain ⟨m1,m2⟩:=EH h.tr
  have two:∀ (k:Nat) (i:Int),(x.States.length:Int) - i≤k→0≤i→En (fun _=>True) (il i x.States x.Treaty x.Rates):=by
    have fin:En (fun _=>True) ((no x.Treaty).bind fun r1=>bif (aK r1 0) then some r1 else (dN x.Rates).bind fun r2=>some r2):=En.bind (Me _ m1 m2) fun _ _=>En.bif (fun _=>.some trivial) fun _=>by
      rw [h.rt,Uo.r]; exact .some trivial
    intro k
    induction k with
    | zero=>intro i hk h0; rw [nv]; exact En.ifd (fun h=>by omega) fun _=>fin
    | succ k ih =>
      intro i hk h0
      rw [nv]
      refine En.ifd (fun hlt=>?_) fun _=>fin
      rw [ah (n:=i+1) (by omega) (by omega)]
      exact En.gd h0 (En.gd hlt (En.bind (RD (h.st _ (cw h0 hlt))) fun _ _=>En.bif (fun _=>.some trivial) fun _=>ih _ (by omega) (by omega)))
  have one:∀ (k:Nat) (i:Int),(x.States.length:Int) - i≤k→0≤i→En (fun _=>True) (io i x.States x.Treaty x.Rates):=by
    intro k
    induction k with
    | zero=>intro i hk h0; rw [nG]; exact En.ifd (fun h=>by omega) fun _=>two _ 0 (Int.self_le_toNat _) (by omega)
    | succ k ih =>
      intro i hk h0
      rw [nG]
      refine En.ifd (fun hlt=>?_) fun _=>two _ 0 (Int.self_le_toNat _) (by omega)
      have hi:∀ {b:Bool},(aa (0 < i)&&b) = true→0≤ab (i - 1)∧ab (i - 1) < (x.States.length:Int):=by
        intro b e
        have:=cJ (Bool.and_eq_true _ _ ▸ e).1
        rw [ah (by omega) (by omega)]; omega
      rw [ah (n:=i+1) (by omega) (by omega)]
      exact En.gd h0 (En.gd hlt (En.go (fun e=>(hi e).1) (En.go (fun e=>(hi e).2) (En.bif (fun _=>.some trivial) fun _=>ih _ (by omega) (by omega)))))
  exact one _ 0 (Int.self_le_toNat _) (by omega)
theorem Tu {t:List GRules} (h:My t) (st day:Int):En (fun _=>True) (uf t st day):=by
  obtain ⟨m1,m2⟩:=EH h
  have ra:En (fun y:GRules × Bool=>y.1.Members.length≤3) (kO t day):=by
    rw [uV,ah (n:=(t.length:Int) - 1) (by omega) (by omega)]
    have key:∀ (k:Nat) (i:Int) (z:GRules),i+1≤k→i < (t.length:Int)→En (fun y:GRules × Bool=>y.1.Members.length≤3) (gm t day i z):=by
      intro k
      induction k with
      | zero=>intro i z hk hi; rw [gB]; exact En.ifd (fun h=>by omega) fun _=>.some (by simp)
      | succ k ih =>
        intro i z hk hi
        rw [gB]
        refine En.ifd (fun h=>?_) fun _=>.some (by simp)
        have:=m2 _ (cw (z:=zS .GRules) h hi)
        rw [pQ,Option.bind_some,ah (n:=i - 1) (by omega) (by omega)]
        exact En.bif (fun _=>En.gd h (En.gd hi (En.ifd (fun _=>En.gd h (En.gd hi (En.gd (by omega) (En.gd (by omega) (.some this))))) fun _=>ih _ _ (by omega) (by omega)))) fun _=>.some (by simp)
    exact key 3 _ _ (by omega) (by omega)
  rw [F4]
  refine En.bind ra fun y hy=>En.bif (fun _=>?_) fun _=>.some trivial
  refine En.bind (R:=fun _=>True) ?_ fun _ _=>.some trivial
  rw [NK]
  generalize y.1.Members = ms at hy
  have key:∀ (k:Nat) (i:Int),(ms.length:Int) - i≤k→0≤i→En (fun _=>True) (n8 ms st i):=by
    intro k
    induction k with
    | zero=>intro i hk h0; rw [vz]; exact En.ifd (fun h=>by omega) fun _=>.some trivial
    | succ k ih =>
      intro i hk h0
      rw [vz]
      refine En.ifd (fun hlt=>?_) fun _=>.some trivial
      rw [ah (n:=i+1) (by omega) (by omega)]
      exact En.gd h0 (En.gd hlt (En.bif (fun _=>.some trivial) fun _=>ih _ (by omega) (by omega)))
  exact key _ 0 (Int.self_le_toNat _) (by omega)
def QO (x:GLaws) (m:List Int):Prop:=m.length≤3∧∀ s∈m, ∃ y∈x.States,y.State = s
theorem Qn {x:GLaws} (h:pJ x) (day:Int):En (QO x) (sW x day):=by
  have hl:=h.len
  rw [Es]
  have key:∀ (k:Nat) (i:Int) (out:List Int),(x.States.length:Int) - i≤k→0≤i→i≤(x.States.length:Int)→(out.length:Int)≤i→(∀ s∈out, ∃ y∈x.States,y.State = s)→En (QO x) (gn day i x.States x.Treaty x.Rates out):=by
    intro k
    induction k with
    | zero=>intro i out hk h0 hi ho hx; rw [pu]; exact En.ifd (fun h=>by omega) fun _=>.some ⟨by omega,hx⟩
    | succ k ih =>
      intro i out hk h0 hi ho hx
      rw [pu]
      refine En.ifd (fun hlt=>?_) fun _=>.some ⟨by omega,hx⟩
      rw [ah (n:=i+1) (by omega) (by omega)]
      refine En.gd h0 (En.gd hlt (En.bind (Tu h.tr _ _) fun _ _=>En.bif (fun _=>?_) fun _=>ih _ _ (by omega) (by omega) (by omega) (by omega) hx))
      refine En.gd h0 (En.gd hlt (En.gd (by omega) (En.gd (by omega) (ih _ _ (by omega) (by omega) (by omega) (by rw [hZ]; omega) fun s hs=>?_))))
      rcases List.mem_append.1 hs with hs | hs
      · exact hx s hs
      · rw [List.mem_singleton.1 hs]
        exact ⟨_,cw h0 hlt,rfl⟩
  exact key _ 0 [] (Int.self_le_toNat _) (by omega) (by omega) (by simp) (fun s hs=>by simp at hs)
theorem Ud {x:GLaws} (h:pJ x) {s:Int} (hs:∃ y∈x.States,y.State = s):En (fun r=>0≤r∧r < (x.States.length:Int)) (wF x s):=by
  have hl:=h.len
  rw [Il]
  have key:∀ (k:Nat) (i:Int),(x.States.length:Int) - i≤k→0≤i→(∃ j:Nat,i≤(j:Int)∧∃ h:j < x.States.length,x.States[j].State = s)→En (fun r=>0≤r∧r < (x.States.length:Int)) (lG s i x.States x.Treaty x.Rates):=by
    intro k
    induction k with
    | zero=>rintro i hk h0 ⟨j,j1,j2,j3⟩; omega
    | succ k ih =>
      rintro i hk h0 ⟨j,j1,j2,j3⟩
      rw [AT]
      refine En.ifd (fun hlt=>?_) fun hn=>by omega
      rw [ah (n:=i+1) (by omega) (by omega)]
      refine En.gd h0 (En.gd hlt (En.ifi (fun _=>.some ⟨h0,hlt⟩) fun hne=>ih _ (by omega) (by omega) ⟨j, ?_,j2,j3⟩))
      by_cases e:i = (j:Int)
      · subst e
        rw [bd j2] at hne
        exact absurd j3 hne
      · omega
  obtain ⟨y,hy,rfl⟩:=hs
  obtain ⟨j,hj,rfl⟩:=List.getElem_of_mem hy
  exact key _ 0 (Int.self_le_toNat _) (by omega) ⟨j,by omega,hj,rfl⟩
theorem WY {x:GStatute} (h:ol x) (day:Int):En (fun y:GVersion × Bool=>Cl y.1) (Jh x day):=by
  have hl:=h.len
  have z:Cl ⟨0,(⟨0,0⟩:GRounding),[],[],[],[],[]⟩:=⟨by simp,fun c hc=>by simp at hc⟩
  rw [Qs,dY,Option.bind_some]
  refine En.bif (fun _=>.some z) fun _=>?_
  rw [ah (n:=(x.Versions.length:Int) - 1) (by omega) (by omega)]
  have key:∀ (k:Nat) (i:Int),i+1≤k→i < (x.Versions.length:Int)→En (fun y:GVersion × Bool=>Cl y.1) (qW day i x.Name x.Currency x.Versions 0 ⟨0,0⟩):=by
    intro k
    induction k with
    | zero=>intro i hk hi; rw [xQ]; exact En.ifd (fun h=>by omega) fun _=>.some z
    | succ k ih =>
      intro i hk hi
      rw [xQ]
      refine En.ifd (fun h0=>?_) fun _=>.some z
      rw [ah (n:=i - 1) (by omega) (by omega)]
      exact En.gd h0 (En.gd hi (En.ifd (fun _=>En.gd h0 (En.gd hi (.some (h.vs _ (cw h0 hi)).2))) fun _=>ih _ (by omega) (by omega)))
  exact key 8002 _ (by omega) (by omega)
theorem Sw (l:List GFact) (hl:l.length≤900) (law:List GSegment) (hw:law.length≤99000) (schemes:List GScheme) (hn:schemes.length≤1000) (hx:∀ x∈schemes,Cu x) (b:Int) :
    En (fun y:List GPeriod × Int=>y.1.length≤600000000) (pC l law schemes b):=by
  have hfin:=SZ l hl law hw schemes hn hx b
  have hlen:=O3 l law schemes hn ⟨0,b⟩
  have key:∀ (n i:Nat),schemes.length = i+n→En (fun y:List GPeriod × Int=>y.1.length≤600000000) (e9 l law schemes b (i:Int)):=by
    intro n
    induction n with
    | zero =>
      intro i h
      have:i = schemes.length:=by omega
      subst this
      rw [pY,aX,cond_false,hfin]
      exact .some hlen
    | succ n ih =>
      intro i h
      have hi:i < schemes.length:=by omega
      have k2:e9 l law schemes b (i:Int) = if LE schemes i = true then some ([],1) else e9 l law schemes b ((i+1:Nat):Int):=by
        rw [← Q1 schemes hn i hi,pY,aP hi,cond_true,cond_true,aW hi (by omega)]
      rw [k2]
      by_cases hc:LE schemes i = true
      · rw [if_pos hc]; exact .some (by simp)
      · rw [if_neg hc]; exact ih (i+1) (by omega)
  rw [Gi]
  exact En.bif (fun _=>.some (by simp)) fun _=>key schemes.length 0 (by omega)
end Go.Ax
