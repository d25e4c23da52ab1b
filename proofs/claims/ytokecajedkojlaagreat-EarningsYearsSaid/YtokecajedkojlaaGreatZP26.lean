import Derived.Test.YtokecajedkojlaaGreatZP5
import Derived.Test.YtokecajedkojlaaGreatZP17
import Derived.Test.YtokecajedkojlaaGreatZP20
set_option linter.all false
/- Laws of states: their check ends. -/
set_option maxRecDepth 100000
namespace Go.Ax
def ua (op:Int):Int:=if 1≤op∧op≤3 then 0 else if 4≤op∧op≤6 then 1 else if 7≤op∧op≤20 then 2 else if op = 21 then 3 else -1
theorem S5 (op:Int):rn op = some (ua op):=by
  rw [BP]
  simp only [bD]
  unfold ua
  by_cases a:1≤op∧op≤3
  · rw [ay a.1,ay a.2,if_pos a]; rfl
  · rw [if_neg a,show (aa (1≤op)&&aa (op≤3)) = false by rw [Bool.and_eq_false_iff]; by_cases h:1≤op; exact .inr (aB (by omega)); exact .inl (aB h),cond_false]
    by_cases b:4≤op∧op≤6
    · rw [ay b.1,ay b.2,if_pos b]; rfl
    · rw [if_neg b,show (aa (4≤op)&&aa (op≤6)) = false by rw [Bool.and_eq_false_iff]; by_cases h:4≤op; exact .inr (aB (by omega)); exact .inl (aB h),cond_false]
      by_cases c:7≤op∧op≤20
      · rw [ay c.1,ay c.2,if_pos c]; rfl
      · rw [if_neg c,show (aa (7≤op)&&aa (op≤20)) = false by rw [Bool.and_eq_false_iff]; by_cases h:7≤op; exact .inr (aB (by omega)); exact .inl (aB h),cond_false]
        by_cases d:op = 21
        · rw [if_pos d,cY.2 d]; rfl
        · rw [if_neg d,fI.2 d]; rfl
inductive JB:GExpr→Prop
  | mk (e:GExpr) (h1:e.Name.size≤8000) (ha:(e.Args.length:Int) = ua e.Op) (h3:∀ a∈e.Args,JB a):JB e
theorem QT {e:GExpr} (h:nu e):En (fun b=>b = true→JB e) (nG e):=by
  induction h with
  | mk e h1 h2 h3 ih =>
    rw [xN]
    have key:∀ (z:Bool) (k:Nat) (i:Int),(e.Args.length:Int) - i≤k→0≤i→En (fun b=>b = true→∀ j:Nat,i≤(j:Int)→(h:j < e.Args.length)→JB e.Args[j]) (gU z i e.Op e.Value e.Dim e.Name e.Args):=by
      intro z k
      induction k with
      | zero =>
        intro i h0 h1
        rw [gZ]
        exact En.ifd (fun h=>by omega) fun _=>.some fun _ j hj hl=>by omega
      | succ k ihk =>
        intro i h0 h1
        rw [gZ,aI]
        refine En.ifd (fun h=>?_) fun hn=>.some fun _ j hj hl=>by omega
        rw [ai (n:=i+1) (by omega) (by omega)]
        refine En.gd h1 (En.gd h (En.bind (ih _ (cB h1 h)) fun r hr=>En.not (fun hf=>.some fun h=>by cases h) fun ht=>?_))
        refine (ihk (i+1) (by omega) (by omega)).weak fun b hb hbt j hj hl=>?_
        by_cases e1:i = (j:Int)
        · subst e1
          have:=hr ht
          rw [be hl] at this
          exact this
        · exact hb hbt j (by omega) hl
    have none_:e.Args.length = 0→∀ a∈e.Args,JB a:=fun h0 a ha=>by rw [List.eq_nil_of_length_eq_zero h0] at ha; simp at ha
    rw [S5,Option.bind_some]
    refine En.ifn (fun _=>.some fun h=>by cases h) fun hargs=>?_
    refine En.ifi (fun e1=>?_) fun n1=>En.ifi (fun e2=>?_) fun n2=>En.ifi (fun e3=>?_) fun n3=>?_
    · exact En.bind (n8 _ _) fun _ _=>.some fun _=>.mk e h1 hargs (none_ (by rw [e1] at hargs; have z:ua 1 = 0:=rfl; omega))
    · have f:JB e:=.mk e h1 hargs (none_ (by rw [e2] at hargs; have z:ua 2 = 0:=rfl; omega))
      exact En.bif (fun _=>En.bif (fun _=>En.bind (lN _ (by omega)) fun _ _=>.some fun _=>f) fun _=>.some fun _=>f) fun _=>.some fun _=>f
    · exact .some fun _=>.mk e h1 hargs (none_ (by rw [e3] at hargs; have z:ua 3 = 0:=rfl; omega))
    · refine (key _ _ 0 (Int.self_le_toNat _) (by omega)).weak fun b hb hbt=>.mk e h1 hargs fun a ha=>?_
      obtain ⟨j,hj,rfl⟩:=List.getElem_of_mem ha
      exact hb hbt j (by omega) hj
theorem Kd {e:GExpr} (h:nu e):En (fun b=>b = true→JB e) (ef e):=by
  rw [sU,aI]
  exact En.bind (Lq h) fun _ _=>En.bif (fun _=>En.bind (OV h) fun _ _=>En.bif (fun _=>En.bind (QT h) fun _ hb=>.some hb) fun _=>.some fun h=>by cases h) fun _=>.some fun h=>by cases h
theorem Re (op:Int) (d:List Int) (h4:4≤op) (h:(d.length:Int) = ua op):En (fun _=>True) (qV op d):=by
  have l1:1≤d.length:=by unfold ua at h; split at h <;> (try split at h) <;> (try split at h) <;> (try split at h) <;> omega
  have l2:7≤op→2≤d.length:=by intro h7; unfold ua at h; split at h <;> (try split at h) <;> (try split at h) <;> (try split at h) <;> omega
  have l3:op = 21→3≤d.length:=by intro h7; unfold ua at h; split at h <;> (try split at h) <;> (try split at h) <;> (try split at h) <;> omega
  clear h
  rw [HT]
  refine En.ifi (fun e5=>?_) fun n5=>?_
  · exact En.gd (by omega) (En.bif (fun _=>.some trivial) fun _=>.some trivial)
  · by_cases h46:op = 4∨op = 6
    · have e:(bif af op 4 then true else af op 6) = true:=by
        rw [dR,Bool.or_eq_true,cY,cY]; exact h46
      rw [e,cond_true]
      exact En.gd (by omega) (En.bif (fun _=>En.gd (by omega) (.some trivial)) fun _=>.some trivial)
    · have l2:=l2 (by omega)
      refine En.bif (fun _=>?_) fun _=>?_
      · exact En.gd (by omega) (En.bif (fun _=>En.gd (by omega) (.some trivial)) fun _=>.some trivial)
      · repeat' first
          | exact En.some trivial
          | refine En.gd (by omega) ?_
          | refine En.go (fun _=>by omega) ?_
          | refine En.gb (by simp) ?_
          | refine En.ifi (fun h21=>?_) (fun _=>?_)
          | refine En.bif (fun _=>?_) (fun _=>?_)
theorem Jz (s:ByteArray):En (fun _=>True) (tE s):=by
  rw [J8]
  simp only [CI,A3]
  repeat' first
    | exact En.some trivial
    | refine En.bif (fun _=>?_) (fun _=>?_)
theorem M0 {env:List GBinding} (hv:env.length≤1000) {e:GExpr} (h:JB e):En (fun _=>True) (tx e env):=by
  induction h with
  | mk e h1 ha h3 ih =>
    rw [J9]
    have back:∀ (k:Nat) (i:Int),i+1≤k→i < (env.length:Int)→En (fun _=>True) (jt env i e.Op e.Value e.Dim e.Name e.Args):=by
      intro k
      induction k with
      | zero=>intro i hk hi; rw [pt]; exact En.ifd (fun h=>by omega) fun _=>.some trivial
      | succ k ihk =>
        intro i hk hi
        rw [pt]
        refine En.ifd (fun h=>?_) fun _=>.some trivial
        rw [ai (n:=i - 1) (by omega) (by omega)]
        exact En.gd h (En.gd hi (En.bif (fun _=>En.gd h (En.gd hi (.some trivial))) fun _=>ihk _ (by omega) (by omega)))
    refine En.ifi (fun _=>.some trivial) fun n1=>En.ifi (fun _=>.some trivial) fun n3=>En.ifi (fun _=>?_) fun n2=>?_
    · rw [ai (n:=(env.length:Int) - 1) (by omega) (by omega)]
      exact En.bind (Jz _) fun _ _=>En.bif (fun _=>.some trivial) fun _=>back 1001 _ (by omega) (by omega)
    · have h4:4≤e.Op∧e.Args.length≤3:=by
        unfold ua at ha
        split at ha <;> (try split at ha) <;> (try split at ha) <;> (try split at ha) <;> omega
      have key:∀ (k:Nat) (i:Int) (d:List Int),(e.Args.length:Int) - i≤k→0≤i→i≤(e.Args.length:Int)→(d.length:Int) = i→En (fun _=>True) (lA env i e.Op e.Value e.Dim e.Name e.Args d):=by
        have fin:∀ d:List Int,(d.length:Int) = (e.Args.length:Int)→En (fun _=>True) ((qV e.Op d).bind fun r1=>bif (af r1 0) then some ((0:Int),(6:Int)) else some (r1,0)):=fun d hd =>
          En.bind (Re e.Op d h4.1 (hd.trans ha)) fun _ _=>En.bif (fun _=>.some trivial) fun _=>.some trivial
        intro k
        induction k with
        | zero =>
          intro i d hk h0 hi hd
          rw [rD]
          exact En.ifd (fun h=>by omega) fun _=>fin d (by omega)
        | succ k ihk =>
          intro i d hk h0 hi hd
          rw [rD,aI]
          refine En.ifd (fun h=>?_) fun _=>fin d (by omega)
          rw [ai (n:=i+1) (by omega) (by omega)]
          exact En.gd h0 (En.gd h (En.bind (ih _ (cB h0 h)) fun r _=>En.bif (fun _=>.some trivial) fun _=>En.gd (by omega) (En.gd (by omega) (ihk _ _ (by omega) (by omega) (by omega) (by rw [gP]; omega)))))
      exact key _ 0 [] (Int.self_le_toNat _) (by omega) (by omega) rfl
theorem Nr {env:List GBinding} (hv:env.length≤1000) {e:GExpr} (h:nu e):En (fun _=>True) (oJ e env):=by
  rw [Kt,aI]
  refine En.bind (Kd h) fun b hb=>En.not (fun _=>.some trivial) fun ht=>?_
  have hf:=hb ht
  have key:∀ (k:Nat) (i:Int),(env.length:Int) - i≤k→0≤i→En (fun _=>True) (mt env i e.Op e.Value e.Dim e.Name e.Args):=by
    intro k
    induction k with
    | zero=>intro i hk h0; rw [sV,aI]; exact En.ifd (fun h=>by omega) fun _=>En.bind (M0 hv hf) fun _ _=>.some trivial
    | succ k ih =>
      intro i hk h0
      rw [sV,aI]
      refine En.ifd (fun h=>?_) fun _=>En.bind (M0 hv hf) fun _ _=>.some trivial
      rw [ai (n:=i+1) (by omega) (by omega)]
      exact En.gd h0 (En.gd h (En.go (fun _=>h0) (En.go (fun _=>h) (En.bif (fun _=>.some trivial) fun _=>ih _ (by omega) (by omega)))))
  exact key _ 0 (Int.self_le_toNat _) (by omega)
theorem qG {env:List GBinding} (hv:env.length≤1000) {e:GExpr} (h:nu e) (dim:Int):En (fun _=>True) (pj e env dim):=by
  rw [Kh,aI]
  exact En.bind (Nr hv h) fun _ _=>En.bif (fun _=>.some trivial) fun _=>.some trivial
theorem UD {l:List GLet} (hx:∀ x∈l,x.Name.size≤8000∧nu x.Body):En (fun y:List GBinding × Int=>y.1.length≤1000) (AF l):=by
  rw [M9]
  refine En.ifd (fun _=>.some (by simp)) fun hl=>?_
  have key:∀ (k:Nat) (i:Int) (out:List GBinding),(l.length:Int) - i≤k→0≤i→(out.length:Int)≤i→i≤(l.length:Int)→En (fun y:List GBinding × Int=>y.1.length≤1000) (jH l i out):=by
    intro k
    induction k with
    | zero=>intro i out hk h0 ho hi; rw [sT]; exact En.ifd (fun h=>by omega) fun _=>.some (by simp only []; omega)
    | succ k ih =>
      intro i out hk h0 ho hi
      rw [sT]
      refine En.ifd (fun h=>?_) fun _=>.some (by simp only []; omega)
      obtain ⟨x1,x2⟩:=hx _ (cB (z:=zS .GLet) h0 h)
      refine En.gd h0 (En.gd h (En.bind (Jz _) fun _ _=>En.bif (fun _=>.some (by simp)) fun _=>En.gd h0 (En.gd h (En.bind (lN _ (by omega)) fun nm _=>En.bif (fun _=>.some (by simp)) fun _=>?_))))
      have inner:∀ (m:Nat) (j t31 t32:Int) (t35:ByteArray) (t36 t37:Bool),i - j≤m→0≤j→En (fun y:List GBinding × Int=>y.1.length≤1000) (jV l i j l t32 t35 t36 t37 out):=by
        have fin:En (fun y:List GBinding × Int=>y.1.length≤1000) (gb (aa (0≤i))<|gb (aa (i < (l.length:Int)))<|(oJ (⟨(gD l i.toNat (zS .GLet)).Body.Op,(gD l i.toNat (zS .GLet)).Body.Value,(gD l i.toNat (zS .GLet)).Body.Dim,(gD l i.toNat (zS .GLet)).Body.Name,(gD l i.toNat (zS .GLet)).Body.Args⟩:GExpr) out).bind fun r0=>bif (aJ r0.2 0) then some ([],r0.2) else gb (aa (0≤i))<|gb (aa (i < (l.length:Int)))<|gb (aa (((out.length+1)*24)≤140737488355328))<|gb (aa ((out.length+1)≤140737488355328))<|jH l (ab (i+1)) (out++[(⟨(gD l i.toNat (zS .GLet)).Name,r0.1⟩:GBinding)])):=by
          rw [aI,ai (n:=i+1) (by omega) (by omega)]
          exact En.gd h0 (En.gd h (En.bind (Nr (by omega) x2) fun _ _=>En.bif (fun _=>.some (by simp)) fun _=>En.gd h0 (En.gd h (En.gd (by omega) (En.gd (by omega) (ih _ _ (by omega) (by omega) (by rw [gP]; omega) (by omega)))))))
        intro m
        induction m with
        | zero=>intro j t31 t32 t35 t36 t37 hm hj; rw [qa]; exact En.ifd (fun h=>by omega) fun _=>fin
        | succ m ihm =>
          intro j t31 t32 t35 t36 t37 hm hj
          rw [qa]
          refine En.ifd (fun hlt=>?_) fun _=>fin
          rw [ai (n:=j+1) (by omega) (by omega)]
          exact En.gd hj (En.gd (by omega) (En.gd h0 (En.gd h (En.bif (fun _=>.some (by simp)) fun _=>ihm _ t31 _ _ _ _ (by omega) (by omega)))))
      exact inner _ 0 0 _ _ _ _ (Int.self_le_toNat _) (by omega)
  exact key _ 0 [] (Int.self_le_toNat _) (by omega) (by simp) (by omega)
theorem Qq {v:GVersion} (h:sI v):En (fun _=>True) (u5 v):=by
  rw [Gk]
  refine En.bind (UD h.xle) fun y hy=>En.bif (fun _=>.some trivial) fun _=>?_
  generalize y.1 = env at hy
  have c1:=h.cr
  have c2:=h.se
  have c3:=h.gr
  have c4:=h.re
  have red:∀ (k:Nat) (i:Int),(v.Reduces.length:Int) - i≤k→0≤i→En (fun _=>True) (iJ env i v.From v.Rounding v.Credits v.Series v.Lets v.Grants v.Reduces):=by
    intro k
    induction k with
    | zero=>intro i hk h0; rw [ol]; exact En.ifd (fun h=>by omega) fun _=>.some trivial
    | succ k ih =>
      intro i hk h0
      rw [ol]
      refine En.ifd (fun hl=>?_) fun _=>.some trivial
      have inner:∀ (m:Nat) (j:Int),i - j≤m→0≤j→En (fun _=>True) (gk env i j v.From v.Rounding v.Credits v.Series v.Lets v.Grants v.Reduces):=by
        have fin:=h.xre _ (cB (z:=zS .GReduce) h0 hl)
        intro m
        induction m with
        | zero =>
          intro j hm hj
          rw [mN,aI,ai (n:=i+1) (by omega) (by omega)]
          exact En.ifd (fun h=>by omega) fun _=>En.gd h0 (En.gd hl (En.bind (qG hy fin 2) fun _ _=>En.bif (fun _=>.some trivial) fun _=>ih _ (by omega) (by omega)))
        | succ m ihm =>
          intro j hm hj
          rw [mN,aI,ai (n:=i+1) (by omega) (by omega)]
          refine En.ifd (fun hlt=>?_) fun _=>En.gd h0 (En.gd hl (En.bind (qG hy fin 2) fun _ _=>En.bif (fun _=>.some trivial) fun _=>ih _ (by omega) (by omega)))
          rw [ai (n:=j+1) (by omega) (by omega)]
          exact En.gd hj (En.gd (by omega) (En.gd h0 (En.gd hl (En.bif (fun _=>.some trivial) fun _=>ihm _ (by omega) (by omega)))))
      exact inner _ 0 (Int.self_le_toNat _) (by omega)
  have gra:∀ (k:Nat) (i:Int),(v.Grants.length:Int) - i≤k→0≤i→En (fun _=>True) (jl env i v.From v.Rounding v.Credits v.Series v.Lets v.Grants v.Reduces):=by
    intro k
    induction k with
    | zero=>intro i hk h0; rw [pF]; exact En.ifd (fun h=>by omega) fun _=>red _ 0 (Int.self_le_toNat _) (by omega)
    | succ k ih =>
      intro i hk h0
      rw [pF]
      refine En.ifd (fun hl=>?_) fun _=>red _ 0 (Int.self_le_toNat _) (by omega)
      have inner:∀ (m:Nat) (j:Int),i - j≤m→0≤j→En (fun _=>True) (hY env i j v.From v.Rounding v.Credits v.Series v.Lets v.Grants v.Reduces):=by
        obtain ⟨f1,f2⟩:=h.xgr _ (cB (z:=zS .GGrant) h0 hl)
        intro m
        induction m with
        | zero =>
          intro j hm hj
          rw [np,aI,aI,ai (n:=i+1) (by omega) (by omega)]
          exact En.ifd (fun h=>by omega) fun _=>En.gd h0 (En.gd hl (En.bind (qG hy f1 1) fun _ _=>En.bif (fun _=>.some trivial) fun _=>En.gd h0 (En.gd hl (En.bind (qG hy f2 4) fun _ _=>En.bif (fun _=>.some trivial) fun _=>ih _ (by omega) (by omega)))))
        | succ m ihm =>
          intro j hm hj
          rw [np,aI,aI,ai (n:=i+1) (by omega) (by omega)]
          refine En.ifd (fun hlt=>?_) fun _=>En.gd h0 (En.gd hl (En.bind (qG hy f1 1) fun _ _=>En.bif (fun _=>.some trivial) fun _=>En.gd h0 (En.gd hl (En.bind (qG hy f2 4) fun _ _=>En.bif (fun _=>.some trivial) fun _=>ih _ (by omega) (by omega)))))
          rw [ai (n:=j+1) (by omega) (by omega)]
          exact En.gd hj (En.gd (by omega) (En.gd h0 (En.gd hl (En.bif (fun _=>.some trivial) fun _=>ihm _ (by omega) (by omega)))))
      exact inner _ 0 (Int.self_le_toNat _) (by omega)
  have ser:∀ (k:Nat) (i:Int),(v.Series.length:Int) - i≤k→1≤i→En (fun _=>True) (jg env i v.From v.Rounding v.Credits v.Series v.Lets v.Grants v.Reduces):=by
    intro k
    induction k with
    | zero=>intro i hk h0; rw [pf]; exact En.ifd (fun h=>by omega) fun _=>gra _ 0 (Int.self_le_toNat _) (by omega)
    | succ k ih =>
      intro i hk h0
      rw [pf]
      refine En.ifd (fun hl=>?_) fun _=>gra _ 0 (Int.self_le_toNat _) (by omega)
      rw [ai (n:=i - 1) (by omega) (by omega),ai (n:=i+1) (by omega) (by omega)]
      exact En.gd (by omega) (En.gd hl (En.gd (by omega) (En.gd (by omega) (En.bif (fun _=>.some trivial) fun _=>ih _ (by omega) (by omega)))))
  have cre:∀ (k:Nat) (i:Int),(v.Credits.length:Int) - i≤k→0≤i→En (fun _=>True) (jq env i v.From v.Rounding v.Credits v.Series v.Lets v.Grants v.Reduces):=by
    intro k
    induction k with
    | zero=>intro i hk h0; rw [pK]; exact En.ifd (fun h=>by omega) fun _=>ser _ 1 (Int.self_le_toNat _) (by omega)
    | succ k ih =>
      intro i hk h0
      rw [pK]
      refine En.ifd (fun hl=>?_) fun _=>ser _ 1 (Int.self_le_toNat _) (by omega)
      have inner:∀ (m:Nat) (j:Int),i - j≤m→0≤j→En (fun _=>True) (ir env i j v.From v.Rounding v.Credits v.Series v.Lets v.Grants v.Reduces):=by
        intro m
        induction m with
        | zero =>
          intro j hm hj
          rw [oz,ai (n:=i+1) (by omega) (by omega)]
          exact En.ifd (fun h=>by omega) fun _=>ih _ (by omega) (by omega)
        | succ m ihm =>
          intro j hm hj
          rw [oz,ai (n:=i+1) (by omega) (by omega)]
          refine En.ifd (fun hlt=>?_) fun _=>ih _ (by omega) (by omega)
          rw [ai (n:=j+1) (by omega) (by omega)]
          exact En.gd hj (En.gd (by omega) (En.gd h0 (En.gd hl (En.bif (fun _=>.some trivial) fun _=>ihm _ (by omega) (by omega)))))
      exact inner _ 0 (Int.self_le_toNat _) (by omega)
  exact cre _ 0 (Int.self_le_toNat _) (by omega)
end Go.Ax
set_option linter.all false
/- Counted days: the document's way of finding them ends. -/
set_option maxRecDepth 100000
namespace Go.Ax
def Ba (v:GVersion):Prop:=v.Credits.length≤6∧∀ c∈v.Credits,0≤c.Limit∧c.Limit≤73049
theorem OO (F:Int) (R:GRounding) (cr:List GCredit) (se:List GIndex) (le:List GLet) (gr:List GGrant) (re:List GReduce) (h:rx 8000 cr se le gr re):∀ (k:Nat) (i:Int),(cr.length:Int) - i≤k→0≤i →
    En (fun b=>b = true→∀ j:Nat,i≤(j:Int)→(h:j < cr.length)→0≤cr[j].Limit∧cr[j].Limit≤73049) (cZ i F R cr se le gr re):=by
  intro k
  have:=h.cr
  have nxt:=C2 F R cr se le gr re h _ 0 (Int.self_le_toNat _) (Int.le_refl _)
  induction k with
  | zero=>intro i h0 h1; rw [eA]; exact En.ifd (fun h=>by omega) fun _=>nxt.weak fun _ _ _ j hj hl=>by omega
  | succ k ih =>
    intro i h0 h1
    rw [eA]
    refine En.ifd (fun hlt=>?_) fun hn=>nxt.weak fun _ _ _ j hj hl=>by omega
    rw [ai (n:=i+1) (by omega) (by omega)]
    refine En.gd h1 (En.gd hlt (En.bind (vB _ _) fun _ _=>En.go (fun _=>h1) (En.go (fun _=>hlt) (En.go (fun _=>h1) (En.go (fun _=>hlt) (En.bif (fun _=>.some fun h=>by cases h) fun hf=>?_))))))
    refine (ih (i+1) (by omega) (by omega)).weak fun b hb hbt j hj hl=>?_
    by_cases e:i = (j:Int)
    · subst e
      rw [be hl,dR,dR,Bool.or_eq_false_iff,Bool.or_eq_false_iff] at hf
      have f1:=mJ hf.1.2
      have f2:=mJ hf.2
      omega
    · exact hb hbt j (by omega) hl
theorem EF {v:GVersion} (h:sI v):En (fun b=>b = true→Ba v) (jd v):=by
  rw [oO,dW,jz]
  simp only [Option.bind_some]
  have g:=OO v.From v.Rounding _ _ _ _ _ h _ 0 (Int.self_le_toNat _) (Int.le_refl _)
  refine En.bif (fun _=>.some fun h=>by cases h) fun _=>En.bif (fun _=>.some fun h=>by cases h) fun _=>En.ifd (fun _=>.some fun h=>by cases h) fun h6=>?_
  have g2:En (fun b=>b = true→Ba v) (cZ 0 v.From v.Rounding v.Credits v.Series v.Lets v.Grants v.Reduces):=g.weak fun b hb hbt=>⟨by omega,fun c hc=>by
    obtain ⟨j,hj,rfl⟩:=List.getElem_of_mem hc
    exact hb hbt j (by omega) hj⟩
  repeat' first | exact g2 | exact En.some (fun h=>by cases h) | refine En.bif (fun _=>?_) (fun _=>?_)
theorem SR {x:GStatute} (h1:x.Name.size≤8000) (h2:x.Versions.length≤8001) (h3:∀ v∈x.Versions,sI v):En (fun b=>b = true→∀ v∈x.Versions,Ba v) (j5 x):=by
  rw [zX]
  refine En.bind (lN _ (by omega)) fun _ _=>En.bif (fun _=>.some fun h=>by cases h) fun _=>?_
  have key:∀ (k:Nat) (i:Int),(x.Versions.length:Int) - i≤k→0≤i→En (fun b=>b = true→∀ j:Nat,i≤(j:Int)→(h:j < x.Versions.length)→Ba x.Versions[j]) (jC i x.Name x.Currency x.Versions):=by
    intro k
    induction k with
    | zero=>intro i h0 h1; rw [ju]; exact En.ifd (fun h=>by omega) fun _=>.some fun _ j hj hl=>by omega
    | succ k ih =>
      intro i h0 h1
      rw [ju]
      refine En.ifd (fun hlt=>?_) fun _=>.some fun _ j hj hl=>by omega
      rw [ai (n:=i+1) (by omega) (by omega)]
      refine En.gd h1 (En.gd hlt (En.bind (EF (h3 _ (cB h1 hlt))) fun b hb=>En.not (fun _=>.some fun h=>by cases h) fun ht=>?_))
      refine (ih (i+1) (by omega) (by omega)).weak fun b' hb' hbt j hj hl=>?_
      by_cases e:i = (j:Int)
      · subst e
        have:=hb ht
        rw [be hl] at this
        exact this
      · exact hb' hbt j (by omega) hl
  refine (key _ 0 (Int.self_le_toNat _) (Int.le_refl _)).weak fun b hb hbt v hv=>?_
  obtain ⟨j,hj,rfl⟩:=List.getElem_of_mem hv
  exact hb hbt j (by omega) hj
structure nZ (x:GStatute):Prop where
  nm:x.Name.size≤8000
  len:x.Versions.length≤8001
  vs:∀ v∈x.Versions,sI v∧Ba v
theorem nZ.nil:nZ ⟨ac [],0,[]⟩:=⟨i6,by simp,fun v hv=>by simp at hv⟩
theorem Rj (s:ByteArray):En (fun y=>nZ y.1) (yY s):=by
  have fin:∀ (r:Rd) (nm:ByteArray) (cu:Int) (vs:List GVersion),RI r→nm.size≤8000→vs.length≤8001→(∀ v∈vs,sI v)→En (fun (y:GStatute × Int × Int)=>nZ y.1) (bif (bif r.bad then true else aa (r.at_ < (r.l.length:Int))) then (ji r).bind fun r3=>some ((⟨(ac []),0,[]⟩:GStatute),r3,4)
      else (j5 (⟨nm,cu,vs⟩:GStatute)).bind fun r4=>bif (!r4) then some ((⟨(ac []),0,[]⟩:GStatute),0,7) else some ((⟨nm,cu,vs⟩:GStatute),0,0)):=by
    intro r nm cu vs hr h1 h2 h3
    refine En.bif (fun _=>?_) fun _=>En.bind (SR (x:=⟨nm,cu,vs⟩) h1 h2 h3) fun b hb=>En.not (fun _=>.some nZ.nil) fun ht=>.some ⟨h1,h2,fun v hv=>⟨h3 v hv,hb ht v hv⟩⟩
    rw [x8]
    exact En.bind (R:=fun _=>True) (En.ifd (fun h=>En.gd hr.1 (En.gd h (.some trivial))) fun _=>.some trivial) fun _ _=>.some nZ.nil
  have loop:∀ (k:Nat) (first:Bool) (r:Rd) (nm0:ByteArray) (cu0:Int) (nm:ByteArray) (cu:Int) (vs:List GVersion),((r.l.length:Int) - r.at_)+(if r.bad then 0 else 1)≤k→RI r→nm.size≤8000→(vs.length:Int)≤r.at_+(if r.bad then 1 else 0)→(∀ v∈vs,sI v) →
      En (fun y=>nZ y.1) (fc first nm0 cu0 r nm cu vs):=by
    intro k
    induction k with
    | zero =>
      intro first r nm0 cu0 nm cu vs hk hr h1 h2 h3
      rw [pR]
      have:=hr.2.1
      have:=small hr
      refine En.not (fun hb=>?_) fun hb=>fin r nm cu vs hr h1 (by rw [hb] at h2; simp at h2; omega) h3
      rw [hb] at hk; simp at hk; omega
    | succ k ih =>
      intro first r nm0 cu0 nm cu vs hk hr h1 h2 h3
      rw [pR]
      have hsm:=small hr
      refine En.not (fun hb=>?_) fun hb=>fin r nm cu vs hr h1 (by rw [hb] at h2; simp at h2; omega) h3
      rw [hb] at hk h2
      simp at hk h2
      have go:∀ (r':Rd) (y:GVersion × Rd),sI y.1∧RN r y.2∧PG r y.2→En (fun y=>nZ y.1) (gb (aa (((vs.length+1)*144)≤140737488355328))<|gb (aa ((vs.length+1)≤140737488355328))<|fc false nm0 cu0 y.2 nm cu (vs++[y.1])):=by
        intro r' y ⟨g1,g2,g3⟩
        refine En.gd (by omega) (En.gd (by omega) (ih _ _ _ _ _ _ _ ?_ g2.ok h1 ?_ fun v hv=>?_))
        · rw [g2.l]
          have:=g2.le
          rcases g3 with hbb | hlt
          · rw [hbb]; simp; omega
          · split <;> omega
        · rw [gP]
          have:=g2.le
          rcases g3 with hbb | hlt
          · rw [hbb]; simp; omega
          · split <;> omega
        · rcases List.mem_append.1 hv with hv | hv
          · exact h3 v hv
          · simp at hv; subst hv; exact g1
      refine En.bif (fun _=>En.bind (Fa hr) fun y hy=>go r y hy) fun _=>En.bind (fJ hr _) fun y1 t1=>En.not (fun g=>?_) fun g=>?_
      · rw [t1.2.2 g]
        exact En.bind (Fa hr) fun y hy=>go r y hy
      · exact fin _ nm cu vs t1.1.ok h1 (by omega) h3
  rw [KI]
  refine En.bind (TU s) fun y hy=>En.bif (fun hb=>En.ifn (fun _=>.some nZ.nil) fun h=>absurd h (hy.1 hb)) fun hb=>En.ifn (fun _=>.some nZ.nil) fun _=>?_
  have hr:=hy.2 hb
  refine En.bind (cM hr _) fun r1 w1=>En.bind (H2 w1.1.ok) fun y2 x2=>En.bind (cM x2.1.ok _) fun r3 w3=>En.bind (rM w3.1.ok _ _) fun y4 x4=>En.bind (cM x4.ok _) fun r5 w5=>?_
  exact loop _ _ _ _ _ _ _ _ (Int.self_le_toNat _) w5.1.ok x2.2 (by have:=w5.1.ok.1; split <;> simp <;> omega) (fun v hv=>by simp at hv)
structure oS (x:GLaws):Prop where
  tr:Md x.Treaty
  rt:x.Rates = aN
  len:x.States.length≤3
  st:∀ s∈x.States,nZ s.Statute
theorem TD (n:List Int) (hn:n.length≤100000000):En oS (Bq n):=by
  rw [LX]
  have loop:∀ (k:Nat) (s:Int) (S:List GState),3 - s≤k→0≤s→s≤3→(S.length:Int)≤s→(∀ x∈S,nZ x.Statute)→En oS (kB n s S aN):=by
    have fin:∀ S:List GState,S.length≤3→(∀ x∈S,nZ x.Statute)→En oS ((ax n 2).bind fun r2=>(am r2 6).bind fun r3=>(ax n 5).bind fun r4=>(am r4 3).bind fun r5=>bif (af r5 0) then some (⟨S,[(⟨0,(ab (90*r3)),730,25,[0,1,2]⟩:GRules)],aN⟩:GLaws) else bif (af r5 1) then some (⟨S,[(⟨0,(ab (90*r3)),730,25,[0,1]⟩:GRules),(⟨35000,(ab (90*r3)),365,30,[0,1,2]⟩:GRules)],aN⟩:GLaws) else some (⟨S,[(⟨0,(ab (90*r3)),730,25,[0,1,2]⟩:GRules),(⟨36000,(ab (90*r3)),730,25,[0,1]⟩:GRules)],aN⟩:GLaws)):=by
      intro S hS hx
      refine jA hn fun _=>kW (by decide) fun p h1 h2=>jA hn fun _=>kW (by decide) fun q _ _=>?_
      rw [ai (by omega) (by omega)]
      exact En.bif (fun _=>.some ⟨⟨90*p,by omega,by omega, .inl rfl⟩,rfl,hS,hx⟩) fun _=>En.bif (fun _=>.some ⟨⟨90*p,by omega,by omega, .inr (.inl rfl)⟩,rfl,hS,hx⟩) fun _=>.some ⟨⟨90*p,by omega,by omega, .inr (.inr rfl)⟩,rfl,hS,hx⟩
    intro k
    induction k with
    | zero =>
      intro s S hk h0 h3 hS hx
      rw [ur]
      exact En.ifd (fun h=>by omega) fun _=>fin S (by omega) hx
    | succ k ih =>
      intro s S hk h0 h3 hS hx
      rw [ur]
      refine En.ifd (fun hs=>?_) fun h=>fin S (by omega) hx
      rw [ai (n:=s+1) (by omega) (by omega)]
      refine .bind (UL hn s h0 hs) fun x _=>.bind (Rj x) fun y hy=>En.bif (fun _=>?_) fun _=>ih _ _ (by omega) (by omega) (by omega) (by omega) hx
      refine En.gd (by omega) (En.gd (by omega) (ih _ _ (by omega) (by omega) (by omega) (by rw [gP]; omega) fun z hz=>?_))
      rcases List.mem_append.1 hz with hz | hz
      · exact hx z hz
      · rw [List.mem_singleton.1 hz]; exact hy
  exact loop 3 0 _ (by omega) (Int.le_refl _) (by omega) (by simp) (fun x hx=>by simp at hx)
theorem Q3 {x:GStatute} (h:nZ x):En (fun _=>True) (uE x):=by
  rw [Gv]
  refine En.bind (S9 h.nm h.len fun v hv=>(h.vs v hv).1) fun _ _=>En.bif (fun _=>.some trivial) fun _=>?_
  have hl:=h.len
  have key:∀ (k:Nat) (i:Int),(x.Versions.length:Int) - i≤k→0≤i→En (fun _=>True) (kc i x.Name x.Currency x.Versions):=by
    intro k
    induction k with
    | zero=>intro i h0 h1; rw [p5]; exact En.ifd (fun h=>by omega) fun _=>.some trivial
    | succ k ih =>
      intro i h0 h1
      rw [p5]
      refine En.ifd (fun hlt=>?_) fun _=>.some trivial
      have hi:∀ {b:Bool},(aa (0 < i)&&b) = true→0≤ab (i - 1)∧ab (i - 1) < (x.Versions.length:Int):=by
        intro b e
        have:=cN (Bool.and_eq_true _ _ ▸ e).1
        rw [ai (by omega) (by omega)]; omega
      rw [ai (n:=i+1) (by omega) (by omega)]
      exact En.go (fun _=>h1) (En.go (fun _=>hlt) (En.go (fun e=>(hi e).1) (En.go (fun e=>(hi e).2) (En.bif (fun _=>.some trivial) fun _=>En.gd h1 (En.gd hlt (En.bind (Qq (h.vs _ (cB h1 hlt)).1) fun _ _=>En.bif (fun _=>.some trivial) fun _=>ih _ (by omega) (by omega)))))))
  exact key _ 0 (Int.self_le_toNat _) (by omega)
theorem Te {x:GLaws} (h:oS x) (day:Int):En (fun _=>True) (we x day):=by
  have hl:=h.len
  rw [Iy,dW]
  refine En.bind (R:=fun _=>True) ?_ fun _ _=>En.bif (fun _=>.some trivial) fun _=>En.bif (fun _=>.some trivial) fun _=>.some trivial
  rw [BR]
  obtain ⟨m1,m2⟩:=DC h.tr
  have two:∀ (k:Nat) (i:Int),(x.States.length:Int) - i≤k→0≤i→En (fun _=>True) (ii i x.States x.Treaty x.Rates):=by
    have fin:En (fun _=>True) ((mY x.Treaty).bind fun r1=>bif (aJ r1 0) then some r1 else (dL x.Rates).bind fun r2=>some r2):=En.bind (Nk _ m1 m2) fun _ _=>En.bif (fun _=>.some trivial) fun _=>by
      rw [h.rt,yj.r]; exact .some trivial
    intro k
    induction k with
    | zero=>intro i hk h0; rw [nk]; exact En.ifd (fun h=>by omega) fun _=>fin
    | succ k ih =>
      intro i hk h0
      rw [nk]
      refine En.ifd (fun hlt=>?_) fun _=>fin
      rw [ai (n:=i+1) (by omega) (by omega)]
      exact En.gd h0 (En.gd hlt (En.bind (Q3 (h.st _ (cB h0 hlt))) fun _ _=>En.bif (fun _=>.some trivial) fun _=>ih _ (by omega) (by omega)))
  have one:∀ (k:Nat) (i:Int),(x.States.length:Int) - i≤k→0≤i→En (fun _=>True) (g9 i x.States x.Treaty x.Rates):=by
    intro k
    induction k with
    | zero=>intro i hk h0; rw [nz]; exact En.ifd (fun h=>by omega) fun _=>two _ 0 (Int.self_le_toNat _) (by omega)
    | succ k ih =>
      intro i hk h0
      rw [nz]
      refine En.ifd (fun hlt=>?_) fun _=>two _ 0 (Int.self_le_toNat _) (by omega)
      have hi:∀ {b:Bool},(aa (0 < i)&&b) = true→0≤ab (i - 1)∧ab (i - 1) < (x.States.length:Int):=by
        intro b e
        have:=cN (Bool.and_eq_true _ _ ▸ e).1
        rw [ai (by omega) (by omega)]; omega
      rw [ai (n:=i+1) (by omega) (by omega)]
      exact En.gd h0 (En.gd hlt (En.go (fun e=>(hi e).1) (En.go (fun e=>(hi e).2) (En.bif (fun _=>.some trivial) fun _=>ih _ (by omega) (by omega)))))
  exact one _ 0 (Int.self_le_toNat _) (by omega)
theorem Rs {t:List GRules} (h:Md t) (st day:Int):En (fun _=>True) (uq t st day):=by
  obtain ⟨m1,m2⟩:=DC h
  have ra:En (fun y:GRules × Bool=>y.1.Members.length≤3) (kw t day):=by
    rw [tP,ai (n:=(t.length:Int) - 1) (by omega) (by omega)]
    have key:∀ (k:Nat) (i:Int) (z:GRules),i+1≤k→i < (t.length:Int)→En (fun y:GRules × Bool=>y.1.Members.length≤3) (fX t day i z):=by
      intro k
      induction k with
      | zero=>intro i z hk hi; rw [gi]; exact En.ifd (fun h=>by omega) fun _=>.some (by simp)
      | succ k ih =>
        intro i z hk hi
        rw [gi]
        refine En.ifd (fun h=>?_) fun _=>.some (by simp)
        have:=m2 _ (cB (z:=zS .GRules) h hi)
        rw [o6,Option.bind_some,ai (n:=i - 1) (by omega) (by omega)]
        exact En.bif (fun _=>En.gd h (En.gd hi (En.ifd (fun _=>En.gd h (En.gd hi (En.gd (by omega) (En.gd (by omega) (.some this))))) fun _=>ih _ _ (by omega) (by omega)))) fun _=>.some (by simp)
    exact key 3 _ _ (by omega) (by omega)
  rw [ET]
  refine En.bind ra fun y hy=>En.bif (fun _=>?_) fun _=>.some trivial
  refine En.bind (R:=fun _=>True) ?_ fun _ _=>.some trivial
  rw [M4]
  generalize y.1.Members = ms at hy
  have key:∀ (k:Nat) (i:Int),(ms.length:Int) - i≤k→0≤i→En (fun _=>True) (nH ms st i):=by
    intro k
    induction k with
    | zero=>intro i hk h0; rw [u4]; exact En.ifd (fun h=>by omega) fun _=>.some trivial
    | succ k ih =>
      intro i hk h0
      rw [u4]
      refine En.ifd (fun hlt=>?_) fun _=>.some trivial
      rw [ai (n:=i+1) (by omega) (by omega)]
      exact En.gd h0 (En.gd hlt (En.bif (fun _=>.some trivial) fun _=>ih _ (by omega) (by omega)))
  exact key _ 0 (Int.self_le_toNat _) (by omega)
def QB (x:GLaws) (m:List Int):Prop:=m.length≤3∧∀ s∈m, ∃ y∈x.States,y.State = s
theorem PV {x:GLaws} (h:oS x) (day:Int):En (QB x) (sJ x day):=by
  have hl:=h.len
  rw [Dv]
  have key:∀ (k:Nat) (i:Int) (out:List Int),(x.States.length:Int) - i≤k→0≤i→i≤(x.States.length:Int)→(out.length:Int)≤i→(∀ s∈out, ∃ y∈x.States,y.State = s)→En (QB x) (gf day i x.States x.Treaty x.Rates out):=by
    intro k
    induction k with
    | zero=>intro i out hk h0 hi ho hx; rw [pB]; exact En.ifd (fun h=>by omega) fun _=>.some ⟨by omega,hx⟩
    | succ k ih =>
      intro i out hk h0 hi ho hx
      rw [pB]
      refine En.ifd (fun hlt=>?_) fun _=>.some ⟨by omega,hx⟩
      rw [ai (n:=i+1) (by omega) (by omega)]
      refine En.gd h0 (En.gd hlt (En.bind (Rs h.tr _ _) fun _ _=>En.bif (fun _=>?_) fun _=>ih _ _ (by omega) (by omega) (by omega) (by omega) hx))
      refine En.gd h0 (En.gd hlt (En.gd (by omega) (En.gd (by omega) (ih _ _ (by omega) (by omega) (by omega) (by rw [gP]; omega) fun s hs=>?_))))
      rcases List.mem_append.1 hs with hs | hs
      · exact hx s hs
      · rw [List.mem_singleton.1 hs]
        exact ⟨_,cB h0 hlt,rfl⟩
  exact key _ 0 [] (Int.self_le_toNat _) (by omega) (by omega) (by simp) (fun s hs=>by simp at hs)
theorem Tw {x:GLaws} (h:oS x) {s:Int} (hs:∃ y∈x.States,y.State = s):En (fun r=>0≤r∧r < (x.States.length:Int)) (wm x s):=by
  have hl:=h.len
  rw [IA]
  have key:∀ (k:Nat) (i:Int),(x.States.length:Int) - i≤k→0≤i→(∃ j:Nat,i≤(j:Int)∧∃ h:j < x.States.length,x.States[j].State = s)→En (fun r=>0≤r∧r < (x.States.length:Int)) (lv s i x.States x.Treaty x.Rates):=by
    intro k
    induction k with
    | zero=>rintro i hk h0 ⟨j,j1,j2,j3⟩; omega
    | succ k ih =>
      rintro i hk h0 ⟨j,j1,j2,j3⟩
      rw [BO]
      refine En.ifd (fun hlt=>?_) fun hn=>by omega
      rw [ai (n:=i+1) (by omega) (by omega)]
      refine En.gd h0 (En.gd hlt (En.ifi (fun _=>.some ⟨h0,hlt⟩) fun hne=>ih _ (by omega) (by omega) ⟨j, ?_,j2,j3⟩))
      by_cases e:i = (j:Int)
      · subst e
        rw [be j2] at hne
        exact absurd j3 hne
      · omega
  obtain ⟨y,hy,rfl⟩:=hs
  obtain ⟨j,hj,rfl⟩:=List.getElem_of_mem hy
  exact key _ 0 (Int.self_le_toNat _) (by omega) ⟨j,by omega,hj,rfl⟩
theorem Wd {x:GStatute} (h:nZ x) (day:Int):En (fun y:GVersion × Bool=>Ba y.1) (IK x day):=by
  have hl:=h.len
  have z:Ba ⟨0,(⟨0,0⟩:GRounding),[],[],[],[],[]⟩:=⟨by simp,fun c hc=>by simp at hc⟩
  rw [QZ,dW,Option.bind_some]
  refine En.bif (fun _=>.some z) fun _=>?_
  rw [ai (n:=(x.Versions.length:Int) - 1) (by omega) (by omega)]
  have key:∀ (k:Nat) (i:Int),i+1≤k→i < (x.Versions.length:Int)→En (fun y:GVersion × Bool=>Ba y.1) (q8 day i x.Name x.Currency x.Versions 0 ⟨0,0⟩):=by
    intro k
    induction k with
    | zero=>intro i hk hi; rw [xy]; exact En.ifd (fun h=>by omega) fun _=>.some z
    | succ k ih =>
      intro i hk hi
      rw [xy]
      refine En.ifd (fun h0=>?_) fun _=>.some z
      rw [ai (n:=i - 1) (by omega) (by omega)]
      exact En.gd h0 (En.gd hi (En.ifd (fun _=>En.gd h0 (En.gd hi (.some (h.vs _ (cB h0 hi)).2))) fun _=>ih _ (by omega) (by omega)))
  exact key 8002 _ (by omega) (by omega)
theorem Rq (l:List GFact) (hl:l.length≤900) (law:List GSegment) (hw:law.length≤99000) (schemes:List GScheme) (hn:schemes.length≤1000) (hx:∀ x∈schemes,Ch x) (b:Int) :
    En (fun y:List GPeriod × Int=>y.1.length≤600000000) (oM l law schemes b):=by
  have hfin:=R8 l hl law hw schemes hn hx b
  have hlen:=Ox l law schemes hn ⟨0,b⟩
  have key:∀ (n i:Nat),schemes.length = i+n→En (fun y:List GPeriod × Int=>y.1.length≤600000000) (eV l law schemes b (i:Int)):=by
    intro n
    induction n with
    | zero =>
      intro i h
      have:i = schemes.length:=by omega
      subst this
      rw [pV,bg,cond_false,hfin]
      exact .some hlen
    | succ n ih =>
      intro i h
      have hi:i < schemes.length:=by omega
      have k2:eV l law schemes b (i:Int) = if MR schemes i = true then some ([],1) else eV l law schemes b ((i+1:Nat):Int):=by
        rw [← QR schemes hn i hi,pV,aT hi,cond_true,cond_true,bf hi (by omega)]
      rw [k2]
      by_cases hc:MR schemes i = true
      · rw [if_pos hc]; exact .some (by simp)
      · rw [if_neg hc]; exact ih (i+1) (by omega)
  rw [Gj]
  exact En.bif (fun _=>.some (by simp)) fun _=>key schemes.length 0 (by omega)
end Go.Ax
