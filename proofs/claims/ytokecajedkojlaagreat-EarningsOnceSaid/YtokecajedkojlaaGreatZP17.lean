import Derived.Test.YtokecajedkojlaaGreatZP13
import Derived.Test.YtokecajedkojlaaGreatZP15
set_option linter.all false
/- Made versions and the document's law end. -/
set_option maxRecDepth 100000
namespace Go.Ax
def Ji (n:Nat) (l:List GCredit):Prop:=l.length≤n∧∀ x∈l,0≤x.Limit∧x.Limit≤900
theorem Ji.snoc {n:Nat} {l:List GCredit} {x:GCredit} (h:Ji n l) (hx:0≤x.Limit∧x.Limit≤900):Ji (n+1) (l++[x]) :=
  ⟨by rw [List.length_append,List.length_singleton]; have:=h.1; omega,fun c hc=>(List.mem_append.1 hc).elim (h.2 c) fun hc=>by rw [List.mem_singleton.1 hc]; exact hx⟩
theorem Ji.set {n:Nat} {l:List GCredit} {x:GCredit} (h:Ji n l) (i:Nat) (hx:0≤x.Limit∧x.Limit≤900):Ji n (l.set i x) :=
  ⟨by rw [List.length_set]; exact h.1,fun c hc=>(List.mem_or_eq_of_mem_set hc).elim (h.2 c) fun hc=>by rw [hc]; exact hx⟩
section
variable {v:GPensionmade_Version} {F:Int} {R:GRounding} {F2:Int} {R2:GRounding}
end
theorem EH {t:List GRules} (h:My t):t.length≤2∧∀ r∈t,r.Members.length≤3:=by
  obtain ⟨p,_,_,rfl | rfl | rfl⟩:=h
  · exact ⟨by simp [WB],fun r hr=>by simp [WB] at hr; subst hr; simp⟩
  · exact ⟨by simp [Wn],fun r hr=>by simp [Wn] at hr; rcases hr with rfl | rfl <;> simp⟩
  · exact ⟨by simp [Wh],fun r hr=>by simp [Wh] at hr; rcases hr with rfl | rfl <;> simp⟩
theorem Me (t:List GRules) (ht:t.length≤2) (hm:∀ r∈t,r.Members.length≤3):En (fun _=>True) (no t):=by
  rw [H8]
  refine En.ifd (fun _=>.some trivial) fun _=>En.gb (by simp) (En.go (fun h=>by simp [af] at h; cases t with | nil=>simp at h | cons a l=>simp) (En.bif (fun _=>.some trivial) fun _=>?_))
  have key:∀ (k:Nat) (i:Int),(t.length:Int) - i≤k→0≤i→En (fun _=>True) (kA t i):=by
    intro k
    induction k with
    | zero=>intro i hk h0; rw [qm]; exact En.ifd (fun h=>by omega) fun _=>.some trivial
    | succ k ih =>
      intro i hk h0
      rw [qm]
      refine En.ifd (fun h=>?_) fun _=>.some trivial
      have hr:=hm _ (cw (z:=zS .GRules) h0 h)
      generalize gD t i.toNat (zS .GRules) = r at hr
      have hi:∀ {b:Bool},(aa (0 < i)&&b) = true→0≤ab (i - 1)∧ab (i - 1) < (t.length:Int):=by
        intro b e
        have:=cJ (Bool.and_eq_true _ _ ▸ e).1
        rw [ah (by omega) (by omega)]; omega
      rw [pQ,Option.bind_some]
      refine En.gd h0 (En.gd h (En.go (fun e=>(hi e).1) (En.go (fun e=>(hi e).2) (En.bif (fun _=>.some trivial) fun _=>?_))))
      have inner:∀ (m:Nat) (j:Int),(r.Members.length:Int) - j≤m→0≤j→En (fun _=>True) (iw t i j r):=by
        intro m
        induction m with
        | zero=>intro j hj0 hj1; rw [oJ,ah (n:=i+1) (by omega) (by omega)]; exact En.ifd (fun h=>by omega) fun _=>ih _ (by omega) (by omega)
        | succ m ihm =>
          intro j hj0 hj1
          rw [oJ,ah (n:=i+1) (by omega) (by omega)]
          refine En.ifd (fun hj=>?_) fun _=>ih _ (by omega) (by omega)
          have hp:∀ {b:Bool},(aa (0 < j)&&b) = true→0≤ab (j - 1)∧ab (j - 1) < (r.Members.length:Int):=by
            intro b e
            have:=cJ (Bool.and_eq_true _ _ ▸ e).1
            rw [ah (by omega) (by omega)]; omega
          rw [ah (n:=j+1) (by omega) (by omega)]
          exact En.gd hj1 (En.gd hj (En.go (fun _=>hj1) (En.go (fun _=>hj) (En.go (fun _=>hj1) (En.go (fun _=>hj) (En.go (fun e=>(hp e).1) (En.go (fun e=>(hp e).2) (En.bif (fun _=>.some trivial) fun _=>ihm _ (by omega) (by omega)))))))))
      exact inner _ 0 (Int.self_le_toNat _) (by omega)
  exact key _ 0 (Int.self_le_toNat _) (by omega)
theorem Qx (t:List GRules) (ht:t.length≤2) (hm:∀ r∈t,r.Members.length≤3) (day:Int):En (fun _=>True) (kO t day):=by
  rw [uV,ah (n:=(t.length:Int) - 1) (by omega) (by omega)]
  have key:∀ (k:Nat) (i:Int) (z:GRules),i+1≤k→i < (t.length:Int)→En (fun _=>True) (gm t day i z):=by
    intro k
    induction k with
    | zero=>intro i z hk hi; rw [gB]; exact En.ifd (fun h=>by omega) fun _=>.some trivial
    | succ k ih =>
      intro i z hk hi
      rw [gB]
      refine En.ifd (fun h=>?_) fun _=>.some trivial
      have:=hm _ (cw (z:=zS .GRules) h hi)
      rw [pQ,Option.bind_some,ah (n:=i - 1) (by omega) (by omega)]
      exact En.bif (fun _=>En.gd h (En.gd hi (En.ifd (fun _=>En.gd h (En.gd hi (En.gd (by omega) (En.gd (by omega) (.some trivial))))) fun _=>ih _ _ (by omega) (by omega)))) fun _=>.some trivial
  exact key 3 _ _ (by omega) (by omega)
theorem V3 (l:List GFact) (hl:l.length≤30) (t:List GRules) (ht:t.length≤2) (hm:∀ r∈t,r.Members.length≤3):En (fun o=>o.length≤99000) (v7 l t):=by
  rw [Mu]
  refine .bind (Me t ht hm) fun _ _=>En.bif (fun _=>.some (by simp)) fun _=>?_
  rw [eP l (by omega),Option.bind_some]
  have hc:=OA hl
  refine .bind (OS hl) fun p hp=>?_
  rw [gN l (by omega),Option.bind_some]
  generalize l.filter bp = c at hc
  have hcl:=hc.1
  generalize im l = life
  have seg:∀ (e:List Int),e.length≤90000→∀ (k:Nat) (i:Int) (out:List GSegment),(e.length:Int) - i≤k→0≤i→i≤(e.length:Int)→(out.length:Int)≤i→En (fun o=>o.length≤99000) (cn l t e i c p life out):=by
    intro e he k
    induction k with
    | zero =>
      intro i out hk h0 hi ho
      rw [rK,ah (n:=i+1) (by omega) (by omega)]
      exact En.ifd (fun h=>by omega) fun _=>.some (by omega)
    | succ k ih =>
      intro i out hk h0 hi ho
      rw [rK,ah (n:=i+1) (by omega) (by omega)]
      refine En.ifd (fun h=>?_) fun _=>.some (by omega)
      have nx:En (fun o=>o.length≤99000) (cn l t e (i+1) c p life out):=ih _ _ (by omega) (by omega) (by omega) (by omega)
      have hw:aa ((0:Int) < (out.length:Int)) = true→0≤ab ((out.length:Int) - 1)∧ab ((out.length:Int) - 1) < (out.length:Int):=by
        intro e
        have:=cJ e
        rw [ah (by omega) (by omega)]; omega
      have g0:∀ {x:Bool},(bif aa ((0:Int) < (out.length:Int)) then x else false) = true→aa ((0:Int) < (out.length:Int)) = true:=by
        intro x e; rw [bB,Bool.and_eq_true] at e; exact e.1
      have g0':∀ {x y:Bool},(bif (bif aa ((0:Int) < (out.length:Int)) then x else false) then y else false) = true→aa ((0:Int) < (out.length:Int)) = true:=by
        intro x y e; rw [bB (b:=y),Bool.and_eq_true] at e; exact g0 e.1
      have g0'':∀ {x y z:Bool},(bif (bif (bif aa ((0:Int) < (out.length:Int)) then x else false) then y else false) then z else false) = true→aa ((0:Int) < (out.length:Int)) = true:=by
        intro x y z e; rw [bB (b:=z),Bool.and_eq_true] at e; exact g0' e.1
      have an:∀ {a b:Bool},(a&&b) = true→a = true:=fun {a b} e=>(Bool.and_eq_true _ _ ▸ e).1
      rw [fo]
      simp only [Option.bind_some]
      refine En.gd h0 (En.gd (by omega) (.bind (Qx t ht hm _) fun r _=>En.go (fun _=>h0) (En.go (fun _=>by omega) (En.not (fun _=>?_) fun _=>?_))))
      · exact nx
      refine En.not (fun _=>nx) fun _=>En.gd h0 (En.gd (by omega) (.bind (V1 hl hc p (by omega) r.1 _) fun y _=>En.bif (fun _=>nx) fun _=>?_))
      refine En.go (fun q=>(hw (an q)).1) (En.go (fun q=>(hw (an q)).2) (En.go (fun _=>h0) (En.go (fun _=>by omega) (En.go (fun q=>(hw (g0 (an q))).1) (En.go (fun q=>(hw (g0 (an q))).2) (En.go (fun q=>(hw (g0' (an q))).1) (En.go (fun q=>(hw (g0' (an q))).2) (En.bif (fun q=>?_) fun _=>?_))))))))
      · have:=hw (g0'' q)
        exact En.gd this.1 (En.gd this.2 (En.gd (by omega) (En.gd (by omega) (En.gd this.1 (En.gd this.2 (ih _ _ (by omega) (by omega) (by omega) (by rw [List.length_set]; omega)))))))
      · exact En.gd h0 (En.gd (by omega) (En.gd (by omega) (En.gd (by omega) (En.gd (by omega) (En.gd (by omega) (ih _ _ (by omega) (by omega) (by omega) (by simp; omega)))))))
  have post:∀ (k:Nat) (i:Int) (e:List Int),(p.length:Int) - i≤k→0≤i→i≤(p.length:Int)→(e.length:Int)≤3000+2*i→En (fun o=>o.length≤99000) (iS l t e i c p life):=by
    intro k
    have fin:∀ e:List Int,e.length≤9000→En (fun o=>o.length≤99000) (cn l t e 0 c p life []):=fun e he=>seg e (by omega) _ 0 [] (Int.self_le_toNat _) (by omega) (by omega) (by simp)
    induction k with
    | zero=>intro i e hk h0 hi he; rw [sq]; exact En.ifd (fun h=>by omega) fun _=>fin e (by omega)
    | succ k ih =>
      intro i e hk h0 hi he
      rw [sq,ah (n:=i+1) (by omega) (by omega)]
      exact En.ifd (fun h=>En.gd h0 (En.gd h (.bind (uM _ _ (by omega)) fun a ha=>En.gd h0 (En.gd h (.bind (uM _ _ (by omega)) fun b hb=>ih _ _ (by omega) (by omega) (by omega) (by omega)))))) fun _=>fin e (by omega)
  have rul:∀ (k:Nat) (i:Int) (e:List Int),(t.length:Int) - i≤k→0≤i→i≤(t.length:Int)→(e.length:Int)≤100+1201*i→En (fun o=>o.length≤99000) (gQ l t e i c p life):=by
    intro k
    have fin:∀ e:List Int,e.length≤3000→En (fun o=>o.length≤99000) (iS l t e 0 c p life):=fun e he=>post _ 0 e (Int.self_le_toNat _) (by omega) (by omega) (by omega)
    induction k with
    | zero=>intro i e hk h0 hi he; rw [tl]; exact En.ifd (fun h=>by omega) fun _=>fin e (by omega)
    | succ k ih =>
      intro i e hk h0 hi he
      rw [tl]
      refine En.ifd (fun h=>En.gd h0 (En.gd h (.bind (uM _ _ (by omega)) fun a ha=>?_))) fun _=>fin e (by omega)
      have inn:∀ (m:Nat) (j:Int) (e:List Int),(p.length:Int) - j≤m→0≤j→j≤(p.length:Int)→(e.length:Int)≤101+1201*i+j→En (fun o=>o.length≤99000) (ka l t e i j c p life):=by
        intro m
        have fi:∀ e:List Int,(e.length:Int)≤100+1201*(i+1)→En (fun o=>o.length≤99000) (gQ l t e (ab (i+1)) c p life):=by
          intro e he
          rw [ah (n:=i+1) (by omega) (by omega)]
          exact ih _ _ (by omega) (by omega) (by omega) (by omega)
        induction m with
        | zero=>intro j e hj0 hj1 hj2 he; rw [qn]; exact En.ifd (fun h=>by omega) fun _=>fi e (by omega)
        | succ m ihm =>
          intro j e hj0 hj1 hj2 he
          rw [qn,ah (n:=j+1) (by omega) (by omega)]
          exact En.ifd (fun hj=>En.gd hj1 (En.gd hj (En.gd h0 (En.gd h (.bind (uM _ _ (by omega)) fun b hb=>ihm _ _ (by omega) (by omega) (by omega) (by omega)))))) fun _=>fi e (by omega)
      exact inn _ 0 a (Int.self_le_toNat _) (by omega) (by omega) (by omega)
  have fac:∀ (k:Nat) (i:Int) (e:List Int),(c.length:Int) - i≤k→0≤i→i≤(c.length:Int)→(e.length:Int)≤2+2*i→En (fun o=>o.length≤99000) (mF l t e i c p life):=by
    intro k
    have fin:∀ e:List Int,e.length≤62→En (fun o=>o.length≤99000) (gQ l t e 0 c p life):=fun e he=>rul _ 0 e (Int.self_le_toNat _) (by omega) (by omega) (by omega)
    induction k with
    | zero=>intro i e hk h0 hi he; rw [ta]; exact En.ifd (fun h=>by omega) fun _=>fin e (by omega)
    | succ k ih =>
      intro i e hk h0 hi he
      rw [ta,ah (n:=i+1) (by omega) (by omega)]
      exact En.ifd (fun h=>En.gd h0 (En.gd h (.bind (uM _ _ (by omega)) fun a ha=>En.gd h0 (En.gd h (.bind (uM _ _ (by omega)) fun b hb=>ih _ _ (by omega) (by omega) (by omega) (by omega)))))) fun _=>fin e (by omega)
  exact fac _ 0 _ (Int.self_le_toNat _) (by omega) (by omega) (by simp)
end Go.Ax
