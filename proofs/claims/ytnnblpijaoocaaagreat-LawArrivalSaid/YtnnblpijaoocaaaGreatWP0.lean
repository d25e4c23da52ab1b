import Derived.Test.YtnnblpijaoocaaaGreatWHd
import Derived.Test.YtnnblpijaoocaaaGreatWE
set_option linter.all false
/- Rules for functions that end: an option that is something, in a set. -/
namespace Go.Ax
theorem al {n:Int} (h:-9223372036854775808≤n) (h':n≤9223372036854775807):ac n = n:=by
 simp only [ac,IntKind.wrap,IntKind.bits,IntKind.signed]
 simp
 omega
theorem GT {n:Int} (h:0≤n) (h':n≤18446744073709551615):IntKind.wrap .u64 n = n:=by
 simp only [IntKind.wrap,IntKind.bits,IntKind.signed]
 simp
 omega
theorem Dn (n:Int):-9223372036854775808≤ac n∧ac n≤9223372036854775807:=by
 simp only [ac,IntKind.wrap,IntKind.bits,IntKind.signed]
 simp
 omega
theorem yU (n:Int):0≤IntKind.wrap .u64 n∧IntKind.wrap .u64 n≤18446744073709551615:=by
 simp only [IntKind.wrap,IntKind.bits,IntKind.signed]
 simp
 omega
theorem aM {p:Prop} [Decidable p] (h:p):aa p = true:=decide_eq_true h
theorem bu {p:Prop} [Decidable p] (h:¬ p):aa p = false:=decide_eq_false h
theorem dX {p:Prop} [Decidable p] (h:aa p = true):p:=of_decide_eq_true h
theorem nE {p:Prop} [Decidable p] (h:aa p = false):¬ p:=of_decide_eq_false h
theorem cF {a b:Int}:af a b = true↔a = b:=by simp [af]
theorem jT {a b:Int}:af a b = false↔a≠b:=by simp [af]
theorem Qj {a b:Int}:bZ a b = true↔a≠b:=by simp [bZ]
theorem CU {a b:Int}:bZ a b = false↔a = b:=by simp [bZ]
theorem lV (a:Int):af a a = true:=cF.2 rfl
theorem fW {a b:Bool}:(bif a then b else false) = (a&&b):=by cases a <;> rfl
theorem oN {a b:Bool}:(bif a then true else b) = (a||b):=by cases a <;> rfl
theorem rm {α:Type} {b:Bool} {o:Option α} (h:b = true):gb b o = o:=by rw [h];rfl
theorem aN {α:Type} {p:Prop} [Decidable p] {o:Option α} (h:p):gb (aa p) o = o:=rm (aM h)
theorem RJ {α:Type} {a b:Bool} {o:Option α} (h:a = true→b = true):gb ((!a)||b) o = o:=rm (by cases a <;> simp_all)
def En {α:Type} (Q:α→Prop) (o:Option α):Prop:=∃ y,o = some y∧Q y
section
variable {α β:Type} {Q Q':α→Prop}
theorem En.some {y:α} (h:Q y):En Q (some y):=⟨y,rfl,h⟩
theorem En.bind {R:β→Prop} {o:Option β} {f:β→Option α} (h:En R o) (h2:∀ y,R y→En Q (f y)):En Q (o.bind f):=by
 obtain ⟨x,rfl,hx⟩:=h
 exact h2 x hx
theorem En.bif {c:Bool} {a b:Option α} (h1:c = true→En Q a) (h2:c = false→En Q b):En Q (bif c then a else b):=by
 cases c with
 | true=>exact h1 rfl
 | false=>exact h2 rfl
theorem En.ifd {p:Prop} [Decidable p] {a b:Option α} (h1:p→En Q a) (h2:¬ p→En Q b):En Q (bif aa p then a else b) :=
 En.bif (fun h=>h1 (dX h)) fun h=>h2 (nE h)
theorem En.ifi {x y:Int} {a b:Option α} (h1:x = y→En Q a) (h2:x≠y→En Q b):En Q (bif af x y then a else b) :=
 En.bif (fun h=>h1 (cF.1 h)) fun h=>h2 (jT.1 h)
theorem En.ifn {x y:Int} {a b:Option α} (h1:x≠y→En Q a) (h2:x = y→En Q b):En Q (bif bZ x y then a else b) :=
 En.bif (fun h=>h1 (Qj.1 h)) fun h=>h2 (CU.1 h)
theorem En.not {c:Bool} {a b:Option α} (h1:c = false→En Q a) (h2:c = true→En Q b):En Q (bif (!c) then a else b):=by
 cases c with
 | true=>exact h2 rfl
 | false=>exact h1 rfl
theorem En.and {c d:Bool} {a b:Option α} (h1:c = true→d = true→En Q a) (h2:(c = false∨d = false)→En Q b):En Q (bif (bif c then d else false) then a else b):=by
 cases c <;> cases d
 ·exact h2 (.inl rfl)
 ·exact h2 (.inl rfl)
 ·exact h2 (.inr rfl)
 ·exact h1 rfl rfl
theorem En.or {c d:Bool} {a b:Option α} (h1:(c = true∨d = true)→En Q a) (h2:c = false→d = false→En Q b):En Q (bif (bif c then true else d) then a else b):=by
 cases c <;> cases d
 ·exact h2 rfl rfl
 ·exact h1 (.inr rfl)
 ·exact h1 (.inl rfl)
 ·exact h1 (.inl rfl)
theorem En.gb {b:Bool} {o:Option α} (hb:b = true) (h:En Q o):En Q (gb b o):=by rw [rm hb];exact h
theorem En.gd {p:Prop} [Decidable p] {o:Option α} (hp:p) (h:En Q o):En Q (Go.Ax.gb (aa p) o):=En.gb (aM hp) h
theorem En.go {a:Bool} {p:Prop} [Decidable p] {o:Option α} (hp:a = true→p) (h:En Q o):En Q (Go.Ax.gb ((!a)||aa p) o):=by
 rw [RJ fun ha=>aM (hp ha)];exact h
theorem En.weak {o:Option α} (h:En Q o) (hq:∀ y,Q y→Q' y):En Q' o:=by obtain ⟨y,h1,h2⟩:=h;exact ⟨y,h1,hq y h2⟩
theorem En.of {o:Option α} {y:α} (h:o = Option.some y) (hq:Q y):En Q o:=⟨y,h,hq⟩
end
theorem O9 {T:Type} (p s:List T) (x z:T):(p++x :: s).getD p.length z = x:=by
 rw [List.getD_eq_getElem?_getD,List.getElem?_append_right (Nat.le_refl _)]
 simp
theorem N8 {T:Type} {l:List T} {i:Nat} {z:T} (h:i < l.length):l.getD i z∈l:=by
 rw [List.getD_eq_getElem?_getD,List.getElem?_eq_getElem h];exact List.getElem_mem h
theorem oL {T:Type} {l:List T} {i:Int} {z:T} (h0:0≤i) (h:i < (l.length:Int)):gD l i.toNat z∈l:=N8 (by omega)
theorem ao (l:List Nat):(ab l).size = l.length:=by simp [ab,ByteArray.size]
end Go.Ax
set_option linter.all false
/- The reading of tokens ends. -/
set_option maxRecDepth 100000
namespace Go.Ax
theorem Qd (s:ByteArray) (hs:s.size≤8000):∀ (n:Nat) (x:Int) (c:Bool),(s.size:Int) - x≤n→0≤x→x≤s.size→En (fun y=>x≤y∧y≤s.size) (fA s x c):=by
 intro n
 induction n with
 | zero =>
  intro x c h0 h1 h2
  rw [ry]
  refine En.ifd (fun h=>by omega) (fun h=>.some ⟨by omega,h2⟩)
 | succ n ih =>
  intro x c h0 h1 h2
  rw [ry]
  refine En.ifd (fun h=>?_) (fun h=>.some ⟨by omega,h2⟩)
  rw [al (by omega) (by omega)]
  refine En.gd h1 (En.gd h ?_)
  have key:∀ c',En (fun y=>x≤y∧y≤s.size) (fA s (x+1) c'):=fun c'=>(ih (x+1) c' (by omega) (by omega) (by omega)).weak fun y hy=>⟨by omega,hy.2⟩
  refine En.bif (fun _=>key _) fun _=>En.bif (fun _=>key _) fun _=>En.bif (fun _=>.some ⟨by omega,h2⟩) fun _=>key _
def RQ (c:Int):Bool:=bif aa (97≤c) then aa (c≤122) else false
def RM (c:Int):Bool:=bif aa (48≤c) then aa (c≤57) else false
theorem Fw (c:Int):jB c = some (RQ c):=tQ c
theorem I4 (c:Int):jc c = some (RM c):=wy c
theorem FF (c:Int):En (fun _=>True) (jB c):=by rw [tQ];exact .some trivial
theorem AK (c:Int):En (fun _=>True) (jc c):=by rw [wy];exact .some trivial
theorem PI (s:ByteArray) (hs:s.size≤8000) (x:Int) (p:Bool) (h1:0≤x):∀ (k:Nat) (n:Int),(s.size:Int) - x - n≤k→0≤n→x+n≤s.size→En (fun y=>n≤y∧x+y≤s.size) (f9 s x p n):=by
 intro k
 induction k with
 | zero =>
  intro n h0 h3 h4
  rw [mI,al (by omega) (by omega)]
  exact En.ifd (fun h=>by omega) (fun h=>.some ⟨Int.le_refl _,h4⟩)
 | succ k ih =>
  intro n h0 h3 h4
  rw [mI,al (n:=x+n) (by omega) (by omega),al (n:=n+1) (by omega) (by omega)]
  refine En.ifd (fun h=>?_) (fun h=>.some ⟨Int.le_refl _,h4⟩)
  have g:=(ih (n+1) (by omega) (by omega) (by omega)).weak (Q':=fun y=>n≤y∧x+y≤s.size) fun y hy=>⟨by omega,hy.2⟩
  have e:En (fun y=>n≤y∧x+y≤s.size) (some n):=.some ⟨Int.le_refl _,h4⟩
  refine En.gd (by omega) (En.gd h (En.bind (FF _) fun _ _=>En.bif (fun _=>g) fun _=>En.gd (by omega) (En.gd h (En.bind (AK _) fun _ _=>En.bif (fun _=>g) fun _=>En.gd (by omega) (En.gd h (En.bif (fun _=>g) fun _=>En.bif (fun _=>En.gd (by omega) (En.gd h (En.bif (fun _=>g) fun _=>e))) fun _=>e))))))
abbrev MB (s:ByteArray) (x:Int):Int:=((UInt8.toNat (Array.getD s.data x.toNat (UInt8.ofNat 0))):Int)
theorem Nc (s:ByteArray) (hs:s.size≤8000) (x:Int) (p:Bool) (h1:0≤x) (h2:x < s.size) (hl:RQ (MB s x) = true∨RM (MB s x) = true):En (fun y=>1≤y∧x+y≤s.size) (uJ s x p):=by
 rw [JI,mI,Int.add_zero,al (n:=x) (by omega) (by omega),show ac (0+1) = 1 from rfl]
 have g:=PI s hs x p h1 8000 1 (by omega) (by omega) (by omega)
 refine En.ifd (fun h=>En.gd h1 (En.gd h ?_)) fun h=>by omega
 rw [Fw,Option.bind_some]
 refine En.bif (fun _=>g) fun h3=>En.gd h1 (En.gd h ?_)
 rw [I4,Option.bind_some]
 refine En.bif (fun _=>g) fun h4=>?_
 rw [h3,h4] at hl
 simp at hl
theorem MM (dim:Int) (a b:ByteArray) (ha:a.size≤8000) (hb:b.size≤4):∀ (n:Nat) (i:Int),(a.size:Int)+b.size - i≤n→0≤i→En (fun r=>r.2.2.2 = true→r.1 = a∧r.2.1 = b) (jh dim a b i):=by
 intro n
 induction n with
 | zero =>
  intro i h0 h1
  rw [nv,al (n:=(a.size:Int)+b.size) (by omega) (by omega)]
  refine En.ifd (fun h=>by omega) fun h=>?_
  refine En.gb (Bool.or_true _) (En.go (fun h=>?_) (En.bif (fun _=>.some (fun h=>by cases h)) fun _=>.some fun _=>⟨rfl,rfl⟩))
  simp at h;omega
 | succ n ih =>
  intro i h0 h1
  rw [nv,al (n:=(a.size:Int)+b.size) (by omega) (by omega)]
  refine En.ifd (fun h=>?_) fun h=>?_
  ·rw [al (by omega) (by omega)]
   refine En.gd (by omega) (En.gd h1 (En.gd (by rw [ByteArray.size_append];omega) (En.bind (AK _) fun _ _=>En.not (fun _=>.some (fun h=>by cases h)) fun _=>ih _ (by omega) (by omega))))
  ·refine En.gb (Bool.or_true _) (En.go (fun h=>?_) (En.bif (fun _=>.some (fun h=>by cases h)) fun _=>.some fun _=>⟨rfl,rfl⟩))
   simp at h;omega
def yW (r:ByteArray × ByteArray × Int × Bool):Prop:=r.2.2.2 = true→r.1.size≤8000∧r.2.1.size≤4
theorem oa (dim:Int) (a b:ByteArray) (ha:a.size≤8000) (hb:b.size≤4):En yW (jN dim a b):=by
 rw [yw]
 refine (MM dim a b ha hb (a.size+b.size) 0 (by omega) (by omega)).weak fun r h hr=>?_
 obtain ⟨h1,h2⟩:=h hr
 rw [h1,h2];exact ⟨ha,hb⟩
theorem JA (s:ByteArray) (hs:s.size≤8000) (dim:Int):∀ (n:Nat) (x i:Int),i < n→-1≤i→i < s.size→0≤x→x≤s.size→En yW (ig s dim x i):=by
 intro n
 induction n with
 | zero =>
  intro x i h0 h1 h2 h3 h4
  rw [oV]
  refine En.ifd (fun h=>by omega) fun h=>En.gd h3 (En.gd h4 (En.ifd (fun h5=>?_) fun h5=>oa _ _ _ (by rw [ByteArray.size_extract];omega) (by rw [ao];simp)))
  rw [al (by omega) (by omega)]
  refine En.gd (by omega) (En.gd (by omega) (En.gd (Int.le_refl _) (En.or (fun _=>.some (fun h=>by cases h)) fun g1 g2=>oa _ _ _ (by rw [ByteArray.size_extract];omega) ?_)))
  have:=nE g2
  omega
 | succ n ih =>
  intro x i h0 h1 h2 h3 h4
  rw [oV]
  refine En.ifd (fun h=>?_) fun h=>En.gd h3 (En.gd h4 (En.ifd (fun h5=>?_) fun h5=>oa _ _ _ (by rw [ByteArray.size_extract];omega) (by rw [ao];simp)))
  ·rw [al (by omega) (by omega)]
   exact En.gd h (En.gd h2 (En.bif (fun _=>ih _ _ (by omega) (by omega) (by omega) h (by omega)) fun _=>ih _ _ (by omega) (by omega) (by omega) h3 h4))
  ·rw [al (by omega) (by omega)]
   refine En.gd (by omega) (En.gd (by omega) (En.gd (Int.le_refl _) (En.or (fun _=>.some (fun h=>by cases h)) fun g1 g2=>oa _ _ _ (by rw [ByteArray.size_extract];omega) ?_)))
   have:=nE g2
   omega
theorem uV (s:ByteArray) (hs:s.size≤8000) (dim:Int):En yW (iR s dim):=by
 rw [zI,al (by omega) (by omega)]
 exact JA s hs dim (s.size+1) _ _ (by omega) (by omega) (by omega) (by omega) (by omega)
theorem HI (s:ByteArray) (hs:s.size≤8000):En yW (pM s):=by
 rw [Gj,al (by omega) (by omega)]
 have g:(aa (0 < (s.size:Int))&&true) = true→0 < (s.size:Int):=fun h=>by simpa using h
 have e:∀ x y,(ByteArray.extract s x y).size≤8000:=fun x y=>by rw [ByteArray.size_extract];omega
 refine En.go (fun h=>?_) (En.go (fun h=>?_) (En.and (fun h _=>?_) fun _=>?_))
 ·have:=g h;omega
 ·have:=g h;omega
 ·have:=dX h
  exact En.gd (by omega) (En.gd (by omega) (uV _ (e _ _) _))
 ·refine En.go (fun h=>?_) (En.go (fun h=>?_) (En.and (fun h _=>?_) fun _=>uV _ hs _))
  ·have:=g h;omega
  ·have:=g h;omega
  ·have:=dX h
   exact En.gd (by omega) (En.gd (by omega) (uV _ (e _ _) _))
theorem Mj (b:Bool):En (fun n=>n = 0∨n = 1) (be b):=by
 rw [zC]
 exact En.bif (fun _=>.some (.inr rfl)) fun _=>.some (.inl rfl)
theorem N3 (s:ByteArray) (x:Int) (h1:0≤x) (h2:x < s.size):En (fun n=>n = 0∨n = 1) (mR s x):=by
 rw [B3]
 refine En.gd h1 (En.gd h2 ?_)
 repeat' first | exact Mj _ | refine En.bif (fun _=>?_) (fun _=>?_)
theorem PL (s:ByteArray) (hs:s.size≤8000) (x:Int) (h1:0≤x) (h2:x < s.size):En (fun n=>0≤n∧x+n≤s.size) (xl s x):=by
 have g:=(N3 s x h1 h2).weak (Q':=fun n=>0≤n∧x+n≤s.size) fun n h=>by omega
 rw [H3,al (n:=x+1) (by omega) (by omega)]
 refine En.ifd (fun h=>?_) fun _=>g
 rw [al (by omega) (by omega)]
 exact En.gd h1 (En.gd (by omega) (En.gd (by omega) (En.bif (fun _=>.some ⟨by omega,by omega⟩) fun _=>g)))
theorem Ay (s:ByteArray) (hs:s.size≤8000):En (fun r=>-9223372036854775808≤r.1∧r.1≤9223372036854775807) (mq s):=by
 rw [F8]
 have key:∀ (k:Nat) (n i:Int),(s.size:Int) - i≤k→0≤i→(-9223372036854775808≤n∧n≤9223372036854775807)→En (fun r=>-9223372036854775808≤r.1∧r.1≤9223372036854775807) (kQ s n i):=by
  intro k
  induction k with
  | zero =>
   intro n i h0 h1 h2
   rw [pj]
   exact En.ifd (fun h=>by omega) fun _=>.some h2
  | succ k ih =>
   intro n i h0 h1 h2
   rw [pj]
   refine En.ifd (fun h=>?_) fun _=>.some h2
   rw [al (n:=i+1) (by omega) (by omega)]
   exact En.gd h1 (En.gd h (En.go (fun _=>h1) (En.go (fun _=>h) (En.bif (fun _=>.some ⟨by omega,by omega⟩) fun _=>En.gd h1 (En.gd h (ih _ _ (by omega) (by omega) (Dn _)))))))
 exact key s.size 0 0 (by omega) (by omega) ⟨by omega,by omega⟩
theorem P4 (y:Int):En (fun _=>True) (yx y):=by
 rw [Jg]
 exact En.gb (Bool.or_true _) (En.gb (Bool.or_true _) (.some trivial))
theorem FJ (y m:Int):En (fun r=>28≤r∧r≤31) (od y m):=by
 rw [Da]
 refine En.bif (fun _=>En.bind (P4 y) fun _ _=>?_) fun _=>?_
 ·exact En.bif (fun _=>.some ⟨by omega,by omega⟩) fun _=>.some ⟨by omega,by omega⟩
 ·repeat' first | exact .some ⟨by omega,by omega⟩ | refine En.bif (fun _=>?_) (fun _=>?_)
theorem Of (m:Int) (hm:m≤100000):En (fun _=>True) (ui m):=by
 rw [F3]
 have key:∀ (k:Nat) (n i:Int),m - i≤k→0≤i→En (fun _=>True) (kZ m n i):=by
  intro k
  induction k with
  | zero =>
   intro n i h0 h1
   rw [pA]
   exact En.ifd (fun h=>by omega) fun _=>.some trivial
  | succ k ih =>
   intro n i h0 h1
   rw [pA]
   refine En.ifd (fun h=>En.bind (FJ _ _) fun r _=>?_) fun _=>.some trivial
   rw [al (n:=i+1) (by omega) (by omega)]
   exact ih _ _ (by omega) (by omega)
 exact key m.toNat 0 0 (by omega) (by omega)
theorem QF (y m d:Int):En (fun _=>True) (AU y m d):=by
 rw [J2]
 refine En.ifd (fun _=>.some trivial) fun h1=>En.ifd (fun _=>.some trivial) fun h2=>En.ifd (fun _=>.some trivial) fun h3=>En.ifd (fun _=>.some trivial) fun h4=>En.ifd (fun _=>.some trivial) fun h5=>?_
 refine En.bind (FJ _ _) fun r _=>En.ifd (fun _=>.some trivial) fun _=>?_
 rw [al (n:=y - 1900) (by omega) (by omega),al (n:=(y - 1900)*12) (by omega) (by omega),al (n:=(y - 1900)*12+m) (by omega) (by omega),al (n:=(y - 1900)*12+m - 1) (by omega) (by omega)]
 exact En.bind (Of _ (by omega)) fun _ _=>.some trivial
theorem Ai (s:ByteArray) (hs:s.size≤8000):En (fun _=>True) (lH s):=by
 have e:∀ x y,(ByteArray.extract s x y).size≤8000:=fun x y=>by rw [ByteArray.size_extract];omega
 rw [A1]
 have g1:∀ {c:Bool},((!(bZ (s.size:Int) 10))&&true) = c→c = true→(s.size:Int) = 10:=fun h1 h2=>by subst h1;simpa [bZ] using h2
 refine En.gb (Bool.or_true _) (En.go (fun h=>?_) (En.gb (Bool.or_true _) (En.go (fun h=>?_) (En.bif (fun _=>.some trivial) fun h=>?_))))
 ·have:=g1 rfl h;omega
 ·simp [bZ,oN] at h;omega
 ·simp [bZ,oN] at h
  have h10:s.size = 10:=by omega
  exact En.gd (by omega) (En.bind (Ay _ (e _ _)) fun _ _=>En.gd (by omega) (En.bind (Ay _ (e _ _)) fun _ _=>En.gd (by omega) (En.gd (by omega) (En.bind (Ay _ (e _ _)) fun _ _=>En.bif (fun _=>.some trivial) fun _=>En.bind (QF _ _ _) fun _ _=>.some trivial))))
def sa (t:GToken):Prop:=t.Text.size≤8000∧(t.Kind = 3→t.Text.size = 11)
theorem Mi (s:ByteArray) (hs:s.size≤8000) (x k n:Int) (ok:Bool) (t:GToken) (h1:0≤x) (h2:ok = true→0 < n) (h3:ok = true→x+n≤s.size) (h4:k≠0) (h5:k = 3→n = 11) :
  En (fun r=>r.2.2 = 0→sa r.1∧r.1.Kind≠0∧x < r.2.1∧r.2.1≤(s.size:Int)) (dG s x k n ok t):=by
 rw [zB]
 refine En.not (fun _=>.some (fun h=>by cases h)) fun ho=>?_
 have:=h3 ho
 have h2:=h2 ho
 rw [al (by omega) (by omega)]
 refine En.gd h1 (En.gd (by omega) (En.gd this (.some fun _=>⟨⟨?_,fun hk=>?_⟩,h4,by show x < x+n;omega,this⟩)))
 ·show (ByteArray.extract s _ _).size≤8000
  rw [ByteArray.size_extract];omega
 ·have:=h5 hk
  show (ByteArray.extract s _ _).size = 11
  rw [ByteArray.size_extract];omega
theorem P6 (s:ByteArray) (hs:s.size≤8000) (x:Int) (h1:0≤x) (h2:x≤s.size):En (fun r=>r.2.2 = 0→r.1.Kind = 0∨(sa r.1∧x < r.2.1∧r.2.1≤(s.size:Int))) (yC s x):=by
 have e:∀ x y,(ByteArray.extract s x y).size≤8000:=fun x y=>by rw [ByteArray.size_extract];omega
 rw [HB]
 refine En.or (fun _=>.some (fun h=>by cases h)) fun _ _=>?_
 rw [Ii]
 refine En.bind (Qd s hs s.size x false (by omega) h1 h2) fun y hy=>?_
 obtain ⟨hy1,hy2⟩:=hy
 refine En.ifi (fun _=>.some (fun _=>.inl rfl)) fun hne=>?_
 have hy3:y < s.size:=by omega
 have hy0:0≤y:=by omega
 have fin:∀ k n ok,(ok = true→0 < n)→(ok = true→y+n≤s.size)→k≠0→(k = 3→n = 11)→En (fun r=>r.2.2 = 0→r.1.Kind = 0∨(sa r.1∧x < r.2.1∧r.2.1≤(s.size:Int))) (dG s y k n ok (⟨0,(ab []),0⟩:GToken)):=fun k n ok g1 g2 g3 g4 =>
  (Mi s hs y k n ok _ hy0 g1 g2 g3 g4).weak fun r hr h0=>by obtain ⟨a,b,c,d⟩:=hr h0;exact .inr ⟨a,by omega,d⟩
 refine En.gd hy0 (En.gd hy3 ?_)
 rw [Fw,Option.bind_some]
 refine En.bif (fun hl=>En.bind (Nc s hs y false hy0 hy3 (.inl hl)) fun n hn=>fin _ _ _ (fun _=>by omega) (fun _=>hn.2) (by omega) (by omega)) fun _=>En.gd hy0 (En.gd hy3 ?_)
 rw [I4,Option.bind_some]
 refine En.bif (fun hl=>En.bind (Nc s hs y true hy0 hy3 (.inr hl)) fun n hn=>?_) fun _=>En.gd hy0 (En.gd hy3 ?_)
 ·rw [al (by omega) (by omega)]
  exact En.gd hy0 (En.gd (by omega) (En.gd hn.2 (En.bind (HI _ (e _ _)) fun r _=>fin _ _ _ (fun _=>by omega) (fun _=>hn.2) (by omega) (by omega))))
 ·refine En.ifi (fun _=>?_) fun _=>En.bind (PL s hs y hy0 hy3) fun n hn=>fin _ _ _ (fun h=>dX h) (fun _=>hn.2) (by omega) (by omega)
  rw [al (n:=(s.size:Int) - y) (by omega) (by omega)]
  refine En.ifd (fun h=>?_) fun h=>fin _ _ _ (fun h'=>absurd (dX h') h) (fun h'=>absurd (dX h') h) (by omega) (fun _=>rfl)
  rw [al (n:=y+1) (by omega) (by omega),al (n:=y+11) (by omega) (by omega)]
  exact En.gd (by omega) (En.gd (by omega) (En.gd (by omega) (En.bind (Ai _ (e _ _)) fun r _=>fin _ _ _ (fun _=>by omega) (fun _=>by omega) (by omega) (fun _=>rfl))))
theorem QW (s:ByteArray):En (fun r=>r.2.2 = 0→r.1.length≤8000∧∀ t∈r.1,sa t) (AH s):=by
 rw [Jp]
 refine En.ifd (fun _=>.some (fun h=>by cases h)) fun h=>?_
 have hs:s.size≤8000:=by omega
 have key:∀ (k:Nat) (x:Int) (out:List GToken),(s.size:Int) - x < k→0≤x→x≤s.size→(out.length:Int)≤x→(∀ t∈out,sa t)→En (fun r=>r.2.2 = 0→r.1.length≤8000∧∀ t∈r.1,sa t) (mQ s x out):=by
  intro k
  induction k with
  | zero=>intro x out h0 h1 h2;omega
  | succ k ih =>
   intro x out h0 h1 h2 h3 h4
   rw [Ce]
   refine En.bind (P6 s hs x h1 h2) fun r hr=>En.ifn (fun hne=>.some (fun h0=>absurd h0 hne)) fun h0=>En.ifi (fun _=>.some (fun _=>⟨by show out.length≤8000;omega,h4⟩)) fun hk=>?_
   rcases hr h0 with h5 | ⟨h5,h6,h7⟩
   ·exact absurd h5 hk
   ·refine En.gd (by omega) (En.gd (by omega) (ih _ _ (by omega) (by omega) h7 (by rw [List.length_append];simp;omega) fun t ht=>?_))
    rcases List.mem_append.1 ht with ht | ht
    ·exact h4 t ht
    ·simp at ht;subst ht;exact h5
 exact key (s.size+1) 0 [] (by omega) (by omega) (by omega) (by simp) (fun t ht=>by simp at ht)
end Go.Ax
