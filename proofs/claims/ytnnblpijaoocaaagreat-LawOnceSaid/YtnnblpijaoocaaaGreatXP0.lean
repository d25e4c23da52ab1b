import Derived.Test.YtnnblpijaoocaaaGreatXHd
import Derived.Test.YtnnblpijaoocaaaGreatXE
set_option linter.all false
/- Rules for functions that end: an option that is something, in a set. -/
namespace Go.Ax
theorem al {n:Int} (h:-9223372036854775808≤n) (h':n≤9223372036854775807):ab n = n:=by
 simp only [ab,IntKind.wrap,IntKind.bits,IntKind.signed]
 simp
 omega
theorem La {n:Int} (h:0≤n) (h':n≤18446744073709551615):IntKind.wrap .u64 n = n:=by
 simp only [IntKind.wrap,IntKind.bits,IntKind.signed]
 simp
 omega
theorem Hs (n:Int):-9223372036854775808≤ab n∧ab n≤9223372036854775807:=by
 simp only [ab,IntKind.wrap,IntKind.bits,IntKind.signed]
 simp
 omega
theorem BE (n:Int):0≤IntKind.wrap .u64 n∧IntKind.wrap .u64 n≤18446744073709551615:=by
 simp only [IntKind.wrap,IntKind.bits,IntKind.signed]
 simp
 omega
theorem ax {p:Prop} [Decidable p] (h:p):aa p = true:=decide_eq_true h
theorem aJ {p:Prop} [Decidable p] (h:¬ p):aa p = false:=decide_eq_false h
theorem dJ {p:Prop} [Decidable p] (h:aa p = true):p:=of_decide_eq_true h
theorem pn {p:Prop} [Decidable p] (h:aa p = false):¬ p:=of_decide_eq_false h
theorem ct {a b:Int}:ae a b = true↔a = b:=by simp [ae]
theorem il {a b:Int}:ae a b = false↔a≠b:=by simp [ae]
theorem Ua {a b:Int}:bW a b = true↔a≠b:=by simp [bW]
theorem sw {a b:Int}:bW a b = false↔a = b:=by simp [bW]
theorem kh (a:Int):ae a a = true:=ct.2 rfl
theorem eX {a b:Bool}:(bif a then b else false) = (a&&b):=by cases a <;> rfl
theorem nZ {a b:Bool}:(bif a then true else b) = (a||b):=by cases a <;> rfl
theorem lz {α:Type} {b:Bool} {o:Option α} (h:b = true):gb b o = o:=by rw [h];rfl
theorem ay {α:Type} {p:Prop} [Decidable p] {o:Option α} (h:p):gb (aa p) o = o:=lz (ax h)
theorem yE {α:Type} {a b:Bool} {o:Option α} (h:a = true→b = true):gb ((!a)||b) o = o:=lz (by cases a <;> simp_all)
def En {α:Type} (Q:α→Prop) (o:Option α):Prop:=∃ y,o = some y∧Q y
section
variable {α β:Type} {Q Q':α→Prop}
theorem En.some {y:α} (h:Q y):En Q (some y):=⟨y,rfl,h⟩
theorem En.bind {R:β→Prop} {o:Option β} {f:β→Option α} (h:En R o) (h2:∀ y,R y→En Q (f y)):En Q (o.bind f):=by
 obtain ⟨x,rfl,hx⟩:=h
 exact h2 x hx
theorem En.bif {c:Bool} {a b:Option α} (h1:c = true→En Q a) (h2:c = false→En Q b):En Q (bif c then a else b):=by
 cases c with
 | true=>exact h1 rfl
 | false=>exact h2 rfl
theorem En.ifd {p:Prop} [Decidable p] {a b:Option α} (h1:p→En Q a) (h2:¬ p→En Q b):En Q (bif aa p then a else b) :=
 En.bif (fun h=>h1 (dJ h)) fun h=>h2 (pn h)
theorem En.ifi {x y:Int} {a b:Option α} (h1:x = y→En Q a) (h2:x≠y→En Q b):En Q (bif ae x y then a else b) :=
 En.bif (fun h=>h1 (ct.1 h)) fun h=>h2 (il.1 h)
theorem En.ifn {x y:Int} {a b:Option α} (h1:x≠y→En Q a) (h2:x = y→En Q b):En Q (bif bW x y then a else b) :=
 En.bif (fun h=>h1 (Ua.1 h)) fun h=>h2 (sw.1 h)
theorem En.not {c:Bool} {a b:Option α} (h1:c = false→En Q a) (h2:c = true→En Q b):En Q (bif (!c) then a else b):=by
 cases c with
 | true=>exact h2 rfl
 | false=>exact h1 rfl
theorem En.and {c d:Bool} {a b:Option α} (h1:c = true→d = true→En Q a) (h2:(c = false∨d = false)→En Q b):En Q (bif (bif c then d else false) then a else b):=by
 cases c <;> cases d
 ·exact h2 (.inl rfl)
 ·exact h2 (.inl rfl)
 ·exact h2 (.inr rfl)
 ·exact h1 rfl rfl
theorem En.or {c d:Bool} {a b:Option α} (h1:(c = true∨d = true)→En Q a) (h2:c = false→d = false→En Q b):En Q (bif (bif c then true else d) then a else b):=by
 cases c <;> cases d
 ·exact h2 rfl rfl
 ·exact h1 (.inr rfl)
 ·exact h1 (.inl rfl)
 ·exact h1 (.inl rfl)
theorem En.gb {b:Bool} {o:Option α} (hb:b = true) (h:En Q o):En Q (gb b o):=by rw [lz hb];exact h
theorem En.gd {p:Prop} [Decidable p] {o:Option α} (hp:p) (h:En Q o):En Q (Go.Ax.gb (aa p) o):=En.gb (ax hp) h
theorem En.go {a:Bool} {p:Prop} [Decidable p] {o:Option α} (hp:a = true→p) (h:En Q o):En Q (Go.Ax.gb ((!a)||aa p) o):=by
 rw [yE fun ha=>ax (hp ha)];exact h
theorem En.weak {o:Option α} (h:En Q o) (hq:∀ y,Q y→Q' y):En Q' o:=by obtain ⟨y,h1,h2⟩:=h;exact ⟨y,h1,hq y h2⟩
theorem En.of {o:Option α} {y:α} (h:o = Option.some y) (hq:Q y):En Q o:=⟨y,h,hq⟩
end
theorem wT {T:Type} (p s:List T) (x z:T):(p++x :: s).getD p.length z = x:=by
 rw [List.getD_eq_getElem?_getD,List.getElem?_append_right (Nat.le_refl _)]
 simp
theorem SZ {T:Type} {l:List T} {i:Nat} {z:T} (h:i < l.length):l.getD i z∈l:=by
 rw [List.getD_eq_getElem?_getD,List.getElem?_eq_getElem h];exact List.getElem_mem h
theorem qB {T:Type} {l:List T} {i:Int} {z:T} (h0:0≤i) (h:i < (l.length:Int)):gD l i.toNat z∈l:=SZ (by omega)
theorem ar (l:List Nat):(ac l).size = l.length:=by simp [ac,ByteArray.size]
end Go.Ax
set_option linter.all false
/- The reading of tokens ends. -/
set_option maxRecDepth 100000
namespace Go.Ax
theorem TI (s:ByteArray) (hs:s.size≤8000):∀ (n:Nat) (x:Int) (c:Bool),(s.size:Int) - x≤n→0≤x→x≤s.size→En (fun y=>x≤y∧y≤s.size) (gu s x c):=by
 intro n
 induction n with
 | zero =>
  intro x c h0 h1 h2
  rw [tX]
  refine En.ifd (fun h=>by omega) (fun h=>.some ⟨by omega,h2⟩)
 | succ n ih =>
  intro x c h0 h1 h2
  rw [tX]
  refine En.ifd (fun h=>?_) (fun h=>.some ⟨by omega,h2⟩)
  rw [al (by omega) (by omega)]
  refine En.gd h1 (En.gd h ?_)
  have key:∀ c',En (fun y=>x≤y∧y≤s.size) (gu s (x+1) c'):=fun c'=>(ih (x+1) c' (by omega) (by omega) (by omega)).weak fun y hy=>⟨by omega,hy.2⟩
  refine En.bif (fun _=>key _) fun _=>En.bif (fun _=>key _) fun _=>En.bif (fun _=>.some ⟨by omega,h2⟩) fun _=>key _
def Vy (c:Int):Bool:=bif aa (97≤c) then aa (c≤122) else false
def VC (c:Int):Bool:=bif aa (48≤c) then aa (c≤57) else false
theorem IE (c:Int):kB c = some (Vy c):=vS c
theorem LK (c:Int):kc c = some (VC c):=yQ c
theorem Ir (c:Int):En (fun _=>True) (kB c):=by rw [vS];exact .some trivial
theorem Du (c:Int):En (fun _=>True) (kc c):=by rw [yQ];exact .some trivial
theorem TP (s:ByteArray) (hs:s.size≤8000) (x:Int) (p:Bool) (h1:0≤x):∀ (k:Nat) (n:Int),(s.size:Int) - x - n≤k→0≤n→x+n≤s.size→En (fun y=>n≤y∧x+y≤s.size) (ic s x p n):=by
 intro k
 induction k with
 | zero =>
  intro n h0 h3 h4
  rw [oG,al (by omega) (by omega)]
  exact En.ifd (fun h=>by omega) (fun h=>.some ⟨Int.le_refl _,h4⟩)
 | succ k ih =>
  intro n h0 h3 h4
  rw [oG,al (n:=x+n) (by omega) (by omega),al (n:=n+1) (by omega) (by omega)]
  refine En.ifd (fun h=>?_) (fun h=>.some ⟨Int.le_refl _,h4⟩)
  have g:=(ih (n+1) (by omega) (by omega) (by omega)).weak (Q':=fun y=>n≤y∧x+y≤s.size) fun y hy=>⟨by omega,hy.2⟩
  have e:En (fun y=>n≤y∧x+y≤s.size) (some n):=.some ⟨Int.le_refl _,h4⟩
  refine En.gd (by omega) (En.gd h (En.bind (Ir _) fun _ _=>En.bif (fun _=>g) fun _=>En.gd (by omega) (En.gd h (En.bind (Du _) fun _ _=>En.bif (fun _=>g) fun _=>En.gd (by omega) (En.gd h (En.bif (fun _=>g) fun _=>En.bif (fun _=>En.gd (by omega) (En.gd h (En.bif (fun _=>g) fun _=>e))) fun _=>e))))))
abbrev Q4 (s:ByteArray) (x:Int):Int:=((UInt8.toNat (Array.getD s.data x.toNat (UInt8.ofNat 0))):Int)
theorem QS (s:ByteArray) (hs:s.size≤8000) (x:Int) (p:Bool) (h1:0≤x) (h2:x < s.size) (hl:Vy (Q4 s x) = true∨VC (Q4 s x) = true):En (fun y=>1≤y∧x+y≤s.size) (xr s x p):=by
 rw [M6,oG,Int.add_zero,al (n:=x) (by omega) (by omega),show ab (0+1) = 1 from rfl]
 have g:=TP s hs x p h1 8000 1 (by omega) (by omega) (by omega)
 refine En.ifd (fun h=>En.gd h1 (En.gd h ?_)) fun h=>by omega
 rw [IE,Option.bind_some]
 refine En.bif (fun _=>g) fun h3=>En.gd h1 (En.gd h ?_)
 rw [LK,Option.bind_some]
 refine En.bif (fun _=>g) fun h4=>?_
 rw [h3,h4] at hl
 simp at hl
theorem Rj (dim:Int) (a b:ByteArray) (ha:a.size≤8000) (hb:b.size≤4):∀ (n:Nat) (i:Int),(a.size:Int)+b.size - i≤n→0≤i→En (fun r=>r.2.2.2 = true→r.1 = a∧r.2.1 = b) (jR dim a b i):=by
 intro n
 induction n with
 | zero =>
  intro i h0 h1
  rw [oX,al (n:=(a.size:Int)+b.size) (by omega) (by omega)]
  refine En.ifd (fun h=>by omega) fun h=>?_
  refine En.gb (Bool.or_true _) (En.go (fun h=>?_) (En.bif (fun _=>.some (fun h=>by cases h)) fun _=>.some fun _=>⟨rfl,rfl⟩))
  simp at h;omega
 | succ n ih =>
  intro i h0 h1
  rw [oX,al (n:=(a.size:Int)+b.size) (by omega) (by omega)]
  refine En.ifd (fun h=>?_) fun h=>?_
  ·rw [al (by omega) (by omega)]
   refine En.gd (by omega) (En.gd h1 (En.gd (by rw [ByteArray.size_append];omega) (En.bind (Du _) fun _ _=>En.not (fun _=>.some (fun h=>by cases h)) fun _=>ih _ (by omega) (by omega))))
  ·refine En.gb (Bool.or_true _) (En.go (fun h=>?_) (En.bif (fun _=>.some (fun h=>by cases h)) fun _=>.some fun _=>⟨rfl,rfl⟩))
   simp at h;omega
def BH (r:ByteArray × ByteArray × Int × Bool):Prop:=r.2.2.2 = true→r.1.size≤8000∧r.2.1.size≤4
theorem pS (dim:Int) (a b:ByteArray) (ha:a.size≤8000) (hb:b.size≤4):En BH (kX dim a b):=by
 rw [z6]
 refine (Rj dim a b ha hb (a.size+b.size) 0 (by omega) (by omega)).weak fun r h hr=>?_
 obtain ⟨h1,h2⟩:=h hr
 rw [h1,h2];exact ⟨ha,hb⟩
theorem Nh (s:ByteArray) (hs:s.size≤8000) (dim:Int):∀ (n:Nat) (x i:Int),i < n→-1≤i→i < s.size→0≤x→x≤s.size→En BH (iG s dim x i):=by
 intro n
 induction n with
 | zero =>
  intro x i h0 h1 h2 h3 h4
  rw [qC]
  refine En.ifd (fun h=>by omega) fun h=>En.gd h3 (En.gd h4 (En.ifd (fun h5=>?_) fun h5=>pS _ _ _ (by rw [ByteArray.size_extract];omega) (by rw [ar];simp)))
  rw [al (by omega) (by omega)]
  refine En.gd (by omega) (En.gd (by omega) (En.gd (Int.le_refl _) (En.or (fun _=>.some (fun h=>by cases h)) fun g1 g2=>pS _ _ _ (by rw [ByteArray.size_extract];omega) ?_)))
  have:=pn g2
  omega
 | succ n ih =>
  intro x i h0 h1 h2 h3 h4
  rw [qC]
  refine En.ifd (fun h=>?_) fun h=>En.gd h3 (En.gd h4 (En.ifd (fun h5=>?_) fun h5=>pS _ _ _ (by rw [ByteArray.size_extract];omega) (by rw [ar];simp)))
  ·rw [al (by omega) (by omega)]
   exact En.gd h (En.gd h2 (En.bif (fun _=>ih _ _ (by omega) (by omega) (by omega) h (by omega)) fun _=>ih _ _ (by omega) (by omega) (by omega) h3 h4))
  ·rw [al (by omega) (by omega)]
   refine En.gd (by omega) (En.gd (by omega) (En.gd (Int.le_refl _) (En.or (fun _=>.some (fun h=>by cases h)) fun g1 g2=>pS _ _ _ (by rw [ByteArray.size_extract];omega) ?_)))
   have:=pn g2
   omega
theorem xi (s:ByteArray) (hs:s.size≤8000) (dim:Int):En BH (jG s dim):=by
 rw [B0,al (by omega) (by omega)]
 exact Nh s hs dim (s.size+1) _ _ (by omega) (by omega) (by omega) (by omega) (by omega)
theorem Me (s:ByteArray) (hs:s.size≤8000):En BH (rV s):=by
 rw [JM,al (by omega) (by omega)]
 have g:(aa (0 < (s.size:Int))&&true) = true→0 < (s.size:Int):=fun h=>by simpa using h
 have e:∀ x y,(ByteArray.extract s x y).size≤8000:=fun x y=>by rw [ByteArray.size_extract];omega
 refine En.go (fun h=>?_) (En.go (fun h=>?_) (En.and (fun h _=>?_) fun _=>?_))
 ·have:=g h;omega
 ·have:=g h;omega
 ·have:=dJ h
  exact En.gd (by omega) (En.gd (by omega) (xi _ (e _ _) _))
 ·refine En.go (fun h=>?_) (En.go (fun h=>?_) (En.and (fun h _=>?_) fun _=>xi _ hs _))
  ·have:=g h;omega
  ·have:=g h;omega
  ·have:=dJ h
   exact En.gd (by omega) (En.gd (by omega) (xi _ (e _ _) _))
theorem O1 (b:Bool):En (fun n=>n = 0∨n = 1) (bA b):=by
 rw [B9]
 exact En.bif (fun _=>.some (.inr rfl)) fun _=>.some (.inl rfl)
theorem RH (s:ByteArray) (x:Int) (h1:0≤x) (h2:x < s.size):En (fun n=>n = 0∨n = 1) (oA s x):=by
 rw [EW]
 refine En.gd h1 (En.gd h2 ?_)
 repeat' first | exact O1 _ | refine En.bif (fun _=>?_) (fun _=>?_)
theorem TU (s:ByteArray) (hs:s.size≤8000) (x:Int) (h1:0≤x) (h2:x < s.size):En (fun n=>0≤n∧x+n≤s.size) (A0 s x):=by
 have g:=(RH s x h1 h2).weak (Q':=fun n=>0≤n∧x+n≤s.size) fun n h=>by omega
 rw [Lv,al (n:=x+1) (by omega) (by omega)]
 refine En.ifd (fun h=>?_) fun _=>g
 rw [al (by omega) (by omega)]
 exact En.gd h1 (En.gd (by omega) (En.gd (by omega) (En.bif (fun _=>.some ⟨by omega,by omega⟩) fun _=>g)))
theorem DC (s:ByteArray) (hs:s.size≤8000):En (fun r=>-9223372036854775808≤r.1∧r.1≤9223372036854775807) (nU s):=by
 rw [Ju]
 have key:∀ (k:Nat) (n i:Int),(s.size:Int) - i≤k→0≤i→(-9223372036854775808≤n∧n≤9223372036854775807)→En (fun r=>-9223372036854775808≤r.1∧r.1≤9223372036854775807) (lY s n i):=by
  intro k
  induction k with
  | zero =>
   intro n i h0 h1 h2
   rw [rI]
   exact En.ifd (fun h=>by omega) fun _=>.some h2
  | succ k ih =>
   intro n i h0 h1 h2
   rw [rI]
   refine En.ifd (fun h=>?_) fun _=>.some h2
   rw [al (n:=i+1) (by omega) (by omega)]
   exact En.gd h1 (En.gd h (En.go (fun _=>h1) (En.go (fun _=>h) (En.bif (fun _=>.some ⟨by omega,by omega⟩) fun _=>En.gd h1 (En.gd h (ih _ _ (by omega) (by omega) (Hs _)))))))
 exact key s.size 0 0 (by omega) (by omega) ⟨by omega,by omega⟩
theorem Tt (y:Int):En (fun _=>True) (Bk y):=by
 rw [Kq]
 exact En.gb (Bool.or_true _) (En.gb (Bool.or_true _) (.some trivial))
theorem IK (y m:Int):En (fun r=>28≤r∧r≤31) (pX y m):=by
 rw [HO]
 refine En.bif (fun _=>En.bind (Tt y) fun _ _=>?_) fun _=>?_
 ·exact En.bif (fun _=>.some ⟨by omega,by omega⟩) fun _=>.some ⟨by omega,by omega⟩
 ·repeat' first | exact .some ⟨by omega,by omega⟩ | refine En.bif (fun _=>?_) (fun _=>?_)
theorem Sw (m:Int) (hm:m≤100000):En (fun _=>True) (xA m):=by
 rw [Jr]
 have key:∀ (k:Nat) (n i:Int),m - i≤k→0≤i→En (fun _=>True) (l7 m n i):=by
  intro k
  induction k with
  | zero =>
   intro n i h0 h1
   rw [rE]
   exact En.ifd (fun h=>by omega) fun _=>.some trivial
  | succ k ih =>
   intro n i h0 h1
   rw [rE]
   refine En.ifd (fun h=>En.bind (IK _ _) fun r _=>?_) fun _=>.some trivial
   rw [al (n:=i+1) (by omega) (by omega)]
   exact ih _ _ (by omega) (by omega)
 exact key m.toNat 0 0 (by omega) (by omega)
theorem UY (y m d:Int):En (fun _=>True) (Dg y m d):=by
 rw [Nx]
 refine En.ifd (fun _=>.some trivial) fun h1=>En.ifd (fun _=>.some trivial) fun h2=>En.ifd (fun _=>.some trivial) fun h3=>En.ifd (fun _=>.some trivial) fun h4=>En.ifd (fun _=>.some trivial) fun h5=>?_
 refine En.bind (IK _ _) fun r _=>En.ifd (fun _=>.some trivial) fun _=>?_
 rw [al (n:=y - 1900) (by omega) (by omega),al (n:=(y - 1900)*12) (by omega) (by omega),al (n:=(y - 1900)*12+m) (by omega) (by omega),al (n:=(y - 1900)*12+m - 1) (by omega) (by omega)]
 exact En.bind (Sw _ (by omega)) fun _ _=>.some trivial
theorem CA (s:ByteArray) (hs:s.size≤8000):En (fun _=>True) (m6 s):=by
 have e:∀ x y,(ByteArray.extract s x y).size≤8000:=fun x y=>by rw [ByteArray.size_extract];omega
 rw [DA]
 have g1:∀ {c:Bool},((!(bW (s.size:Int) 10))&&true) = c→c = true→(s.size:Int) = 10:=fun h1 h2=>by subst h1;simpa [bW] using h2
 refine En.gb (Bool.or_true _) (En.go (fun h=>?_) (En.gb (Bool.or_true _) (En.go (fun h=>?_) (En.bif (fun _=>.some trivial) fun h=>?_))))
 ·have:=g1 rfl h;omega
 ·simp [bW,nZ] at h;omega
 ·simp [bW,nZ] at h
  have h10:s.size = 10:=by omega
  exact En.gd (by omega) (En.bind (DC _ (e _ _)) fun _ _=>En.gd (by omega) (En.bind (DC _ (e _ _)) fun _ _=>En.gd (by omega) (En.gd (by omega) (En.bind (DC _ (e _ _)) fun _ _=>En.bif (fun _=>.some trivial) fun _=>En.bind (UY _ _ _) fun _ _=>.some trivial))))
def ud (t:GToken):Prop:=t.Text.size≤8000∧(t.Kind = 3→t.Text.size = 11)
theorem PC (s:ByteArray) (hs:s.size≤8000) (x k n:Int) (ok:Bool) (t:GToken) (h1:0≤x) (h2:ok = true→0 < n) (h3:ok = true→x+n≤s.size) (h4:k≠0) (h5:k = 3→n = 11) :
  En (fun r=>r.2.2 = 0→ud r.1∧r.1.Kind≠0∧x < r.2.1∧r.2.1≤(s.size:Int)) (ek s x k n ok t):=by
 rw [BS]
 refine En.not (fun _=>.some (fun h=>by cases h)) fun ho=>?_
 have:=h3 ho
 have h2:=h2 ho
 rw [al (by omega) (by omega)]
 refine En.gd h1 (En.gd (by omega) (En.gd this (.some fun _=>⟨⟨?_,fun hk=>?_⟩,h4,by show x < x+n;omega,this⟩)))
 ·show (ByteArray.extract s _ _).size≤8000
  rw [ByteArray.size_extract];omega
 ·have:=h5 hk
  show (ByteArray.extract s _ _).size = 11
  rw [ByteArray.size_extract];omega
theorem TT (s:ByteArray) (hs:s.size≤8000) (x:Int) (h1:0≤x) (h2:x≤s.size):En (fun r=>r.2.2 = 0→r.1.Kind = 0∨(ud r.1∧x < r.2.1∧r.2.1≤(s.size:Int))) (A8 s x):=by
 have e:∀ x y,(ByteArray.extract s x y).size≤8000:=fun x y=>by rw [ByteArray.size_extract];omega
 rw [Kw]
 refine En.or (fun _=>.some (fun h=>by cases h)) fun _ _=>?_
 rw [Lh]
 refine En.bind (TI s hs s.size x false (by omega) h1 h2) fun y hy=>?_
 obtain ⟨hy1,hy2⟩:=hy
 refine En.ifi (fun _=>.some (fun _=>.inl rfl)) fun hne=>?_
 have hy3:y < s.size:=by omega
 have hy0:0≤y:=by omega
 have fin:∀ k n ok,(ok = true→0 < n)→(ok = true→y+n≤s.size)→k≠0→(k = 3→n = 11)→En (fun r=>r.2.2 = 0→r.1.Kind = 0∨(ud r.1∧x < r.2.1∧r.2.1≤(s.size:Int))) (ek s y k n ok (⟨0,(ac []),0⟩:GToken)):=fun k n ok g1 g2 g3 g4 =>
  (PC s hs y k n ok _ hy0 g1 g2 g3 g4).weak fun r hr h0=>by obtain ⟨a,b,c,d⟩:=hr h0;exact .inr ⟨a,by omega,d⟩
 refine En.gd hy0 (En.gd hy3 ?_)
 rw [IE,Option.bind_some]
 refine En.bif (fun hl=>En.bind (QS s hs y false hy0 hy3 (.inl hl)) fun n hn=>fin _ _ _ (fun _=>by omega) (fun _=>hn.2) (by omega) (by omega)) fun _=>En.gd hy0 (En.gd hy3 ?_)
 rw [LK,Option.bind_some]
 refine En.bif (fun hl=>En.bind (QS s hs y true hy0 hy3 (.inr hl)) fun n hn=>?_) fun _=>En.gd hy0 (En.gd hy3 ?_)
 ·rw [al (by omega) (by omega)]
  exact En.gd hy0 (En.gd (by omega) (En.gd hn.2 (En.bind (Me _ (e _ _)) fun r _=>fin _ _ _ (fun _=>by omega) (fun _=>hn.2) (by omega) (by omega))))
 ·refine En.ifi (fun _=>?_) fun _=>En.bind (TU s hs y hy0 hy3) fun n hn=>fin _ _ _ (fun h=>dJ h) (fun _=>hn.2) (by omega) (by omega)
  rw [al (n:=(s.size:Int) - y) (by omega) (by omega)]
  refine En.ifd (fun h=>?_) fun h=>fin _ _ _ (fun h'=>absurd (dJ h') h) (fun h'=>absurd (dJ h') h) (by omega) (fun _=>rfl)
  rw [al (n:=y+1) (by omega) (by omega),al (n:=y+11) (by omega) (by omega)]
  exact En.gd (by omega) (En.gd (by omega) (En.gd (by omega) (En.bind (CA _ (e _ _)) fun r _=>fin _ _ _ (fun _=>by omega) (fun _=>by omega) (by omega) (fun _=>rfl))))
theorem U6 (s:ByteArray):En (fun r=>r.2.2 = 0→r.1.length≤8000∧∀ t∈r.1,ud t) (DW s):=by
 rw [Nq]
 refine En.ifd (fun _=>.some (fun h=>by cases h)) fun h=>?_
 have hs:s.size≤8000:=by omega
 have key:∀ (k:Nat) (x:Int) (out:List GToken),(s.size:Int) - x < k→0≤x→x≤s.size→(out.length:Int)≤x→(∀ t∈out,ud t)→En (fun r=>r.2.2 = 0→r.1.length≤8000∧∀ t∈r.1,ud t) (om s x out):=by
  intro k
  induction k with
  | zero=>intro x out h0 h1 h2;omega
  | succ k ih =>
   intro x out h0 h1 h2 h3 h4
   rw [FN]
   refine En.bind (TT s hs x h1 h2) fun r hr=>En.ifn (fun hne=>.some (fun h0=>absurd h0 hne)) fun h0=>En.ifi (fun _=>.some (fun _=>⟨by show out.length≤8000;omega,h4⟩)) fun hk=>?_
   rcases hr h0 with h5 | ⟨h5,h6,h7⟩
   ·exact absurd h5 hk
   ·refine En.gd (by omega) (En.gd (by omega) (ih _ _ (by omega) (by omega) h7 (by rw [List.length_append];simp;omega) fun t ht=>?_))
    rcases List.mem_append.1 ht with ht | ht
    ·exact h4 t ht
    ·simp at ht;subst ht;exact h5
 exact key (s.size+1) 0 [] (by omega) (by omega) (by omega) (by simp) (fun t ht=>by simp at ht)
end Go.Ax
