import Derived.Test.YtokecajedkojlaaGreatZE
import Derived.Test.YtokecajedkojlaaGreatZP0
set_option linter.all false
/- The reading of tokens ends. -/
set_option maxRecDepth 100000
namespace Go.Ax
theorem OR (s:ByteArray) (hs:s.size≤8000):∀ (n:Nat) (x:Int) (c:Bool),(s.size:Int) - x≤n→0≤x→x≤s.size→En (fun y=>x≤y∧y≤s.size) (e8 s x c):=by
  intro n
  induction n with
  | zero =>
    intro x c h0 h1 h2
    rw [qp]
    refine En.ifd (fun h=>by omega) (fun h=>.some ⟨by omega,h2⟩)
  | succ n ih =>
    intro x c h0 h1 h2
    rw [qp]
    refine En.ifd (fun h=>?_) (fun h=>.some ⟨by omega,h2⟩)
    rw [ak (by omega) (by omega)]
    refine En.gd h1 (En.gd h ?_)
    have key:∀ c',En (fun y=>x≤y∧y≤s.size) (e8 s (x+1) c'):=fun c'=>(ih (x+1) c' (by omega) (by omega) (by omega)).weak fun y hy=>⟨by omega,hy.2⟩
    refine En.bif (fun _=>key _) fun _=>En.bif (fun _=>key _) fun _=>En.bif (fun _=>.some ⟨by omega,h2⟩) fun _=>key _
def Qh (c:Int):Bool:=bif aa (97≤c) then aa (c≤122) else false
def Qf (c:Int):Bool:=bif aa (48≤c) then aa (c≤57) else false
theorem EZ (c:Int):jn c = some (Qh c):=tK c
theorem HY (c:Int):iK c = some (Qf c):=wo c
theorem Fo (c:Int):En (fun _=>True) (jn c):=by rw [tK]; exact .some trivial
theorem A4 (c:Int):En (fun _=>True) (iK c):=by rw [wo]; exact .some trivial
theorem OF (s:ByteArray) (hs:s.size≤8000) (x:Int) (p:Bool) (h1:0≤x):∀ (k:Nat) (n:Int),(s.size:Int) - x - n≤k→0≤n→x+n≤s.size→En (fun y=>n≤y∧x+y≤s.size) (fx s x p n):=by
  intro k
  induction k with
  | zero =>
    intro n h0 h3 h4
    rw [mr,ak (by omega) (by omega)]
    exact En.ifd (fun h=>by omega) (fun h=>.some ⟨Int.le_refl _,h4⟩)
  | succ k ih =>
    intro n h0 h3 h4
    rw [mr,ak (n:=x+n) (by omega) (by omega),ak (n:=n+1) (by omega) (by omega)]
    refine En.ifd (fun h=>?_) (fun h=>.some ⟨Int.le_refl _,h4⟩)
    have g:=(ih (n+1) (by omega) (by omega) (by omega)).weak (Q':=fun y=>n≤y∧x+y≤s.size) fun y hy=>⟨by omega,hy.2⟩
    have e:En (fun y=>n≤y∧x+y≤s.size) (some n):=.some ⟨Int.le_refl _,h4⟩
    refine En.gd (by omega) (En.gd h (En.bind (Fo _) fun _ _=>En.bif (fun _=>g) fun _=>En.gd (by omega) (En.gd h (En.bind (A4 _) fun _ _=>En.bif (fun _=>g) fun _=>En.gd (by omega) (En.gd h (En.bif (fun _=>g) fun _=>En.bif (fun _=>En.gd (by omega) (En.gd h (En.bif (fun _=>g) fun _=>e))) fun _=>e))))))
abbrev M1 (s:ByteArray) (x:Int):Int:=((UInt8.toNat (Array.getD s.data x.toNat (UInt8.ofNat 0))):Int)
theorem LH (s:ByteArray) (hs:s.size≤8000) (x:Int) (p:Bool) (h1:0≤x) (h2:x < s.size) (hl:Qh (M1 s x) = true∨Qf (M1 s x) = true):En (fun y=>1≤y∧x+y≤s.size) (vS s x p):=by
  rw [I6,mr,Int.add_zero,ak (n:=x) (by omega) (by omega),show ac (0+1) = 1 from rfl]
  have g:=OF s hs x p h1 8000 1 (by omega) (by omega) (by omega)
  refine En.ifd (fun h=>En.gd h1 (En.gd h ?_)) fun h=>by omega
  rw [EZ,Option.bind_some]
  refine En.bif (fun _=>g) fun h3=>En.gd h1 (En.gd h ?_)
  rw [HY,Option.bind_some]
  refine En.bif (fun _=>g) fun h4=>?_
  rw [h3,h4] at hl
  simp at hl
theorem Mt (dim:Int) (a b:ByteArray) (ha:a.size≤8000) (hb:b.size≤4):∀ (n:Nat) (i:Int),(a.size:Int)+b.size - i≤n→0≤i→En (fun r=>r.2.2.2 = true→r.1 = a∧r.2.1 = b) (iE dim a b i):=by
  intro n
  induction n with
  | zero =>
    intro i h0 h1
    rw [m6,ak (n:=(a.size:Int)+b.size) (by omega) (by omega)]
    refine En.ifd (fun h=>by omega) fun h=>?_
    refine En.gb (Bool.or_true _) (En.go (fun h=>?_) (En.bif (fun _=>.some (fun h=>by cases h)) fun _=>.some fun _=>⟨rfl,rfl⟩))
    simp at h; omega
  | succ n ih =>
    intro i h0 h1
    rw [m6,ak (n:=(a.size:Int)+b.size) (by omega) (by omega)]
    refine En.ifd (fun h=>?_) fun h=>?_
    · rw [ak (by omega) (by omega)]
      refine En.gd (by omega) (En.gd h1 (En.gd (by rw [ByteArray.size_append]; omega) (En.bind (A4 _) fun _ _=>En.not (fun _=>.some (fun h=>by cases h)) fun _=>ih _ (by omega) (by omega))))
    · refine En.gb (Bool.or_true _) (En.go (fun h=>?_) (En.bif (fun _=>.some (fun h=>by cases h)) fun _=>.some fun _=>⟨rfl,rfl⟩))
      simp at h; omega
def yH (r:ByteArray × ByteArray × Int × Bool):Prop:=r.2.2.2 = true→r.1.size≤8000∧r.2.1.size≤4
theorem ol (dim:Int) (a b:ByteArray) (ha:a.size≤8000) (hb:b.size≤4):En yH (jK dim a b):=by
  rw [yt]
  refine (Mt dim a b ha hb (a.size+b.size) 0 (by omega) (by omega)).weak fun r h hr=>?_
  obtain ⟨h1,h2⟩:=h hr
  rw [h1,h2]; exact ⟨ha,hb⟩
theorem Js (s:ByteArray) (hs:s.size≤8000) (dim:Int):∀ (n:Nat) (x i:Int),i < n→-1≤i→i < s.size→0≤x→x≤s.size→En yH (gg s dim x i):=by
  intro n
  induction n with
  | zero =>
    intro x i h0 h1 h2 h3 h4
    rw [o0]
    refine En.ifd (fun h=>by omega) fun h=>En.gd h3 (En.gd h4 (En.ifd (fun h5=>?_) fun h5=>ol _ _ _ (by rw [ByteArray.size_extract]; omega) (by rw [ap]; simp)))
    rw [ak (by omega) (by omega)]
    refine En.gd (by omega) (En.gd (by omega) (En.gd (Int.le_refl _) (En.or (fun _=>.some (fun h=>by cases h)) fun g1 g2=>ol _ _ _ (by rw [ByteArray.size_extract]; omega) ?_)))
    have:=qj g2
    omega
  | succ n ih =>
    intro x i h0 h1 h2 h3 h4
    rw [o0]
    refine En.ifd (fun h=>?_) fun h=>En.gd h3 (En.gd h4 (En.ifd (fun h5=>?_) fun h5=>ol _ _ _ (by rw [ByteArray.size_extract]; omega) (by rw [ap]; simp)))
    · rw [ak (by omega) (by omega)]
      exact En.gd h (En.gd h2 (En.bif (fun _=>ih _ _ (by omega) (by omega) (by omega) h (by omega)) fun _=>ih _ _ (by omega) (by omega) (by omega) h3 h4))
    · rw [ak (by omega) (by omega)]
      refine En.gd (by omega) (En.gd (by omega) (En.gd (Int.le_refl _) (En.or (fun _=>.some (fun h=>by cases h)) fun g1 g2=>ol _ _ _ (by rw [ByteArray.size_extract]; omega) ?_)))
      have:=qj g2
      omega
theorem uC (s:ByteArray) (hs:s.size≤8000) (dim:Int):En yH (hU s dim):=by
  rw [yW,ak (by omega) (by omega)]
  exact Js s hs dim (s.size+1) _ _ (by omega) (by omega) (by omega) (by omega) (by omega)
theorem GV (s:ByteArray) (hs:s.size≤8000):En yH (p9 s):=by
  rw [FL,ak (by omega) (by omega)]
  have g:(aa (0 < (s.size:Int))&&true) = true→0 < (s.size:Int):=fun h=>by simpa using h
  have e:∀ x y,(ByteArray.extract s x y).size≤8000:=fun x y=>by rw [ByteArray.size_extract]; omega
  refine En.go (fun h=>?_) (En.go (fun h=>?_) (En.and (fun h _=>?_) fun _=>?_))
  · have:=g h; omega
  · have:=g h; omega
  · have:=aD h
    exact En.gd (by omega) (En.gd (by omega) (uC _ (e _ _) _))
  · refine En.go (fun h=>?_) (En.go (fun h=>?_) (En.and (fun h _=>?_) fun _=>uC _ hs _))
    · have:=g h; omega
    · have:=g h; omega
    · have:=aD h
      exact En.gd (by omega) (En.gd (by omega) (uC _ (e _ _) _))
theorem Lk (b:Bool):En (fun n=>n = 0∨n = 1) (aX b):=by
  rw [zf]
  exact En.bif (fun _=>.some (.inr rfl)) fun _=>.some (.inl rfl)
theorem M6 (s:ByteArray) (x:Int) (h1:0≤x) (h2:x < s.size):En (fun n=>n = 0∨n = 1) (mw s x):=by
  rw [BA]
  refine En.gd h1 (En.gd h2 ?_)
  repeat' first | exact Lk _ | refine En.bif (fun _=>?_) (fun _=>?_)
theorem O6 (s:ByteArray) (hs:s.size≤8000) (x:Int) (h1:0≤x) (h2:x < s.size):En (fun n=>0≤n∧x+n≤s.size) (yg s x):=by
  have g:=(M6 s x h1 h2).weak (Q':=fun n=>0≤n∧x+n≤s.size) fun n h=>by omega
  rw [IU,ak (n:=x+1) (by omega) (by omega)]
  refine En.ifd (fun h=>?_) fun _=>g
  rw [ak (by omega) (by omega)]
  exact En.gd h1 (En.gd (by omega) (En.gd (by omega) (En.bif (fun _=>.some ⟨by omega,by omega⟩) fun _=>g)))
theorem A0 (s:ByteArray) (hs:s.size≤8000):En (fun r=>-9223372036854775808≤r.1∧r.1≤9223372036854775807) (mo s):=by
  rw [FW]
  have key:∀ (k:Nat) (n i:Int),(s.size:Int) - i≤k→0≤i→(-9223372036854775808≤n∧n≤9223372036854775807)→En (fun r=>-9223372036854775808≤r.1∧r.1≤9223372036854775807) (kL s n i):=by
    intro k
    induction k with
    | zero =>
      intro n i h0 h1 h2
      rw [pG]
      exact En.ifd (fun h=>by omega) fun _=>.some h2
    | succ k ih =>
      intro n i h0 h1 h2
      rw [pG]
      refine En.ifd (fun h=>?_) fun _=>.some h2
      rw [ak (n:=i+1) (by omega) (by omega)]
      exact En.gd h1 (En.gd h (En.go (fun _=>h1) (En.go (fun _=>h) (En.bif (fun _=>.some ⟨by omega,by omega⟩) fun _=>En.gd h1 (En.gd h (ih _ _ (by omega) (by omega) (DS _)))))))
  exact key s.size 0 0 (by omega) (by omega) ⟨by omega,by omega⟩
theorem O4 (y:Int):En (fun _=>True) (x0 y):=by
  rw [Ir]
  exact En.gb (Bool.or_true _) (En.gb (Bool.or_true _) (.some trivial))
theorem ER (y m:Int):En (fun r=>28≤r∧r≤31) (ot y m):=by
  rw [Eo]
  refine En.bif (fun _=>En.bind (O4 y) fun _ _=>?_) fun _=>?_
  · exact En.bif (fun _=>.some ⟨by omega,by omega⟩) fun _=>.some ⟨by omega,by omega⟩
  · repeat' first | exact .some ⟨by omega,by omega⟩ | refine En.bif (fun _=>?_) (fun _=>?_)
theorem NL (m:Int) (hm:m≤100000):En (fun _=>True) (uw m):=by
  rw [FH]
  have key:∀ (k:Nat) (n i:Int),m - i≤k→0≤i→En (fun _=>True) (kQ m n i):=by
    intro k
    induction k with
    | zero =>
      intro n i h0 h1
      rw [pI]
      exact En.ifd (fun h=>by omega) fun _=>.some trivial
    | succ k ih =>
      intro n i h0 h1
      rw [pI]
      refine En.ifd (fun h=>En.bind (ER _ _) fun r _=>?_) fun _=>.some trivial
      rw [ak (n:=i+1) (by omega) (by omega)]
      exact ih _ _ (by omega) (by omega)
  exact key m.toNat 0 0 (by omega) (by omega)
theorem PC (y m d:Int):En (fun _=>True) (AT y m d):=by
  rw [JE]
  refine En.ifd (fun _=>.some trivial) fun h1=>En.ifd (fun _=>.some trivial) fun h2=>En.ifd (fun _=>.some trivial) fun h3=>En.ifd (fun _=>.some trivial) fun h4=>En.ifd (fun _=>.some trivial) fun h5=>?_
  refine En.bind (ER _ _) fun r _=>En.ifd (fun _=>.some trivial) fun _=>?_
  rw [ak (n:=y - 1900) (by omega) (by omega),ak (n:=(y - 1900)*12) (by omega) (by omega),ak (n:=(y - 1900)*12+m) (by omega) (by omega),ak (n:=(y - 1900)*12+m - 1) (by omega) (by omega)]
  exact En.bind (NL _ (by omega)) fun _ _=>.some trivial
theorem zp (s:ByteArray) (hs:s.size≤8000):En (fun _=>True) (lL s):=by
  have e:∀ x y,(ByteArray.extract s x y).size≤8000:=fun x y=>by rw [ByteArray.size_extract]; omega
  rw [Bc]
  have g1:∀ {c:Bool},((!(bn (s.size:Int) 10))&&true) = c→c = true→(s.size:Int) = 10:=fun h1 h2=>by subst h1; simpa [bn] using h2
  refine En.gb (Bool.or_true _) (En.go (fun h=>?_) (En.gb (Bool.or_true _) (En.go (fun h=>?_) (En.bif (fun _=>.some trivial) fun h=>?_))))
  · have:=g1 rfl h; omega
  · simp [bn,gf] at h; omega
  · simp [bn,gf] at h
    have h10:s.size = 10:=by omega
    exact En.gd (by omega) (En.bind (A0 _ (e _ _)) fun _ _=>En.gd (by omega) (En.bind (A0 _ (e _ _)) fun _ _=>En.gd (by omega) (En.gd (by omega) (En.bind (A0 _ (e _ _)) fun _ _=>En.bif (fun _=>.some trivial) fun _=>En.bind (PC _ _ _) fun _ _=>.some trivial))))
def sB (t:GToken):Prop:=t.Text.size≤8000∧(t.Kind = 3→t.Text.size = 11)
theorem Ll (s:ByteArray) (hs:s.size≤8000) (x k n:Int) (ok:Bool) (t:GToken) (h1:0≤x) (h2:ok = true→0 < n) (h3:ok = true→x+n≤s.size) (h4:k≠0) (h5:k = 3→n = 11) :
    En (fun r=>r.2.2 = 0→sB r.1∧r.1.Kind≠0∧x < r.2.1∧r.2.1≤(s.size:Int)) (dq s x k n ok t):=by
  rw [yR]
  refine En.not (fun _=>.some (fun h=>by cases h)) fun ho=>?_
  have:=h3 ho
  have h2:=h2 ho
  rw [ak (by omega) (by omega)]
  refine En.gd h1 (En.gd (by omega) (En.gd this (.some fun _=>⟨⟨?_,fun hk=>?_⟩,h4,by show x < x+n; omega,this⟩)))
  · show (ByteArray.extract s _ _).size≤8000
    rw [ByteArray.size_extract]; omega
  · have:=h5 hk
    show (ByteArray.extract s _ _).size = 11
    rw [ByteArray.size_extract]; omega
theorem O7 (s:ByteArray) (hs:s.size≤8000) (x:Int) (h1:0≤x) (h2:x≤s.size):En (fun r=>r.2.2 = 0→r.1.Kind = 0∨(sB r.1∧x < r.2.1∧r.2.1≤(s.size:Int))) (wZ s x):=by
  have e:∀ x y,(ByteArray.extract s x y).size≤8000:=fun x y=>by rw [ByteArray.size_extract]; omega
  rw [Hm]
  refine En.or (fun _=>.some (fun h=>by cases h)) fun _ _=>?_
  rw [GK]
  refine En.bind (OR s hs s.size x false (by omega) h1 h2) fun y hy=>?_
  obtain ⟨hy1,hy2⟩:=hy
  refine En.ifi (fun _=>.some (fun _=>.inl rfl)) fun hne=>?_
  have hy3:y < s.size:=by omega
  have hy0:0≤y:=by omega
  have fin:∀ k n ok,(ok = true→0 < n)→(ok = true→y+n≤s.size)→k≠0→(k = 3→n = 11)→En (fun r=>r.2.2 = 0→r.1.Kind = 0∨(sB r.1∧x < r.2.1∧r.2.1≤(s.size:Int))) (dq s y k n ok (⟨0,(ab []),0⟩:GToken)):=fun k n ok g1 g2 g3 g4 =>
    (Ll s hs y k n ok _ hy0 g1 g2 g3 g4).weak fun r hr h0=>by obtain ⟨a,b,c,d⟩:=hr h0; exact .inr ⟨a,by omega,d⟩
  refine En.gd hy0 (En.gd hy3 ?_)
  rw [EZ,Option.bind_some]
  refine En.bif (fun hl=>En.bind (LH s hs y false hy0 hy3 (.inl hl)) fun n hn=>fin _ _ _ (fun _=>by omega) (fun _=>hn.2) (by omega) (by omega)) fun _=>En.gd hy0 (En.gd hy3 ?_)
  rw [HY,Option.bind_some]
  refine En.bif (fun hl=>En.bind (LH s hs y true hy0 hy3 (.inr hl)) fun n hn=>?_) fun _=>En.gd hy0 (En.gd hy3 ?_)
  · rw [ak (by omega) (by omega)]
    exact En.gd hy0 (En.gd (by omega) (En.gd hn.2 (En.bind (GV _ (e _ _)) fun r _=>fin _ _ _ (fun _=>by omega) (fun _=>hn.2) (by omega) (by omega))))
  · refine En.ifi (fun _=>?_) fun _=>En.bind (O6 s hs y hy0 hy3) fun n hn=>fin _ _ _ (fun h=>aD h) (fun _=>hn.2) (by omega) (by omega)
    rw [ak (n:=(s.size:Int) - y) (by omega) (by omega)]
    refine En.ifd (fun h=>?_) fun h=>fin _ _ _ (fun h'=>absurd (aD h') h) (fun h'=>absurd (aD h') h) (by omega) (fun _=>rfl)
    rw [ak (n:=y+1) (by omega) (by omega),ak (n:=y+11) (by omega) (by omega)]
    exact En.gd (by omega) (En.gd (by omega) (En.gd (by omega) (En.bind (zp _ (e _ _)) fun r _=>fin _ _ _ (fun _=>by omega) (fun _=>by omega) (by omega) (fun _=>rfl))))
theorem Py (s:ByteArray):En (fun r=>r.2.2 = 0→r.1.length≤8000∧∀ t∈r.1,sB t) (zZ s):=by
  rw [JB]
  refine En.ifd (fun _=>.some (fun h=>by cases h)) fun h=>?_
  have hs:s.size≤8000:=by omega
  have key:∀ (k:Nat) (x:Int) (out:List GToken),(s.size:Int) - x < k→0≤x→x≤s.size→(out.length:Int)≤x→(∀ t∈out,sB t)→En (fun r=>r.2.2 = 0→r.1.length≤8000∧∀ t∈r.1,sB t) (mC s x out):=by
    intro k
    induction k with
    | zero=>intro x out h0 h1 h2; omega
    | succ k ih =>
      intro x out h0 h1 h2 h3 h4
      rw [Ce]
      refine En.bind (O7 s hs x h1 h2) fun r hr=>En.ifn (fun hne=>.some (fun h0=>absurd h0 hne)) fun h0=>En.ifi (fun _=>.some (fun _=>⟨by show out.length≤8000; omega,h4⟩)) fun hk=>?_
      rcases hr h0 with h5 | ⟨h5,h6,h7⟩
      · exact absurd h5 hk
      · refine En.gd (by omega) (En.gd (by omega) (ih _ _ (by omega) (by omega) h7 (by rw [List.length_append]; simp; omega) fun t ht=>?_))
        rcases List.mem_append.1 ht with ht | ht
        · exact h4 t ht
        · simp at ht; subst ht; exact h5
  exact key (s.size+1) 0 [] (by omega) (by omega) (by omega) (by simp) (fun t ht=>by simp at ht)
end Go.Ax
