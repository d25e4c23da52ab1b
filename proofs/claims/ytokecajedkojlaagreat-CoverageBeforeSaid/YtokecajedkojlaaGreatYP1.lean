import Derived.Test.YtokecajedkojlaaGreatYE
import Derived.Test.YtokecajedkojlaaGreatYP0
set_option linter.all false
/- The reading of tokens ends. -/
set_option maxRecDepth 100000
namespace Go.Ax
theorem Oi (s:ByteArray) (hs:s.size≤8000):∀ (n:Nat) (x:Int) (c:Bool),(s.size:Int) - x≤n→0≤x→x≤s.size→En (fun y=>x≤y∧y≤s.size) (eM s x c):=by
  intro n
  induction n with
  | zero =>
    intro x c h0 h1 h2
    rw [qf]
    refine En.ifd (fun h=>by omega) (fun h=>.some ⟨by omega,h2⟩)
  | succ n ih =>
    intro x c h0 h1 h2
    rw [qf]
    refine En.ifd (fun h=>?_) (fun h=>.some ⟨by omega,h2⟩)
    rw [ak (by omega) (by omega)]
    refine En.gd h1 (En.gd h ?_)
    have key:∀ c',En (fun y=>x≤y∧y≤s.size) (eM s (x+1) c'):=fun c'=>(ih (x+1) c' (by omega) (by omega) (by omega)).weak fun y hy=>⟨by omega,hy.2⟩
    refine En.bif (fun _=>key _) fun _=>En.bif (fun _=>key _) fun _=>En.bif (fun _=>.some ⟨by omega,h2⟩) fun _=>key _
def Pw (c:Int):Bool:=bif aa (97≤c) then aa (c≤122) else false
def Pt (c:Int):Bool:=bif aa (48≤c) then aa (c≤57) else false
theorem DO (c:Int):jj c = some (Pw c):=sS c
theorem HT (c:Int):iC c = some (Pt c):=vq c
theorem EH (c:Int):En (fun _=>True) (jj c):=by rw [sS]; exact .some trivial
theorem zV (c:Int):En (fun _=>True) (iC c):=by rw [vq]; exact .some trivial
theorem N4 (s:ByteArray) (hs:s.size≤8000) (x:Int) (p:Bool) (h1:0≤x):∀ (k:Nat) (n:Int),(s.size:Int) - x - n≤k→0≤n→x+n≤s.size→En (fun y=>n≤y∧x+y≤s.size) (fA s x p n):=by
  intro k
  induction k with
  | zero =>
    intro n h0 h3 h4
    rw [l4,ak (by omega) (by omega)]
    exact En.ifd (fun h=>by omega) (fun h=>.some ⟨Int.le_refl _,h4⟩)
  | succ k ih =>
    intro n h0 h3 h4
    rw [l4,ak (n:=x+n) (by omega) (by omega),ak (n:=n+1) (by omega) (by omega)]
    refine En.ifd (fun h=>?_) (fun h=>.some ⟨Int.le_refl _,h4⟩)
    have g:=(ih (n+1) (by omega) (by omega) (by omega)).weak (Q':=fun y=>n≤y∧x+y≤s.size) fun y hy=>⟨by omega,hy.2⟩
    have e:En (fun y=>n≤y∧x+y≤s.size) (some n):=.some ⟨Int.le_refl _,h4⟩
    refine En.gd (by omega) (En.gd h (En.bind (EH _) fun _ _=>En.bif (fun _=>g) fun _=>En.gd (by omega) (En.gd h (En.bind (zV _) fun _ _=>En.bif (fun _=>g) fun _=>En.gd (by omega) (En.gd h (En.bif (fun _=>g) fun _=>En.bif (fun _=>En.gd (by omega) (En.gd h (En.bif (fun _=>g) fun _=>e))) fun _=>e))))))
abbrev LN (s:ByteArray) (x:Int):Int:=((UInt8.toNat (Array.getD s.data x.toNat (UInt8.ofNat 0))):Int)
theorem Lw (s:ByteArray) (hs:s.size≤8000) (x:Int) (p:Bool) (h1:0≤x) (h2:x < s.size) (hl:Pw (LN s x) = true∨Pt (LN s x) = true):En (fun y=>1≤y∧x+y≤s.size) (tG s x p):=by
  rw [Ih,l4,Int.add_zero,ak (n:=x) (by omega) (by omega),show ac (0+1) = 1 from rfl]
  have g:=N4 s hs x p h1 8000 1 (by omega) (by omega) (by omega)
  refine En.ifd (fun h=>En.gd h1 (En.gd h ?_)) fun h=>by omega
  rw [DO,Option.bind_some]
  refine En.bif (fun _=>g) fun h3=>En.gd h1 (En.gd h ?_)
  rw [HT,Option.bind_some]
  refine En.bif (fun _=>g) fun h4=>?_
  rw [h3,h4] at hl
  simp at hl
theorem LQ (dim:Int) (a b:ByteArray) (ha:a.size≤8000) (hb:b.size≤4):∀ (n:Nat) (i:Int),(a.size:Int)+b.size - i≤n→0≤i→En (fun r=>r.2.2.2 = true→r.1 = a∧r.2.1 = b) (iw dim a b i):=by
  intro n
  induction n with
  | zero =>
    intro i h0 h1
    rw [mB,ak (n:=(a.size:Int)+b.size) (by omega) (by omega)]
    refine En.ifd (fun h=>by omega) fun h=>?_
    refine En.gb (Bool.or_true _) (En.go (fun h=>?_) (En.bif (fun _=>.some (fun h=>by cases h)) fun _=>.some fun _=>⟨rfl,rfl⟩))
    simp at h; omega
  | succ n ih =>
    intro i h0 h1
    rw [mB,ak (n:=(a.size:Int)+b.size) (by omega) (by omega)]
    refine En.ifd (fun h=>?_) fun h=>?_
    · rw [ak (by omega) (by omega)]
      refine En.gd (by omega) (En.gd h1 (En.gd (by rw [ByteArray.size_append]; omega) (En.bind (zV _) fun _ _=>En.not (fun _=>.some (fun h=>by cases h)) fun _=>ih _ (by omega) (by omega))))
    · refine En.gb (Bool.or_true _) (En.go (fun h=>?_) (En.bif (fun _=>.some (fun h=>by cases h)) fun _=>.some fun _=>⟨rfl,rfl⟩))
      simp at h; omega
def xN (r:ByteArray × ByteArray × Int × Bool):Prop:=r.2.2.2 = true→r.1.size≤8000∧r.2.1.size≤4
theorem nN (dim:Int) (a b:ByteArray) (ha:a.size≤8000) (hb:b.size≤4):En xN (ju dim a b):=by
  rw [wH]
  refine (LQ dim a b ha hb (a.size+b.size) 0 (by omega) (by omega)).weak fun r h hr=>?_
  obtain ⟨h1,h2⟩:=h hr
  rw [h1,h2]; exact ⟨ha,hb⟩
theorem Id (s:ByteArray) (hs:s.size≤8000) (dim:Int):∀ (n:Nat) (x i:Int),i < n→-1≤i→i < s.size→0≤x→x≤s.size→En xN (fP s dim x i):=by
  intro n
  induction n with
  | zero =>
    intro x i h0 h1 h2 h3 h4
    rw [oh]
    refine En.ifd (fun h=>by omega) fun h=>En.gd h3 (En.gd h4 (En.ifd (fun h5=>?_) fun h5=>nN _ _ _ (by rw [ByteArray.size_extract]; omega) (by rw [ap]; simp)))
    rw [ak (by omega) (by omega)]
    refine En.gd (by omega) (En.gd (by omega) (En.gd (Int.le_refl _) (En.or (fun _=>.some (fun h=>by cases h)) fun g1 g2=>nN _ _ _ (by rw [ByteArray.size_extract]; omega) ?_)))
    have:=pM g2
    omega
  | succ n ih =>
    intro x i h0 h1 h2 h3 h4
    rw [oh]
    refine En.ifd (fun h=>?_) fun h=>En.gd h3 (En.gd h4 (En.ifd (fun h5=>?_) fun h5=>nN _ _ _ (by rw [ByteArray.size_extract]; omega) (by rw [ap]; simp)))
    · rw [ak (by omega) (by omega)]
      exact En.gd h (En.gd h2 (En.bif (fun _=>ih _ _ (by omega) (by omega) (by omega) h (by omega)) fun _=>ih _ _ (by omega) (by omega) (by omega) h3 h4))
    · rw [ak (by omega) (by omega)]
      refine En.gd (by omega) (En.gd (by omega) (En.gd (Int.le_refl _) (En.or (fun _=>.some (fun h=>by cases h)) fun g1 g2=>nN _ _ _ (by rw [ByteArray.size_extract]; omega) ?_)))
      have:=pM g2
      omega
theorem tC (s:ByteArray) (hs:s.size≤8000) (dim:Int):En xN (gT s dim):=by
  rw [yp,ak (by omega) (by omega)]
  exact Id s hs dim (s.size+1) _ _ (by omega) (by omega) (by omega) (by omega) (by omega)
theorem HR (s:ByteArray) (hs:s.size≤8000):En xN (pz s):=by
  rw [E5,ak (by omega) (by omega)]
  have g:(aa (0 < (s.size:Int))&&true) = true→0 < (s.size:Int):=fun h=>by simpa using h
  have e:∀ x y,(ByteArray.extract s x y).size≤8000:=fun x y=>by rw [ByteArray.size_extract]; omega
  refine En.go (fun h=>?_) (En.go (fun h=>?_) (En.and (fun h _=>?_) fun _=>?_))
  · have:=g h; omega
  · have:=g h; omega
  · have:=aE h
    exact En.gd (by omega) (En.gd (by omega) (tC _ (e _ _) _))
  · refine En.go (fun h=>?_) (En.go (fun h=>?_) (En.and (fun h _=>?_) fun _=>tC _ hs _))
    · have:=g h; omega
    · have:=g h; omega
    · have:=aE h
      exact En.gd (by omega) (En.gd (by omega) (tC _ (e _ _) _))
theorem JA (b:Bool):En (fun n=>n = 0∨n = 1) (aV b):=by
  rw [x0]
  exact En.bif (fun _=>.some (.inr rfl)) fun _=>.some (.inl rfl)
theorem MJ (s:ByteArray) (x:Int) (h1:0≤x) (h2:x < s.size):En (fun n=>n = 0∨n = 1) (my s x):=by
  rw [Bq]
  refine En.gd h1 (En.gd h2 ?_)
  repeat' first | exact JA _ | refine En.bif (fun _=>?_) (fun _=>?_)
theorem NQ (s:ByteArray) (hs:s.size≤8000) (x:Int) (h1:0≤x) (h2:x < s.size):En (fun n=>0≤n∧x+n≤s.size) (v8 s x):=by
  have g:=(MJ s x h1 h2).weak (Q':=fun n=>0≤n∧x+n≤s.size) fun n h=>by omega
  rw [GN,ak (n:=x+1) (by omega) (by omega)]
  refine En.ifd (fun h=>?_) fun _=>g
  rw [ak (by omega) (by omega)]
  exact En.gd h1 (En.gd (by omega) (En.gd (by omega) (En.bif (fun _=>.some ⟨by omega,by omega⟩) fun _=>g)))
theorem zI (s:ByteArray) (hs:s.size≤8000):En (fun r=>-9223372036854775808≤r.1∧r.1≤9223372036854775807) (mc s):=by
  rw [EI]
  have key:∀ (k:Nat) (n i:Int),(s.size:Int) - i≤k→0≤i→(-9223372036854775808≤n∧n≤9223372036854775807)→En (fun r=>-9223372036854775808≤r.1∧r.1≤9223372036854775807) (kj s n i):=by
    intro k
    induction k with
    | zero =>
      intro n i h0 h1 h2
      rw [o8]
      exact En.ifd (fun h=>by omega) fun _=>.some h2
    | succ k ih =>
      intro n i h0 h1 h2
      rw [o8]
      refine En.ifd (fun h=>?_) fun _=>.some h2
      rw [ak (n:=i+1) (by omega) (by omega)]
      exact En.gd h1 (En.gd h (En.go (fun _=>h1) (En.go (fun _=>h) (En.bif (fun _=>.some ⟨by omega,by omega⟩) fun _=>En.gd h1 (En.gd h (ih _ _ (by omega) (by omega) (C1 _)))))))
  exact key s.size 0 0 (by omega) (by omega) ⟨by omega,by omega⟩
theorem NK (y:Int):En (fun _=>True) (wI y):=by
  rw [FG]
  exact En.gb (Bool.or_true _) (En.gb (Bool.or_true _) (.some trivial))
theorem Eh (y m:Int):En (fun r=>28≤r∧r≤31) (nI y m):=by
  rw [CL]
  refine En.bif (fun _=>En.bind (NK y) fun _ _=>?_) fun _=>?_
  · exact En.bif (fun _=>.some ⟨by omega,by omega⟩) fun _=>.some ⟨by omega,by omega⟩
  · repeat' first | exact .some ⟨by omega,by omega⟩ | refine En.bif (fun _=>?_) (fun _=>?_)
theorem My (m:Int) (hm:m≤100000):En (fun _=>True) (u4 m):=by
  rw [ES]
  have key:∀ (k:Nat) (n i:Int),m - i≤k→0≤i→En (fun _=>True) (kx m n i):=by
    intro k
    induction k with
    | zero =>
      intro n i h0 h1
      rw [o4]
      exact En.ifd (fun h=>by omega) fun _=>.some trivial
    | succ k ih =>
      intro n i h0 h1
      rw [o4]
      refine En.ifd (fun h=>En.bind (Eh _ _) fun r _=>?_) fun _=>.some trivial
      rw [ak (n:=i+1) (by omega) (by omega)]
      exact ih _ _ (by omega) (by omega)
  exact key m.toNat 0 0 (by omega) (by omega)
theorem Oz (y m d:Int):En (fun _=>True) (z6 y m d):=by
  rw [Ip]
  refine En.ifd (fun _=>.some trivial) fun h1=>En.ifd (fun _=>.some trivial) fun h2=>En.ifd (fun _=>.some trivial) fun h3=>En.ifd (fun _=>.some trivial) fun h4=>En.ifd (fun _=>.some trivial) fun h5=>?_
  refine En.bind (Eh _ _) fun r _=>En.ifd (fun _=>.some trivial) fun _=>?_
  rw [ak (n:=y - 1900) (by omega) (by omega),ak (n:=(y - 1900)*12) (by omega) (by omega),ak (n:=(y - 1900)*12+m) (by omega) (by omega),ak (n:=(y - 1900)*12+m - 1) (by omega) (by omega)]
  exact En.bind (My _ (by omega)) fun _ _=>.some trivial
theorem yJ (s:ByteArray) (hs:s.size≤8000):En (fun _=>True) (lj s):=by
  have e:∀ x y,(ByteArray.extract s x y).size≤8000:=fun x y=>by rw [ByteArray.size_extract]; omega
  rw [zY]
  have g1:∀ {c:Bool},((!(bq (s.size:Int) 10))&&true) = c→c = true→(s.size:Int) = 10:=fun h1 h2=>by subst h1; simpa [bq] using h2
  refine En.gb (Bool.or_true _) (En.go (fun h=>?_) (En.gb (Bool.or_true _) (En.go (fun h=>?_) (En.bif (fun _=>.some trivial) fun h=>?_))))
  · have:=g1 rfl h; omega
  · simp [bq,fp] at h; omega
  · simp [bq,fp] at h
    have h10:s.size = 10:=by omega
    exact En.gd (by omega) (En.bind (zI _ (e _ _)) fun _ _=>En.gd (by omega) (En.bind (zI _ (e _ _)) fun _ _=>En.gd (by omega) (En.gd (by omega) (En.bind (zI _ (e _ _)) fun _ _=>En.bif (fun _=>.some trivial) fun _=>En.bind (Oz _ _ _) fun _ _=>.some trivial))))
def ro (t:GToken):Prop:=t.Text.size≤8000∧(t.Kind = 3→t.Text.size = 11)
theorem Kl (s:ByteArray) (hs:s.size≤8000) (x k n:Int) (ok:Bool) (t:GToken) (h1:0≤x) (h2:ok = true→0 < n) (h3:ok = true→x+n≤s.size) (h4:k≠0) (h5:k = 3→n = 11) :
    En (fun r=>r.2.2 = 0→ro r.1∧r.1.Kind≠0∧x < r.2.1∧r.2.1≤(s.size:Int)) (dh s x k n ok t):=by
  rw [yh]
  refine En.not (fun _=>.some (fun h=>by cases h)) fun ho=>?_
  have:=h3 ho
  have h2:=h2 ho
  rw [ak (by omega) (by omega)]
  refine En.gd h1 (En.gd (by omega) (En.gd this (.some fun _=>⟨⟨?_,fun hk=>?_⟩,h4,by show x < x+n; omega,this⟩)))
  · show (ByteArray.extract s _ _).size≤8000
    rw [ByteArray.size_extract]; omega
  · have:=h5 hk
    show (ByteArray.extract s _ _).size = 11
    rw [ByteArray.size_extract]; omega
theorem NW (s:ByteArray) (hs:s.size≤8000) (x:Int) (h1:0≤x) (h2:x≤s.size):En (fun r=>r.2.2 = 0→r.1.Kind = 0∨(ro r.1∧x < r.2.1∧r.2.1≤(s.size:Int))) (wx s x):=by
  have e:∀ x y,(ByteArray.extract s x y).size≤8000:=fun x y=>by rw [ByteArray.size_extract]; omega
  rw [Gm]
  refine En.or (fun _=>.some (fun h=>by cases h)) fun _ _=>?_
  rw [HC]
  refine En.bind (Oi s hs s.size x false (by omega) h1 h2) fun y hy=>?_
  obtain ⟨hy1,hy2⟩:=hy
  refine En.ifi (fun _=>.some (fun _=>.inl rfl)) fun hne=>?_
  have hy3:y < s.size:=by omega
  have hy0:0≤y:=by omega
  have fin:∀ k n ok,(ok = true→0 < n)→(ok = true→y+n≤s.size)→k≠0→(k = 3→n = 11)→En (fun r=>r.2.2 = 0→r.1.Kind = 0∨(ro r.1∧x < r.2.1∧r.2.1≤(s.size:Int))) (dh s y k n ok (⟨0,(ab []),0⟩:GToken)):=fun k n ok g1 g2 g3 g4 =>
    (Kl s hs y k n ok _ hy0 g1 g2 g3 g4).weak fun r hr h0=>by obtain ⟨a,b,c,d⟩:=hr h0; exact .inr ⟨a,by omega,d⟩
  refine En.gd hy0 (En.gd hy3 ?_)
  rw [DO,Option.bind_some]
  refine En.bif (fun hl=>En.bind (Lw s hs y false hy0 hy3 (.inl hl)) fun n hn=>fin _ _ _ (fun _=>by omega) (fun _=>hn.2) (by omega) (by omega)) fun _=>En.gd hy0 (En.gd hy3 ?_)
  rw [HT,Option.bind_some]
  refine En.bif (fun hl=>En.bind (Lw s hs y true hy0 hy3 (.inr hl)) fun n hn=>?_) fun _=>En.gd hy0 (En.gd hy3 ?_)
  · rw [ak (by omega) (by omega)]
    exact En.gd hy0 (En.gd (by omega) (En.gd hn.2 (En.bind (HR _ (e _ _)) fun r _=>fin _ _ _ (fun _=>by omega) (fun _=>hn.2) (by omega) (by omega))))
  · refine En.ifi (fun _=>?_) fun _=>En.bind (NQ s hs y hy0 hy3) fun n hn=>fin _ _ _ (fun h=>aE h) (fun _=>hn.2) (by omega) (by omega)
    rw [ak (n:=(s.size:Int) - y) (by omega) (by omega)]
    refine En.ifd (fun h=>?_) fun h=>fin _ _ _ (fun h'=>absurd (aE h') h) (fun h'=>absurd (aE h') h) (by omega) (fun _=>rfl)
    rw [ak (n:=y+1) (by omega) (by omega),ak (n:=y+11) (by omega) (by omega)]
    exact En.gd (by omega) (En.gd (by omega) (En.gd (by omega) (En.bind (yJ _ (e _ _)) fun r _=>fin _ _ _ (fun _=>by omega) (fun _=>by omega) (by omega) (fun _=>rfl))))
theorem On (s:ByteArray):En (fun r=>r.2.2 = 0→r.1.length≤8000∧∀ t∈r.1,ro t) (Ac s):=by
  rw [It]
  refine En.ifd (fun _=>.some (fun h=>by cases h)) fun h=>?_
  have hs:s.size≤8000:=by omega
  have key:∀ (k:Nat) (x:Int) (out:List GToken),(s.size:Int) - x < k→0≤x→x≤s.size→(out.length:Int)≤x→(∀ t∈out,ro t)→En (fun r=>r.2.2 = 0→r.1.length≤8000∧∀ t∈r.1,ro t) (md s x out):=by
    intro k
    induction k with
    | zero=>intro x out h0 h1 h2; omega
    | succ k ih =>
      intro x out h0 h1 h2 h3 h4
      rw [BN]
      refine En.bind (NW s hs x h1 h2) fun r hr=>En.ifn (fun hne=>.some (fun h0=>absurd h0 hne)) fun h0=>En.ifi (fun _=>.some (fun _=>⟨by show out.length≤8000; omega,h4⟩)) fun hk=>?_
      rcases hr h0 with h5 | ⟨h5,h6,h7⟩
      · exact absurd h5 hk
      · refine En.gd (by omega) (En.gd (by omega) (ih _ _ (by omega) (by omega) h7 (by rw [List.length_append]; simp; omega) fun t ht=>?_))
        rcases List.mem_append.1 ht with ht | ht
        · exact h4 t ht
        · simp at ht; subst ht; exact h5
  exact key (s.size+1) 0 [] (by omega) (by omega) (by omega) (by simp) (fun t ht=>by simp at ht)
end Go.Ax
