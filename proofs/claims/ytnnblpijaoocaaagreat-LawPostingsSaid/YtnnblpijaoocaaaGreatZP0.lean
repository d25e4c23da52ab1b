import Derived.Test.YtnnblpijaoocaaaGreatZHd
import Derived.Test.YtnnblpijaoocaaaGreatZE
set_option linter.all false
/- Rules for functions that end: an option that is something, in a set. -/
namespace Go.Ax
theorem aY {n:Int} (h:-9223372036854775808≤n) (h':n≤9223372036854775807):ae n = n:=by
  simp only [ae,IntKind.wrap,IntKind.bits,IntKind.signed]
  simp
  omega
theorem IP (n:Int):0≤IntKind.wrap .u64 n∧IntKind.wrap .u64 n≤18446744073709551615:=by
  simp only [IntKind.wrap,IntKind.bits,IntKind.signed]
  simp
  omega
theorem aU {p:Prop} [Decidable p] (h:p):aa p = true:=decide_eq_true h
theorem cP {p:Prop} [Decidable p] (h:¬ p):aa p = false:=decide_eq_false h
theorem oZ {p:Prop} [Decidable p] (h:aa p = true):p:=of_decide_eq_true h
theorem Je {p:Prop} [Decidable p] (h:aa p = false):¬ p:=of_decide_eq_false h
theorem td {a b:Int}:ah a b = true↔a = b:=by simp [ah]
theorem tj {a b:Int}:ah a b = false↔a≠b:=by simp [ah]
theorem H3 {a b:Int}:gH a b = false↔a = b:=by simp [gH]
theorem m5 (a:Int):ah a a = true:=td.2 rfl
theorem iA {a b:Bool}:(bif a then b else false) = (a&&b):=by cases a <;> rfl
theorem wx {a b:Bool}:(bif a then true else b) = (a||b):=by cases a <;> rfl
theorem mC {α:Type} {b:Bool} {o:Option α} (h:b = true):gb b o = o:=by rw [h]; rfl
theorem aF {α:Type} {p:Prop} [Decidable p] {o:Option α} (h:p):gb (aa p) o = o:=mC (aU h)
theorem pV {α:Type} {a b:Bool} {o:Option α} (h:a = true→b = true):gb ((!a)||b) o = o:=mC (by cases a <;> simp_all)
def En {α:Type} (Q:α→Prop) (o:Option α):Prop:=∃ y,o = some y∧Q y
section
variable {α β:Type} {Q Q':α→Prop}
theorem En.some {y:α} (h:Q y):En Q (some y):=⟨y,rfl,h⟩
theorem En.bind {R:β→Prop} {o:Option β} {f:β→Option α} (h:En R o) (h2:∀ y,R y→En Q (f y)):En Q (o.bind f):=by
  obtain ⟨x,rfl,hx⟩:=h
  exact h2 x hx
theorem En.bif {c:Bool} {a b:Option α} (h1:c = true→En Q a) (h2:c = false→En Q b):En Q (bif c then a else b):=by
  cases c with
  | true=>exact h1 rfl
  | false=>exact h2 rfl
theorem En.ifd {p:Prop} [Decidable p] {a b:Option α} (h1:p→En Q a) (h2:¬ p→En Q b):En Q (bif aa p then a else b) :=
  En.bif (fun h=>h1 (oZ h)) fun h=>h2 (Je h)
theorem En.ifi {x y:Int} {a b:Option α} (h1:x = y→En Q a) (h2:x≠y→En Q b):En Q (bif ah x y then a else b) :=
  En.bif (fun h=>h1 (td.1 h)) fun h=>h2 (tj.1 h)
theorem En.not {c:Bool} {a b:Option α} (h1:c = false→En Q a) (h2:c = true→En Q b):En Q (bif (!c) then a else b):=by
  cases c with
  | true=>exact h2 rfl
  | false=>exact h1 rfl
theorem En.and {c d:Bool} {a b:Option α} (h1:c = true→d = true→En Q a) (h2:(c = false∨d = false)→En Q b):En Q (bif (bif c then d else false) then a else b):=by
  cases c <;> cases d
  · exact h2 (.inl rfl)
  · exact h2 (.inl rfl)
  · exact h2 (.inr rfl)
  · exact h1 rfl rfl
theorem En.or {c d:Bool} {a b:Option α} (h1:(c = true∨d = true)→En Q a) (h2:c = false→d = false→En Q b):En Q (bif (bif c then true else d) then a else b):=by
  cases c <;> cases d
  · exact h2 rfl rfl
  · exact h1 (.inr rfl)
  · exact h1 (.inl rfl)
  · exact h1 (.inl rfl)
theorem En.gb {b:Bool} {o:Option α} (hb:b = true) (h:En Q o):En Q (gb b o):=by rw [mC hb]; exact h
theorem En.gd {p:Prop} [Decidable p] {o:Option α} (hp:p) (h:En Q o):En Q (Go.Ax.gb (aa p) o):=En.gb (aU hp) h
theorem En.go {a:Bool} {p:Prop} [Decidable p] {o:Option α} (hp:a = true→p) (h:En Q o):En Q (Go.Ax.gb ((!a)||aa p) o):=by
  rw [pV fun ha=>aU (hp ha)]; exact h
theorem En.weak {o:Option α} (h:En Q o) (hq:∀ y,Q y→Q' y):En Q' o:=by obtain ⟨y,h1,h2⟩:=h; exact ⟨y,h1,hq y h2⟩
theorem En.of {o:Option α} {y:α} (h:o = Option.some y) (hq:Q y):En Q o:=⟨y,h,hq⟩
end
theorem pz {T:Type} (p s:List T) (x z:T):(p++x :: s).getD p.length z = x:=by
  rw [List.getD_eq_getElem?_getD,List.getElem?_append_right (Nat.le_refl _)]
  simp
theorem nM (l:List Nat):(aw l).size = l.length:=by simp [aw,ByteArray.size]
end Go.Ax
set_option linter.all false
/- The reading of tokens ends. -/
set_option maxRecDepth 100000
namespace Go.Ax
def KD (t:GToken):Prop:=t.Text.size≤8000∧(t.Kind = 3→t.Text.size = 11)
end Go.Ax
