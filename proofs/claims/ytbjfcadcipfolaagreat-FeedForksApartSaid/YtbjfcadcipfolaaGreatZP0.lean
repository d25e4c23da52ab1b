import Derived.Test.YtbjfcadcipfolaaGreatZHd
set_option linter.all false
/- Rules for functions that end: an option that is something, in a set. -/
namespace Go.Ax
theorem aD {n:Int} (h:-9223372036854775808≤n) (h':n≤9223372036854775807):ae n = n:=by
 simp only [ae,IntKind.wrap,IntKind.bits,IntKind.signed]
 simp
 omega
theorem My {n:Int} (h:0≤n) (h':n≤18446744073709551615):IntKind.wrap .u64 n = n:=by
 simp only [IntKind.wrap,IntKind.bits,IntKind.signed]
 simp
 omega
theorem bf {p:Prop} [Decidable p] (h:p):aa p = true:=decide_eq_true h
theorem bJ {p:Prop} [Decidable p] (h:¬ p):aa p = false:=decide_eq_false h
theorem rU {p:Prop} [Decidable p] (h:aa p = true):p:=of_decide_eq_true h
theorem LY {p:Prop} [Decidable p] (h:aa p = false):¬ p:=of_decide_eq_false h
theorem aZ {a b:Int}:ak a b = true↔a = b:=by simp [ak]
theorem gz {a b:Int}:ak a b = false↔a≠b:=by simp [ak]
theorem bT {a b:Int}:aT a b = true↔a≠b:=by simp [aT]
theorem bW {a b:Int}:aT a b = false↔a = b:=by simp [aT]
theorem fx (a:Int):ak a a = true:=aZ.2 rfl
theorem dM {a b:Bool}:(bif a then b else false) = (a&&b):=by cases a <;> rfl
theorem zC {a b:Bool}:(bif a then true else b) = (a||b):=by cases a <;> rfl
theorem jv {α:Type} {b:Bool} {o:Option α} (h:b = true):gb b o = o:=by rw [h];rfl
theorem ac {α:Type} {p:Prop} [Decidable p] {o:Option α} (h:p):gb (aa p) o = o:=jv (bf h)
theorem Nu {α:Type} {a b:Bool} {o:Option α} (h:a = true→b = true):gb ((!a)||b) o = o:=jv (by cases a <;> simp_all)
def En {α:Type} (Q:α→Prop) (o:Option α):Prop:=∃ y,o = some y∧Q y
section
variable {α β:Type} {Q Q':α→Prop}
theorem En.some {y:α} (h:Q y):En Q (some y):=⟨y,rfl,h⟩
theorem En.bind {R:β→Prop} {o:Option β} {f:β→Option α} (h:En R o) (h2:∀ y,R y→En Q (f y)):En Q (o.bind f):=by
 obtain ⟨x,rfl,hx⟩:=h
 exact h2 x hx
theorem En.bif {c:Bool} {a b:Option α} (h1:c = true→En Q a) (h2:c = false→En Q b):En Q (bif c then a else b):=by
 cases c with
 | true=>exact h1 rfl
 | false=>exact h2 rfl
theorem En.ifd {p:Prop} [Decidable p] {a b:Option α} (h1:p→En Q a) (h2:¬ p→En Q b):En Q (bif aa p then a else b) :=
 En.bif (fun h=>h1 (rU h)) fun h=>h2 (LY h)
theorem En.not {c:Bool} {a b:Option α} (h1:c = false→En Q a) (h2:c = true→En Q b):En Q (bif (!c) then a else b):=by
 cases c with
 | true=>exact h2 rfl
 | false=>exact h1 rfl
theorem En.and {c d:Bool} {a b:Option α} (h1:c = true→d = true→En Q a) (h2:(c = false∨d = false)→En Q b):En Q (bif (bif c then d else false) then a else b):=by
 cases c <;> cases d
 ·exact h2 (.inl rfl)
 ·exact h2 (.inl rfl)
 ·exact h2 (.inr rfl)
 ·exact h1 rfl rfl
theorem En.or {c d:Bool} {a b:Option α} (h1:(c = true∨d = true)→En Q a) (h2:c = false→d = false→En Q b):En Q (bif (bif c then true else d) then a else b):=by
 cases c <;> cases d
 ·exact h2 rfl rfl
 ·exact h1 (.inr rfl)
 ·exact h1 (.inl rfl)
 ·exact h1 (.inl rfl)
theorem En.gb {b:Bool} {o:Option α} (hb:b = true) (h:En Q o):En Q (gb b o):=by rw [jv hb];exact h
theorem En.gd {p:Prop} [Decidable p] {o:Option α} (hp:p) (h:En Q o):En Q (Go.Ax.gb (aa p) o):=En.gb (bf hp) h
theorem En.go {a:Bool} {p:Prop} [Decidable p] {o:Option α} (hp:a = true→p) (h:En Q o):En Q (Go.Ax.gb ((!a)||aa p) o):=by
 rw [Nu fun ha=>bf (hp ha)];exact h
theorem En.of {o:Option α} {y:α} (h:o = Option.some y) (hq:Q y):En Q o:=⟨y,h,hq⟩
end
theorem Lr {T:Type} (p s:List T) (x z:T):(p++x :: s).getD p.length z = x:=by
 rw [List.getD_eq_getElem?_getD,List.getElem?_append_right (Nat.le_refl _)]
 simp
theorem fa (l:List Nat):(aE l).size = l.length:=by simp [aE,ByteArray.size]
end Go.Ax
