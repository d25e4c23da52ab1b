import Derived.Test.YtokecajedkojlaaGreatYHd
set_option linter.all false
/- Rules for functions that end: an option that is something, in a set. -/
namespace Go.Ax
theorem ak {n:Int} (h:-9223372036854775808≤n) (h':n≤9223372036854775807):ac n = n:=by
  simp only [ac,IntKind.wrap,IntKind.bits,IntKind.signed]
  simp
  omega
theorem GM {n:Int} (h:0≤n) (h':n≤18446744073709551615):IntKind.wrap .u64 n = n:=by
  simp only [IntKind.wrap,IntKind.bits,IntKind.signed]
  simp
  omega
theorem C1 (n:Int):-9223372036854775808≤ac n∧ac n≤9223372036854775807:=by
  simp only [ac,IntKind.wrap,IntKind.bits,IntKind.signed]
  simp
  omega
theorem xI (n:Int):0≤IntKind.wrap .u64 n∧IntKind.wrap .u64 n≤18446744073709551615:=by
  simp only [IntKind.wrap,IntKind.bits,IntKind.signed]
  simp
  omega
theorem bY {p:Prop} [Decidable p] (h:p):aa p = true:=decide_eq_true h
theorem em {p:Prop} [Decidable p] (h:¬ p):aa p = false:=decide_eq_false h
theorem aE {p:Prop} [Decidable p] (h:aa p = true):p:=of_decide_eq_true h
theorem pM {p:Prop} [Decidable p] (h:aa p = false):¬ p:=of_decide_eq_false h
theorem fe {a b:Int}:ah a b = true↔a = b:=by simp [ah]
theorem rO {a b:Int}:ah a b = false↔a≠b:=by simp [ah]
theorem Jj {a b:Int}:bq a b = true↔a≠b:=by simp [bq]
theorem Fm {a b:Int}:bq a b = false↔a = b:=by simp [bq]
theorem zi (a:Int):ah a a = true:=fe.2 rfl
theorem ck {a b:Bool}:(bif a then b else false) = (a&&b):=by cases a <;> rfl
theorem fp {a b:Bool}:(bif a then true else b) = (a||b):=by cases a <;> rfl
theorem G6 {α:Type} {b:Bool} {o:Option α} (h:b = true):gb b o = o:=by rw [h]; rfl
theorem bH {α:Type} {p:Prop} [Decidable p] {o:Option α} (h:p):gb (aa p) o = o:=G6 (bY h)
theorem tV {α:Type} {a b:Bool} {o:Option α} (h:a = true→b = true):gb ((!a)||b) o = o:=G6 (by cases a <;> simp_all)
def En {α:Type} (Q:α→Prop) (o:Option α):Prop:=∃ y,o = some y∧Q y
section
variable {α β:Type} {Q Q':α→Prop}
theorem En.some {y:α} (h:Q y):En Q (some y):=⟨y,rfl,h⟩
theorem En.bind {R:β→Prop} {o:Option β} {f:β→Option α} (h:En R o) (h2:∀ y,R y→En Q (f y)):En Q (o.bind f):=by
  obtain ⟨x,rfl,hx⟩:=h
  exact h2 x hx
theorem En.bif {c:Bool} {a b:Option α} (h1:c = true→En Q a) (h2:c = false→En Q b):En Q (bif c then a else b):=by
  cases c with
  | true=>exact h1 rfl
  | false=>exact h2 rfl
theorem En.ifd {p:Prop} [Decidable p] {a b:Option α} (h1:p→En Q a) (h2:¬ p→En Q b):En Q (bif aa p then a else b) :=
  En.bif (fun h=>h1 (aE h)) fun h=>h2 (pM h)
theorem En.ifi {x y:Int} {a b:Option α} (h1:x = y→En Q a) (h2:x≠y→En Q b):En Q (bif ah x y then a else b) :=
  En.bif (fun h=>h1 (fe.1 h)) fun h=>h2 (rO.1 h)
theorem En.ifn {x y:Int} {a b:Option α} (h1:x≠y→En Q a) (h2:x = y→En Q b):En Q (bif bq x y then a else b) :=
  En.bif (fun h=>h1 (Jj.1 h)) fun h=>h2 (Fm.1 h)
theorem En.not {c:Bool} {a b:Option α} (h1:c = false→En Q a) (h2:c = true→En Q b):En Q (bif (!c) then a else b):=by
  cases c with
  | true=>exact h2 rfl
  | false=>exact h1 rfl
theorem En.and {c d:Bool} {a b:Option α} (h1:c = true→d = true→En Q a) (h2:(c = false∨d = false)→En Q b):En Q (bif (bif c then d else false) then a else b):=by
  cases c <;> cases d
  · exact h2 (.inl rfl)
  · exact h2 (.inl rfl)
  · exact h2 (.inr rfl)
  · exact h1 rfl rfl
theorem En.or {c d:Bool} {a b:Option α} (h1:(c = true∨d = true)→En Q a) (h2:c = false→d = false→En Q b):En Q (bif (bif c then true else d) then a else b):=by
  cases c <;> cases d
  · exact h2 rfl rfl
  · exact h1 (.inr rfl)
  · exact h1 (.inl rfl)
  · exact h1 (.inl rfl)
theorem En.gb {b:Bool} {o:Option α} (hb:b = true) (h:En Q o):En Q (gb b o):=by rw [G6 hb]; exact h
theorem En.gd {p:Prop} [Decidable p] {o:Option α} (hp:p) (h:En Q o):En Q (Go.Ax.gb (aa p) o):=En.gb (bY hp) h
theorem En.go {a:Bool} {p:Prop} [Decidable p] {o:Option α} (hp:a = true→p) (h:En Q o):En Q (Go.Ax.gb ((!a)||aa p) o):=by
  rw [tV fun ha=>bY (hp ha)]; exact h
theorem En.weak {o:Option α} (h:En Q o) (hq:∀ y,Q y→Q' y):En Q' o:=by obtain ⟨y,h1,h2⟩:=h; exact ⟨y,h1,hq y h2⟩
theorem En.of {o:Option α} {y:α} (h:o = Option.some y) (hq:Q y):En Q o:=⟨y,h,hq⟩
end
theorem uU {T:Type} (p s:List T) (x z:T):(p++x :: s).getD p.length z = x:=by
  rw [List.getD_eq_getElem?_getD,List.getElem?_append_right (Nat.le_refl _)]
  simp
theorem FC {T:Type} {l:List T} {i:Nat} {z:T} (h:i < l.length):l.getD i z∈l:=by
  rw [List.getD_eq_getElem?_getD,List.getElem?_eq_getElem h]; exact List.getElem_mem h
theorem hU {T:Type} {l:List T} {i:Int} {z:T} (h0:0≤i) (h:i < (l.length:Int)):gD l i.toNat z∈l:=FC (by omega)
theorem ap (l:List Nat):(ab l).size = l.length:=by simp [ab,ByteArray.size]
end Go.Ax
