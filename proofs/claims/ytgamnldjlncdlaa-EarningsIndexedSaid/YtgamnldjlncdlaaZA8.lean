import Derived.Test.YtgamnldjlncdlaaZA6
import Derived.Shelf.SlSortFuncK.WholeK
import Derived.Shelf.GgSortFunc.Tiny
set_option linter.all false
/- sort.Slice at a row that the closure's box names. -/
namespace Go.Ax
open Go.RowKit Go.Sort
section
variable {P : Program} {E : bj} {w w' : World} {r : cE} {H : ay} {nid : Nat}
end
section
variable {σ : St}
theorem dt.nilbox (bo i o e k : Nat) (el : Nat → List D) (cs : List V) (hn : σ.nx ≤ o) (hg : ay.get σ.hp bo = some (.box cs)) (hi : cs[i]? = some (.c .nil)) : dt σ { tm := σ.tm,hp := (bo,some (.box (cs.set i (.row o k 0 0)))) :: (o,some (.row e k 0 el)) :: σ.hp,nx := o + 1 } := by
  refine ⟨fun N B E a w hs => ?_⟩
  have hf : ¬ E.live o := hs.live o hn
  have hS : eO E w [] (E.next o none 0 0 E.ok) w := eM hf none 0 0 E.ok (.refl _ _) (by simp) (fun _ h => h) (fun _ h => .inl h)
  have hN : bv (E.next o none 0 0 E.ok) w σ.hp := fA hf hs.heap (.refl _ _) (by simp) (fun _ h => h) (fun _ h => .inl h) hs.heap.oklt
  have hown : ∀ q b,(E.next o none 0 0 E.ok).live q → (E.next o none 0 0 E.ok).conc q = some b → B.W.heap.size ≤ b ∨ B.mb b := by
    intro q b ho h
    rcases hS.concnew q b ho h with ⟨q,h1,h2⟩ | h
    · exact hs.own q b h1 h2
    · have := hs.base.size; exact .inl (by omega)
  have hslot : ∀ q s,bq σ.tm q = some s → (holds σ.tm s.ch = true → aK (E.next o none 0 0 E.ok) w (ia B a q) s.v) := fun q s hg' h => iT hs.heap hS ((hs.slots q s hg').1 h)
  refine ⟨_,hs.size,hs.small,hs.defers,fun q hq => ?_,⟨fun q ob ho => ?_,hN.inj,hN.sep,hN.lt,hN.oklt⟩,fun q s hq => ⟨hslot q s hq,(hs.slots q s hq).2⟩,hs.base,hown,hs.okold⟩
  · have hq' : o + 1 ≤ q := hq
    rintro (h | h)
    · omega
    · exact hs.live q (by omega) h
  · rw [ay.get_cons] at ho
    split at ho
    · next e' =>
      subst e'; cases ho
      obtain ⟨h1,h2,b,C,t,h3,h4,h5⟩ := hN.at_ _ _ hg
      refine ⟨h1,h2,b,C,t,h3,h4,by rw [List.length_set]; exact h5.1,fun j x d hx hd => ?_⟩
      rw [List.getElem?_set] at hd
      split at hd
      · next e2 =>
        subst e2
        split at hd
        · cases hd
          have : x = .slice none 0 0 := (h5.2 _ _ _ hx hi).nil_inv
          rw [this]
          exact .row o k 0 0 none 0 (.inl rfl) (Nat.le_refl _) (by simp [maxLen]) (by simp [bj.next]) (fun h => by omega) (fun _ => .inl ⟨rfl,rfl,by simp [bj.next]⟩)
        · cases hd
      · exact h5.2 _ _ _ hx hd
    · rw [ay.get_cons] at ho
      split at ho
      · next e' => subst e'; cases ho; exact ⟨.inl rfl,by simp [bj.next], .inl ⟨by simp [bj.next],rfl⟩⟩
      · exact hN.at_ q ob ho
end
section
variable {T : Type} [Inhabited T]
end
end Go.Ax
