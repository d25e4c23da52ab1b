import Derived.Test.YtepnedfnpbakeaaA9
set_option linter.all false
/- A row that is shown in part becomes the row of that part. -/
namespace Go.Ax
open Go.RowKit

section
variable {σ : St} {E : Env} {w : World} {H : Heap}
theorem owns_front (hH : HeapAt E w H) {o' : Nat} {e : TypeId} {k n n' : Nat} {el : Nat → List D} (hg : H.get o' = some (.row e k n el)) {v : Value} (hx : RepV E w v (.row o' k 0 n')) :
    ∃ xs, w.ownsRow 0 e k v n' xs ∧ v.ownBlock = E.conc o' ∧ (∀ i, i < n' → (el i).length = k) ∧ (∀ i j u, i < n' → j < k → xs[i * k + j]? = some u → u.oneCell' = true) ∧
      ∀ i j d u, i < n' → (el i)[j]? = some d → xs[i * k + j]? = some u → RepD E.ok w u d := by
  obtain ⟨_, hlen, hob⟩ := hH.at_ _ _ hg
  cases hx with
  | row _ _ _ _ a c hn hc hm hl ha h0 =>
    have hnn : n' ≤ n := by omega
    rcases h0 rfl with ⟨rfl, rfl, h3⟩ | ⟨b, hb, rfl, rfl⟩
    · have : n' = 0 := by omega
      subst this
      exact ⟨[], ⟨by simp, .inl ⟨rfl, rfl⟩⟩, by simp [Value.ownBlock, h3], fun i hi => by omega, fun i j u hi => by omega, fun i j d u hi => by omega⟩
    · obtain ⟨C, h2, h3, h4, h6, h7, h8⟩ := row_cell hH hg hb
      have hle : n' * k ≤ C.size := by rw [h3]; exact Nat.mul_le_mul_right _ (by omega)
      have hget : ∀ (q : Nat) (u : Value), (C.toList.take (n' * k))[q]? = some u → C[q]? = some u := by
        intro q u hq
        rw [List.getElem?_take] at hq
        split at hq
        · rwa [Array.getElem?_toList] at hq
        · cases hq
      exact ⟨C.toList.take (n' * k), ⟨by simp; omega, .inr ⟨b, _, C, rfl, Nat.zero_le _, h2, hc, hm, h3, rfl⟩⟩, by simp [Value.ownBlock, hb], fun i hi => h6 i (by omega), fun i j u hi hj hu => h7 i j u (by omega) hj (hget _ _ hu), fun i j d u hi hd hu => h8 i j d u (by omega) hd (hget _ _ hu)⟩

/-- A row of which a slot shows the first elements alone: the row of those elements; every other mention is lost. -/
theorem Ent.trunc (t o e k m n : Nat) (el : Nat → List D) (hg : Heap.get σ.hp o = some (.row e k m el)) (ht : getT σ.tm t = some ⟨[], .row o k 0 n⟩) :
    Ent σ { tm := (t, ⟨[], .row o k 0 n⟩) :: killT [o] σ.tm, hp := (o, some (.row e k n (fun i => el (0 + i)))) :: killH [o] σ.hp, nx := σ.nx + 1 } := by
  rw [show (fun i => el (0 + i)) = el by funext i; rw [Nat.zero_add]]
  refine ⟨fun N B E a w hs => ?_⟩
  have hv : RepV E w (valAt B a t) (.row o k 0 n) := (hs.slots t _ ht).1 rfl
  obtain ⟨xs, hown, hbl, h6, h7, h8⟩ := owns_front hs.heap hg hv
  obtain ⟨E', hP⟩ := post_moved (r := { pre := [], val := .row o k 0 n, eff := [(o, some (.row e k n el))], kill := [o] }) (nid := σ.nx) (w' := w) hs.heap hg hbl hown ⟨rfl, rfl, rfl, Nat.le_refl _, fun _ _ _ => rfl⟩ (.inl rfl) h6 h7 h8 rfl rfl rfl
  have hS := sim_after hs (rc := { rds := [], vs := [], reach := [], rws := (false, []), nid := σ.nx, res := { pre := [], val := .row o k 0 n, eff := [(o, some (.row e k n el))], kill := [o] }, dst := none, ch := [] }) (M := σ.nx + 1) (by omega) (by show σ.nx < σ.nx + 1; omega) hP rfl rfl (.inl rfl)
  refine ⟨E', hS.size, hS.small, hS.defers, hS.live, hS.heap, fun q s hq => ?_, hS.base, hS.own, hS.okold⟩
  have hbool : ∀ q, boolOf (getT ((t, (⟨[], .row o k 0 n⟩ : Slot)) :: killT [o] σ.tm) q) = boolOf (getT (killT [o] σ.tm) q) := by
    intro q
    rw [getT_cons]
    split
    · next e1 => subst e1; rw [getT_killT, boolOf_kill, ht]
    · rfl
  rw [getT_cons] at hq
  split at hq
  · next e1 =>
    subst e1; cases hq
    exact ⟨fun _ => hP.val, fun _ h => by simp [holds] at h⟩
  · have h1 := hS.slots q s hq
    exact slotAt_move (tm := killT [o] σ.tm) h1 fun x _ _ => hbool x.1
end
end Go.Ax
