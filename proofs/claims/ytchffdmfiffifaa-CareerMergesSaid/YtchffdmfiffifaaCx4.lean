import Derived.Test.YtchffdmfiffifaaCx3
import Derived.Lib.Bytealg
/- Contracts of functions of the library that have no code, or whose code is walked by hand. -/
namespace Go.Ax
open Go.RowKit

section
variable {P : Program} {w : World} {ok : Nat → Prop}

theorem run_loadBytes : ∀ (ns : List Int) (a : Addr) (acc : ByteArray), (∀ j n, ns[j]? = some n → w.cell? (a.add j) = some (.int .u8 n)) →
    (Extern.Bytes.loadBytes a ns.length acc).run P w = .ok ⟨acc.data ++ (ns.map fun x => UInt8.ofNat x.toNat).toArray⟩ w
  | [], a, acc, h => by simp [Extern.Bytes.loadBytes]
  | n :: ns, a, acc, h => by
    have h0 := h 0 n rfl
    have h0' : w.cell? a = some (.int .u8 n) := by simpa [Addr.add] using h0
    have ih := run_loadBytes ns (a.add 1) (acc.push n.toNat.toUInt8) (fun j m hj => by
      rw [add_add, Nat.add_comm]
      exact h (j + 1) m (by simpa using hj))
    simp only [List.length_cons, Extern.Bytes.loadBytes, Sem.run_bind]
    rw [show (load a).run P w = .ok (.int .u8 n) w by simp [run_load, h0']]
    simp only [Result.andThen_ok, ih]
    congr 2
    simp [ByteArray.push]

/-- A slice of bytes, as the library reads it. -/
theorem run_bytesOf {v : Value} {k n : Nat} {el : Nat → List D} (h : RepD ok w v (.sl k n el)) (h1 : 0 < n → k = 1) (h2 : ∀ i, i < n → el i = eU8 (dU8 (el i))) :
    (Extern.Bytes.bytesOf v).run P w = .ok (bytesL (lst dU8 n el)) w := by
  cases h with
  | sl a _ c _ _ u hc hm ha ho hl hu =>
    cases n with
    | zero =>
      cases a with
      | none => rfl
      | some a => rfl
    | succ n =>
      obtain ⟨ad, rfl, _, hcell⟩ := ha (by omega)
      have hk := h1 (by omega)
      subst hk
      have hu' : ∀ i, i < n + 1 → u i 0 = .int .u8 (dU8 (el i)) := by
        intro i hi
        have := hu i 0 (.lit (.int .u8 (dU8 (el i)))) hi (by rw [h2 i hi]; rfl)
        generalize u i 0 = x at this
        cases this with
        | lit => rfl
      have hlen : (lst dU8 (n + 1) el).length = n + 1 := by simp [lst]
      have := run_loadBytes (P := P) (w := w) (lst dU8 (n + 1) el) ad .empty (fun j m hj => by
        have hj' : j < n + 1 := by
          have := (List.getElem?_eq_some_iff.1 hj).1
          omega
        have e := hcell j 0 hj' (by omega)
        rw [Nat.mul_one, Nat.add_zero] at e
        rw [e, hu' j hj']
        unfold lst at hj
        rw [List.getElem?_map, List.getElem?_range hj'] at hj
        simp only [Option.map_some, Option.some.injEq] at hj
        rw [hj])
      rw [hlen] at this
      simp only [Extern.Bytes.bytesOf, this]
      simp [bytesL]
end

/-- Two lists of bytes, by the dictionary's order. -/
def compareL (a b : List Int) : Int := Lib.compareBytes (a.map fun x => UInt8.ofNat x.toNat) (b.map fun x => UInt8.ofNat x.toNat)
def bytealg_Compare (a b : List Int) : Option Int := some (compareL a b)
def bytealg_Compare_C : Con
  | [.c (.sl k n e), .c (.sl k' n' e')] => some ([LstOk eU8 dU8 1 k n e, LstOk eU8 dU8 1 k' n' e', (bytealg_Compare (lst dU8 n e) (lst dU8 n' e')).isSome = true], .data (i64 ((bytealg_Compare (lst dU8 n e) (lst dU8 n' e')).getD (0 : Int))))
  | _ => none
theorem bytealg_Compare_meets {P : Program} {f : FuncId} {fn : Func} (hf : P.funcs[f]? = some fn) (hname : (fn.name == "runtime.NumGoroutine") = false) (hb : fn.body.isNone = true) (hn : Extern.findNext fn = none) (he : Extern.find fn = some Extern.BytealgCompare.compare) :
    Meets P f bytealg_Compare_C := by
  intro ok w xs vs p out hx hok hcon hp
  unfold bytealg_Compare_C at hcon
  split at hcon
  · next k n e k' n' e' =>
    cases hcon
    obtain ⟨x, y, rfl⟩ : ∃ x y, xs = [x, y] := by
      have := hx.1
      match xs, this with
      | [x, y], _ => exact ⟨x, y, rfl⟩
    have e1 := hx.2 0 x _ rfl rfl
    have e2 := hx.2 1 y _ rfl rfl
    cases e1 with
    | c _ _ e1 =>
    cases e2 with
    | c _ _ e2 =>
    have g1 : LstOk eU8 dU8 1 k n e := hp _ (by simp)
    have g2 : LstOk eU8 dU8 1 k' n' e' := hp _ (by simp)
    have r1 := run_bytesOf (P := P) e1 g1.1 g1.2
    have r2 := run_bytesOf (P := P) e2 g2.1 g2.2
    refine .inr ⟨.int .i64 (compareL (lst dU8 n e) (lst dU8 n' e')), w, ?_, .refl _ _, .lit _⟩
    rw [run_callFunc_extern hf hname hb hn he]
    have : (Extern.BytealgCompare.compare #[x, y]).run P w = .ok (.int .i64 (compareL (lst dU8 n e) (lst dU8 n' e'))) w := by
      change Sem.run P (do pure (goInt (Extern.BytealgCompare.cmp (← Extern.Bytes.bytesOf x) (← Extern.Bytes.bytesOf y)))) w = _
      simp only [Sem.run_bind, r1, r2, Result.andThen_ok, Sem.run_pure, Lib.cmp_eq]
      rfl
    rw [show [x, y].toArray = #[x, y] from rfl, this]
    rfl
  · cases hcon
end Go.Ax
