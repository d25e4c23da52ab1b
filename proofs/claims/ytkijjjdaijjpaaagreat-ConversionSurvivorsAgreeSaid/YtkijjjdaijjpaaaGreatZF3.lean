import Derived.Test.YtkijjjdaijjpaaaGreatZF2
import Derived.Test.YtkijjjdaijjpaaaGreatRows
/- Types of the program, and functions of it: printed by a program, checked by the kernel. -/
set_option linter.all false
set_option maxRecDepth 100000
namespace Go.Ax
open Go.Proofs Go.Proofs.YtkijjjdaijjpaaaGreat
noncomputable def WN : List Code := aD (ar Tryz.f78)
def Lw (x_1 : ByteArray) : bS := .data (dh x_1)
def xV (x_1 : ByteArray) : St := ⟨[sv 2 (dh x_1)],[],0⟩
def afX : St := ⟨[],[],0⟩
noncomputable def cc : Option (ByteArray) := (some (aA []))
theorem eh {K : KT} (h : W (cc) (rE xV K)) : ah Tryz.prog 26 (List.drop 3 WN) K (afX) :=
  ah.qE mixed [] [2] 3 2 (.nx (fun K => wK K .ret (xV (aA []))) (l0 h))
def agp (kind : Int) : St := ⟨[sv 0 (i64 kind)],[],0⟩
noncomputable def tC (kind : Int) : Option (ByteArray) := (bif (kind == 1) then (some (aA [83,80,84,72,67,65])) else (bif (kind == 2) then (bif (kind == 2) then (some (aA [83,80,72,67,65])) else (bif (kind == 4) then (some (aA [83,80,84])) else (bif (kind == 5) then (bif (kind == 5) then (some (aA [83,80])) else (bif (kind == 6) then (some (aA [83,80,67,65])) else (bif (kind == 10) then (some (aA [83,80,82])) else (bif (kind == 11) then (bif (kind == 11) then (some (aA [80])) else (bif (kind == 14) then (some (aA [80,82])) else cc)) else (bif (kind == 12) then (bif (kind == 12) then (some (aA [80])) else (bif (kind == 14) then (some (aA [80,82])) else cc)) else (bif (kind == 13) then (some (aA [80])) else (bif (kind == 14) then (some (aA [80,82])) else cc))))))) else (bif (kind == 7) then (bif (kind == 7) then (some (aA [83,80])) else (bif (kind == 6) then (some (aA [83,80,67,65])) else (bif (kind == 10) then (some (aA [83,80,82])) else (bif (kind == 11) then (bif (kind == 11) then (some (aA [80])) else (bif (kind == 14) then (some (aA [80,82])) else cc)) else (bif (kind == 12) then (bif (kind == 12) then (some (aA [80])) else (bif (kind == 14) then (some (aA [80,82])) else cc)) else (bif (kind == 13) then (some (aA [80])) else (bif (kind == 14) then (some (aA [80,82])) else cc))))))) else (bif (kind == 8) then (bif (kind == 8) then (some (aA [83,80])) else (bif (kind == 6) then (some (aA [83,80,67,65])) else (bif (kind == 10) then (some (aA [83,80,82])) else (bif (kind == 11) then (bif (kind == 11) then (some (aA [80])) else (bif (kind == 14) then (some (aA [80,82])) else cc)) else (bif (kind == 12) then (bif (kind == 12) then (some (aA [80])) else (bif (kind == 14) then (some (aA [80,82])) else cc)) else (bif (kind == 13) then (some (aA [80])) else (bif (kind == 14) then (some (aA [80,82])) else cc))))))) else (bif (kind == 9) then (some (aA [83,80])) else (bif (kind == 6) then (some (aA [83,80,67,65])) else (bif (kind == 10) then (some (aA [83,80,82])) else (bif (kind == 11) then (bif (kind == 11) then (some (aA [80])) else (bif (kind == 14) then (some (aA [80,82])) else cc)) else (bif (kind == 12) then (bif (kind == 12) then (some (aA [80])) else (bif (kind == 14) then (some (aA [80,82])) else cc)) else (bif (kind == 13) then (some (aA [80])) else (bif (kind == 14) then (some (aA [80,82])) else cc)))))))))))) else (bif (kind == 3) then (some (aA [83,80,72,67,65])) else (bif (kind == 4) then (some (aA [83,80,84])) else (bif (kind == 5) then (bif (kind == 5) then (some (aA [83,80])) else (bif (kind == 6) then (some (aA [83,80,67,65])) else (bif (kind == 10) then (some (aA [83,80,82])) else (bif (kind == 11) then (bif (kind == 11) then (some (aA [80])) else (bif (kind == 14) then (some (aA [80,82])) else cc)) else (bif (kind == 12) then (bif (kind == 12) then (some (aA [80])) else (bif (kind == 14) then (some (aA [80,82])) else cc)) else (bif (kind == 13) then (some (aA [80])) else (bif (kind == 14) then (some (aA [80,82])) else cc))))))) else (bif (kind == 7) then (bif (kind == 7) then (some (aA [83,80])) else (bif (kind == 6) then (some (aA [83,80,67,65])) else (bif (kind == 10) then (some (aA [83,80,82])) else (bif (kind == 11) then (bif (kind == 11) then (some (aA [80])) else (bif (kind == 14) then (some (aA [80,82])) else cc)) else (bif (kind == 12) then (bif (kind == 12) then (some (aA [80])) else (bif (kind == 14) then (some (aA [80,82])) else cc)) else (bif (kind == 13) then (some (aA [80])) else (bif (kind == 14) then (some (aA [80,82])) else cc))))))) else (bif (kind == 8) then (bif (kind == 8) then (some (aA [83,80])) else (bif (kind == 6) then (some (aA [83,80,67,65])) else (bif (kind == 10) then (some (aA [83,80,82])) else (bif (kind == 11) then (bif (kind == 11) then (some (aA [80])) else (bif (kind == 14) then (some (aA [80,82])) else cc)) else (bif (kind == 12) then (bif (kind == 12) then (some (aA [80])) else (bif (kind == 14) then (some (aA [80,82])) else cc)) else (bif (kind == 13) then (some (aA [80])) else (bif (kind == 14) then (some (aA [80,82])) else cc))))))) else (bif (kind == 9) then (some (aA [83,80])) else (bif (kind == 6) then (some (aA [83,80,67,65])) else (bif (kind == 10) then (some (aA [83,80,82])) else (bif (kind == 11) then (bif (kind == 11) then (some (aA [80])) else (bif (kind == 14) then (some (aA [80,82])) else cc)) else (bif (kind == 12) then (bif (kind == 12) then (some (aA [80])) else (bif (kind == 14) then (some (aA [80,82])) else cc)) else (bif (kind == 13) then (some (aA [80])) else (bif (kind == 14) then (some (aA [80,82])) else cc))))))))))))))
theorem aby {kind : Int} {K : KT} (h : W (tC kind) (rE xV K)) : ah Tryz.prog 26 (List.drop 0 WN) K (agp kind) :=
  ah.qD mixed [] [2] 0 3 3 (.nx (fun K => let a1_ := xV (aA [80,82]); let a2_ := xV (aA [80]); let a3_ := xV (aA [83,80,67,65]); let a4_ := xV (aA [83,80,82]); let a5_ := xV (aA [83,80]); let a6_ := xV (aA [83,80,72,67,65]); let a7_ := xV (aA [83,80,84]); (bif (kind == 1) then wK K .ret (xV (aA [83,80,84,72,67,65])) else (bif (kind == 2) then (bif (kind == 2) then wK K .ret a6_ else (bif (kind == 4) then wK K .ret a7_ else (bif (kind == 5) then (bif (kind == 5) then wK K .ret a5_ else (bif (kind == 6) then wK K .ret a3_ else (bif (kind == 10) then wK K .ret a4_ else (bif (kind == 11) then (bif (kind == 11) then wK K .ret a2_ else (bif (kind == 14) then wK K .ret a1_ else wK K .normal (⟨[sv 2 (dh (aA []))],[],0⟩))) else (bif (kind == 12) then (bif (kind == 12) then wK K .ret a2_ else (bif (kind == 14) then wK K .ret a1_ else wK K .normal (⟨[sv 2 (dh (aA []))],[],0⟩))) else (bif (kind == 13) then wK K .ret a2_ else (bif (kind == 14) then wK K .ret a1_ else wK K .normal (⟨[sv 2 (dh (aA []))],[],0⟩)))))))) else (bif (kind == 7) then (bif (kind == 7) then wK K .ret a5_ else (bif (kind == 6) then wK K .ret a3_ else (bif (kind == 10) then wK K .ret a4_ else (bif (kind == 11) then (bif (kind == 11) then wK K .ret a2_ else (bif (kind == 14) then wK K .ret a1_ else wK K .normal (⟨[sv 2 (dh (aA []))],[],0⟩))) else (bif (kind == 12) then (bif (kind == 12) then wK K .ret a2_ else (bif (kind == 14) then wK K .ret a1_ else wK K .normal (⟨[sv 2 (dh (aA []))],[],0⟩))) else (bif (kind == 13) then wK K .ret a2_ else (bif (kind == 14) then wK K .ret a1_ else wK K .normal (⟨[sv 2 (dh (aA []))],[],0⟩)))))))) else (bif (kind == 8) then (bif (kind == 8) then wK K .ret a5_ else (bif (kind == 6) then wK K .ret a3_ else (bif (kind == 10) then wK K .ret a4_ else (bif (kind == 11) then (bif (kind == 11) then wK K .ret a2_ else (bif (kind == 14) then wK K .ret a1_ else wK K .normal (⟨[sv 2 (dh (aA []))],[],0⟩))) else (bif (kind == 12) then (bif (kind == 12) then wK K .ret a2_ else (bif (kind == 14) then wK K .ret a1_ else wK K .normal (⟨[sv 2 (dh (aA []))],[],0⟩))) else (bif (kind == 13) then wK K .ret a2_ else (bif (kind == 14) then wK K .ret a1_ else wK K .normal (⟨[sv 2 (dh (aA []))],[],0⟩)))))))) else (bif (kind == 9) then wK K .ret a5_ else (bif (kind == 6) then wK K .ret a3_ else (bif (kind == 10) then wK K .ret a4_ else (bif (kind == 11) then (bif (kind == 11) then wK K .ret a2_ else (bif (kind == 14) then wK K .ret a1_ else wK K .normal (⟨[sv 2 (dh (aA []))],[],0⟩))) else (bif (kind == 12) then (bif (kind == 12) then wK K .ret a2_ else (bif (kind == 14) then wK K .ret a1_ else wK K .normal (⟨[sv 2 (dh (aA []))],[],0⟩))) else (bif (kind == 13) then wK K .ret a2_ else (bif (kind == 14) then wK K .ret a1_ else wK K .normal (⟨[sv 2 (dh (aA []))],[],0⟩))))))))))))) else (bif (kind == 3) then wK K .ret a6_ else (bif (kind == 4) then wK K .ret a7_ else (bif (kind == 5) then (bif (kind == 5) then wK K .ret a5_ else (bif (kind == 6) then wK K .ret a3_ else (bif (kind == 10) then wK K .ret a4_ else (bif (kind == 11) then (bif (kind == 11) then wK K .ret a2_ else (bif (kind == 14) then wK K .ret a1_ else wK K .normal (⟨[sv 2 (dh (aA []))],[],0⟩))) else (bif (kind == 12) then (bif (kind == 12) then wK K .ret a2_ else (bif (kind == 14) then wK K .ret a1_ else wK K .normal (⟨[sv 2 (dh (aA []))],[],0⟩))) else (bif (kind == 13) then wK K .ret a2_ else (bif (kind == 14) then wK K .ret a1_ else wK K .normal (⟨[sv 2 (dh (aA []))],[],0⟩)))))))) else (bif (kind == 7) then (bif (kind == 7) then wK K .ret a5_ else (bif (kind == 6) then wK K .ret a3_ else (bif (kind == 10) then wK K .ret a4_ else (bif (kind == 11) then (bif (kind == 11) then wK K .ret a2_ else (bif (kind == 14) then wK K .ret a1_ else wK K .normal (⟨[sv 2 (dh (aA []))],[],0⟩))) else (bif (kind == 12) then (bif (kind == 12) then wK K .ret a2_ else (bif (kind == 14) then wK K .ret a1_ else wK K .normal (⟨[sv 2 (dh (aA []))],[],0⟩))) else (bif (kind == 13) then wK K .ret a2_ else (bif (kind == 14) then wK K .ret a1_ else wK K .normal (⟨[sv 2 (dh (aA []))],[],0⟩)))))))) else (bif (kind == 8) then (bif (kind == 8) then wK K .ret a5_ else (bif (kind == 6) then wK K .ret a3_ else (bif (kind == 10) then wK K .ret a4_ else (bif (kind == 11) then (bif (kind == 11) then wK K .ret a2_ else (bif (kind == 14) then wK K .ret a1_ else wK K .normal (⟨[sv 2 (dh (aA []))],[],0⟩))) else (bif (kind == 12) then (bif (kind == 12) then wK K .ret a2_ else (bif (kind == 14) then wK K .ret a1_ else wK K .normal (⟨[sv 2 (dh (aA []))],[],0⟩))) else (bif (kind == 13) then wK K .ret a2_ else (bif (kind == 14) then wK K .ret a1_ else wK K .normal (⟨[sv 2 (dh (aA []))],[],0⟩)))))))) else (bif (kind == 9) then wK K .ret a5_ else (bif (kind == 6) then wK K .ret a3_ else (bif (kind == 10) then wK K .ret a4_ else (bif (kind == 11) then (bif (kind == 11) then wK K .ret a2_ else (bif (kind == 14) then wK K .ret a1_ else wK K .normal (⟨[sv 2 (dh (aA []))],[],0⟩))) else (bif (kind == 12) then (bif (kind == 12) then wK K .ret a2_ else (bif (kind == 14) then wK K .ret a1_ else wK K .normal (⟨[sv 2 (dh (aA []))],[],0⟩))) else (bif (kind == 13) then wK K .ret a2_ else (bif (kind == 14) then wK K .ret a1_ else wK K .normal (⟨[sv 2 (dh (aA []))],[],0⟩)))))))))))))))) (al h (fun _ h => (l0 h)) (fun _ h => (al h (fun _ h => (al h (fun _ h => (l0 h)) (fun _ h => (al h (fun _ h => (l0 h)) (fun _ h => (al h (fun _ h => (al h (fun _ h => (l0 h)) (fun _ h => (al h (fun _ h => (l0 h)) (fun _ h => (al h (fun _ h => (l0 h)) (fun _ h => (al h (fun _ h => (al h (fun _ h => (l0 h)) (fun _ h => (al h (fun _ h => (l0 h)) (fun _ h => (lf (eh h) (.cn []))))))) (fun _ h => (al h (fun _ h => (al h (fun _ h => (l0 h)) (fun _ h => (al h (fun _ h => (l0 h)) (fun _ h => (lf (eh h) (.cn []))))))) (fun _ h => (al h (fun _ h => (l0 h)) (fun _ h => (al h (fun _ h => (l0 h)) (fun _ h => (lf (eh h) (.cn []))))))))))))))))) (fun _ h => (al h (fun _ h => (al h (fun _ h => (l0 h)) (fun _ h => (al h (fun _ h => (l0 h)) (fun _ h => (al h (fun _ h => (l0 h)) (fun _ h => (al h (fun _ h => (al h (fun _ h => (l0 h)) (fun _ h => (al h (fun _ h => (l0 h)) (fun _ h => (lf (eh h) (.cn []))))))) (fun _ h => (al h (fun _ h => (al h (fun _ h => (l0 h)) (fun _ h => (al h (fun _ h => (l0 h)) (fun _ h => (lf (eh h) (.cn []))))))) (fun _ h => (al h (fun _ h => (l0 h)) (fun _ h => (al h (fun _ h => (l0 h)) (fun _ h => (lf (eh h) (.cn []))))))))))))))))) (fun _ h => (al h (fun _ h => (al h (fun _ h => (l0 h)) (fun _ h => (al h (fun _ h => (l0 h)) (fun _ h => (al h (fun _ h => (l0 h)) (fun _ h => (al h (fun _ h => (al h (fun _ h => (l0 h)) (fun _ h => (al h (fun _ h => (l0 h)) (fun _ h => (lf (eh h) (.cn []))))))) (fun _ h => (al h (fun _ h => (al h (fun _ h => (l0 h)) (fun _ h => (al h (fun _ h => (l0 h)) (fun _ h => (lf (eh h) (.cn []))))))) (fun _ h => (al h (fun _ h => (l0 h)) (fun _ h => (al h (fun _ h => (l0 h)) (fun _ h => (lf (eh h) (.cn []))))))))))))))))) (fun _ h => (al h (fun _ h => (l0 h)) (fun _ h => (al h (fun _ h => (l0 h)) (fun _ h => (al h (fun _ h => (l0 h)) (fun _ h => (al h (fun _ h => (al h (fun _ h => (l0 h)) (fun _ h => (al h (fun _ h => (l0 h)) (fun _ h => (lf (eh h) (.cn []))))))) (fun _ h => (al h (fun _ h => (al h (fun _ h => (l0 h)) (fun _ h => (al h (fun _ h => (l0 h)) (fun _ h => (lf (eh h) (.cn []))))))) (fun _ h => (al h (fun _ h => (l0 h)) (fun _ h => (al h (fun _ h => (l0 h)) (fun _ h => (lf (eh h) (.cn []))))))))))))))))))))))))))) (fun _ h => (al h (fun _ h => (l0 h)) (fun _ h => (al h (fun _ h => (l0 h)) (fun _ h => (al h (fun _ h => (al h (fun _ h => (l0 h)) (fun _ h => (al h (fun _ h => (l0 h)) (fun _ h => (al h (fun _ h => (l0 h)) (fun _ h => (al h (fun _ h => (al h (fun _ h => (l0 h)) (fun _ h => (al h (fun _ h => (l0 h)) (fun _ h => (lf (eh h) (.cn []))))))) (fun _ h => (al h (fun _ h => (al h (fun _ h => (l0 h)) (fun _ h => (al h (fun _ h => (l0 h)) (fun _ h => (lf (eh h) (.cn []))))))) (fun _ h => (al h (fun _ h => (l0 h)) (fun _ h => (al h (fun _ h => (l0 h)) (fun _ h => (lf (eh h) (.cn []))))))))))))))))) (fun _ h => (al h (fun _ h => (al h (fun _ h => (l0 h)) (fun _ h => (al h (fun _ h => (l0 h)) (fun _ h => (al h (fun _ h => (l0 h)) (fun _ h => (al h (fun _ h => (al h (fun _ h => (l0 h)) (fun _ h => (al h (fun _ h => (l0 h)) (fun _ h => (lf (eh h) (.cn []))))))) (fun _ h => (al h (fun _ h => (al h (fun _ h => (l0 h)) (fun _ h => (al h (fun _ h => (l0 h)) (fun _ h => (lf (eh h) (.cn []))))))) (fun _ h => (al h (fun _ h => (l0 h)) (fun _ h => (al h (fun _ h => (l0 h)) (fun _ h => (lf (eh h) (.cn []))))))))))))))))) (fun _ h => (al h (fun _ h => (al h (fun _ h => (l0 h)) (fun _ h => (al h (fun _ h => (l0 h)) (fun _ h => (al h (fun _ h => (l0 h)) (fun _ h => (al h (fun _ h => (al h (fun _ h => (l0 h)) (fun _ h => (al h (fun _ h => (l0 h)) (fun _ h => (lf (eh h) (.cn []))))))) (fun _ h => (al h (fun _ h => (al h (fun _ h => (l0 h)) (fun _ h => (al h (fun _ h => (l0 h)) (fun _ h => (lf (eh h) (.cn []))))))) (fun _ h => (al h (fun _ h => (l0 h)) (fun _ h => (al h (fun _ h => (l0 h)) (fun _ h => (lf (eh h) (.cn []))))))))))))))))) (fun _ h => (al h (fun _ h => (l0 h)) (fun _ h => (al h (fun _ h => (l0 h)) (fun _ h => (al h (fun _ h => (l0 h)) (fun _ h => (al h (fun _ h => (al h (fun _ h => (l0 h)) (fun _ h => (al h (fun _ h => (l0 h)) (fun _ h => (lf (eh h) (.cn []))))))) (fun _ h => (al h (fun _ h => (al h (fun _ h => (l0 h)) (fun _ h => (al h (fun _ h => (l0 h)) (fun _ h => (lf (eh h) (.cn []))))))) (fun _ h => (al h (fun _ h => (l0 h)) (fun _ h => (al h (fun _ h => (l0 h)) (fun _ h => (lf (eh h) (.cn [])))))))))))))))))))))))))))))))
noncomputable def mP (kind : Int) : Option (ByteArray) := tC kind
noncomputable def G5 : bW := fO (aI .i64) mP (aA []) Lw
theorem N0 : Meets Tryz.prog 78 G5 := dq Tryz.f78 (ar Tryz.f78) [.tmp 2] 26 fun u0 y h => @aby u0 _ (bi.2 ⟨y,h,(cH (dh y) (VLe.rfl' _))⟩)
noncomputable abbrev e78 : FE Tryz.prog := ⟨78, .pure G5,N0⟩
noncomputable def ajW : List Code := aD (ar Tryz.f81)
def Jk (x_2 : Bool) : bS := .data (bl x_2)
def ahi (x_2 : Bool) : St := ⟨[sv 6 (bl x_2)],[],0⟩
def ahH (x_1 low high : Int) : St := ⟨[sv 0 (i64 x_1),sv 1 (i64 low),sv 2 (i64 high)],[],0⟩
noncomputable def pr (x_1 low high : Int) : Option (Bool) := (some (bif (decide (low ≤ x_1)) then (decide (x_1 ≤ high)) else false))
theorem ZA {x_1 low high : Int} {K : KT} (h : W (pr x_1 low high) (rE ahi K)) : ah Tryz.prog 15 (List.drop 0 ajW) K (ahH x_1 low high) :=
  ah.qE mixed [] [6] 0 3 (.nx (fun K => wK K .ret (ahi (bif (decide (low ≤ x_1)) then (decide (x_1 ≤ high)) else false))) (l0 h))
noncomputable def bV (x_1 low high : Int) : Option (Bool) := pr x_1 low high
noncomputable def Dq : bW := xt (aI .i64) (aI .i64) (aI .i64) bV false Jk
theorem KM : Meets Tryz.prog 81 Dq := sG Tryz.f81 (ar Tryz.f81) [.tmp 6] 15 fun u0 u1 u2 y h => @ZA u0 u1 u2 _ (bi.2 ⟨y,h,(cH (bl y) (VLe.rfl' _))⟩)
noncomputable abbrev e81 : FE Tryz.prog := ⟨81, .pure Dq,KM⟩
def gw (s : ByteArray) (c : Int) : Option Int := some (firstIdx s c.toNat.toUInt8)
def j8 : bW
  | [.c (.lit (.string s)), .c (.lit (.int .u8 c))] => some ([(gw s c).isSome = true], .data (i64 ((gw s c).getD (0 : Int))))
  | _ => none
theorem wg : Meets Tryz.prog 138 j8 := by
  intro ok w xs vs p out hx hok hcon hp
  unfold j8 at hcon
  split at hcon
  · next s c =>
    cases hcon
    obtain ⟨x,y,rfl⟩ : ∃ x y,xs = [x,y] := by
      have := hx.1
      match xs,this with
      | [x,y],_ => exact ⟨x,y,rfl⟩
    have e1 := (hx.2 0 x _ rfl rfl).lit_inv
    have e2 := (hx.2 1 y _ rfl rfl).lit_inv
    subst e1 e2
    refine .inr ⟨.int .i64 (firstIdx s c.toNat.toUInt8),w, ?_, .refl _ _, .lit _⟩
    rw [run_callFunc_extern (fn := Tryz.f138) (e := Extern.BytealgIndexByte.indexByte) (by kernel_rfl) (by kernel_rfl) (by kernel_rfl) (by kernel_rfl) (by kernel_rfl)]
    have := run_indexByte_string (P := Tryz.prog) s c w
    rw [show [Value.string s,Value.int .u8 c].toArray = #[Value.string s,Value.int .u8 c] from rfl,this]
    rfl
  · cases hcon
noncomputable abbrev akZ : FE Tryz.prog := ⟨138, .pure j8,wg⟩
noncomputable def afC : List Code := aD (ar Tryz.f129)
def p8 (x_1 : Int) : bS := .data (i64 x_1)
def XN (x_1 : Int) : St := ⟨[sv 4 (i64 x_1)],[],0⟩
def adv (s_1 : ByteArray) (c : Int) : St := ⟨[sv 0 (dh s_1),sv 1 (.c (.lit (.int .u8 c)))],[],0⟩
noncomputable def gZ (s_1 : ByteArray) (c : Int) : Option (Int) := (gw s_1 c).bind fun r_1 => ((some r_1))
theorem VU {s_1 : ByteArray} {c : Int} {K : KT} (h : W (gZ s_1 c) (rE XN K)) : ah Tryz.prog 8 (List.drop 0 afC) K (adv s_1 c) :=
  ah.qE mixed [akZ] [4] 0 3 (.nx (fun K => let a1_ := gw s_1 c; (a1_.isSome = true) ∧ (wK K .ret (XN (a1_.getD 0)))) (aq 0 h fun _ h => (l0 h)))
noncomputable def fe (s_1 : ByteArray) (c : Int) : Option (Int) := gZ s_1 c
noncomputable def kT : bW := fK aS (aI .u8) fe (0 : Int) p8
theorem qk : Meets Tryz.prog 129 kT := dp Tryz.f129 (ar Tryz.f129) [.tmp 4] 8 fun u0 u1 y h => @VU u0 u1 _ (bi.2 ⟨y,h,(cH (i64 y) (VLe.rfl' _))⟩)
noncomputable abbrev akY : FE Tryz.prog := ⟨129, .pure kT,qk⟩
noncomputable def agA : List Code := aD (ar Tryz.f109)
def td (x_1 : Int) : bS := .data (i64 x_1)
def aj3 (x_1 : Int) : St := ⟨[sv 4 (i64 x_1)],[],0⟩
def ZS (s_1 substr : ByteArray) : St := ⟨[sv 0 (dh s_1),sv 1 (dh substr)],[],0⟩
noncomputable def ja (s_1 substr : ByteArray) : Option (Int) := (bif (bif ((substr.size : Int) == 0) then true else (substr.toList == s_1.toList)) then (some 0) else (bif ((substr.size : Int) == 1) then gd (0 ≤ (0 : Int) ∧ (0 : Int) < (substr.size : Int)) ((fe s_1 ((substr.data.getD 0 0).toNat : Int)).bind fun r_1 => ((some r_1))) else (bif (decide ((s_1.size : Int) ≤ (substr.size : Int))) then (some (-1)) else none)))
theorem Wx {s_1 substr : ByteArray} {K : KT} (h : W (ja s_1 substr) (rE aj3 K)) : ah Tryz.prog 143 (List.drop 0 agA) K (ZS s_1 substr) :=
  ah.qD mixed [akY] [0,1,4,5,85,86,87,88,89,90,91,92,103,104,105,106,122,123,124,125,126,129,130,131] 0 3 3 (.nx (fun K => let a1_ := (substr.size : Int); let a2_ := fe s_1 ((substr.data.getD 0 0).toNat : Int); (bif (bif (a1_ == 0) then true else (substr.toList == s_1.toList)) then wK K .ret (⟨[sv 0 (dh s_1),sv 1 (dh substr),sv 4 (i64 0),sv 5 (i64 a1_)],[],0⟩) else (bif (a1_ == 1) then (0 ≤ (0 : Int)) ∧ ((0 : Int) < a1_) ∧ (a2_.isSome = true) ∧ (wK K .ret (⟨[sv 0 (dh s_1),sv 1 (dh substr),sv 4 (i64 (a2_.getD 0)),sv 5 (i64 a1_)],[],0⟩)) else (bif (decide ((s_1.size : Int) ≤ a1_)) then wK K .ret (⟨[sv 0 (dh s_1),sv 1 (dh substr),sv 4 (i64 (-1)),sv 5 (i64 a1_)],[],0⟩) else False)))) (al h (fun _ h => (lf h (.cn [4]))) (fun _ h => (al h (fun _ h => (aT h fun _ h => (aq 0 h fun _ h => (lf h (.cn [4]))))) (fun _ h => (al h (fun _ h => (lf h (.cn [4]))) (fun _ h => h)))))))
noncomputable def ib (s_1 substr : ByteArray) : Option (Int) := ja s_1 substr
noncomputable def mg : bW := fK aS aS ib (0 : Int) td
theorem tG : Meets Tryz.prog 109 mg := dp Tryz.f109 (ar Tryz.f109) [.tmp 4] 143 fun u0 u1 y h => @Wx u0 u1 _ (bi.2 ⟨y,h,(cH (i64 y) (VLe.rfl' _))⟩)
noncomputable abbrev akX : FE Tryz.prog := ⟨109, .pure mg,tG⟩
noncomputable def ajy : List Code := aD (ar Tryz.f96)
def Gk (x_1 : Int) : bS := .data (i64 x_1)
def ai1 (x_1 : Int) : St := ⟨[sv 4 (i64 x_1)],[],0⟩
def ajc (s_1 substr : ByteArray) : St := ⟨[sv 0 (dh s_1),sv 1 (dh substr)],[],0⟩
noncomputable def rC (s_1 substr : ByteArray) : Option (Int) := (ib s_1 substr).bind fun r_1 => ((some r_1))
theorem aeY {s_1 substr : ByteArray} {K : KT} (h : W (rC s_1 substr) (rE ai1 K)) : ah Tryz.prog 8 (List.drop 0 ajy) K (ajc s_1 substr) :=
  ah.qE mixed [akX] [4] 0 3 (.nx (fun K => let a1_ := ib s_1 substr; (a1_.isSome = true) ∧ (wK K .ret (ai1 (a1_.getD 0)))) (aq 0 h fun _ h => (l0 h)))
noncomputable def nD (s_1 substr : ByteArray) : Option (Int) := rC s_1 substr
noncomputable def zz : bW := fK aS aS nD (0 : Int) Gk
theorem Hh : Meets Tryz.prog 96 zz := dp Tryz.f96 (ar Tryz.f96) [.tmp 4] 8 fun u0 u1 y h => @aeY u0 u1 _ (bi.2 ⟨y,h,(cH (i64 y) (VLe.rfl' _))⟩)
noncomputable abbrev e96 : FE Tryz.prog := ⟨96, .pure zz,Hh⟩
noncomputable def aj1 : List Code := aD (ar Tryz.f80)
def Ck (x_1 : Bool) : bS := .data (bl x_1)
def agG (x_1 : Bool) : St := ⟨[sv 4 (bl x_1)],[],0⟩
def ah8 (s_1 substr : ByteArray) : St := ⟨[sv 0 (dh s_1),sv 1 (dh substr)],[],0⟩
noncomputable def ol (s_1 substr : ByteArray) : Option (Bool) := (nD s_1 substr).bind fun r_1 => ((some (decide (0 ≤ r_1))))
theorem aet {s_1 substr : ByteArray} {K : KT} (h : W (ol s_1 substr) (rE agG K)) : ah Tryz.prog 9 (List.drop 0 aj1) K (ah8 s_1 substr) :=
  ah.qE mixed [e96] [4] 0 3 (.nx (fun K => ((nD s_1 substr).isSome = true) ∧ (wK K .ret (agG (decide (0 ≤ ((nD s_1 substr).getD 0)))))) (aq 0 h fun _ h => (l0 h)))
noncomputable def mS (s_1 substr : ByteArray) : Option (Bool) := ol s_1 substr
noncomputable def vu : bW := fK aS aS mS false Ck
theorem D2 : Meets Tryz.prog 80 vu := dp Tryz.f80 (ar Tryz.f80) [.tmp 4] 9 fun u0 u1 y h => @aet u0 u1 _ (bi.2 ⟨y,h,(cH (bl y) (VLe.rfl' _))⟩)
noncomputable abbrev e80 : FE Tryz.prog := ⟨80, .pure vu,D2⟩
noncomputable def ajN : List Code := aD (ar Tryz.f79)
def rG (x_1 : Bool) : bS := .data (bl x_1)
def Wh (x_1 : Bool) : St := ⟨[sv 3 (bl x_1)],[],0⟩
theorem agV (x_1 : Bool) : dX Tryz.prog [.tmp 3] (du (rG x_1)) .ret (Wh x_1) :=
  dX.intro (v := (bl x_1)) (by kernel_rfl) ((VLe.rfl' _))
def RT (letter t1 : ByteArray) : St := ⟨[sv 0 (dh letter),sv 1 (.dptr 1 [(ds t1)] 0)],[],0⟩
noncomputable def oF (letter t1 : ByteArray) : Option (Bool) := (mS t1 letter).bind fun r_1 => ((some r_1))
theorem aaf {letter t1 : ByteArray} {K : KT} (h : W (oF letter t1) (rE Wh K)) : ah Tryz.prog 7 (List.drop 0 ajN) K (RT letter t1) :=
  ah.qE mixed [e80] [3] 0 3 (.nx (fun K => let a1_ := mS t1 letter; (a1_.isSome = true) ∧ (wK K .ret (Wh (a1_.getD false)))) (aq false h fun _ h => (l0 h)))
noncomputable def br (letter t1 : ByteArray) : Option (Bool) := oF letter t1
theorem afZ (letter t1 : ByteArray) (y_ : Bool) (h : br letter t1 = some y_) : ah Tryz.prog 7 (aD (ar Tryz.f79)) (dX Tryz.prog [.tmp 3] (du (rG y_))) (RT letter t1) :=
  @aaf letter t1 _ (bi.2 ⟨y_,h,agV y_⟩)
noncomputable def uC : bW
  | [(.c (.lit (.string a1))),(.dptr 1 [(.lit (.string a2))] 0)] => some ([(br a1 a2).isSome = true],(rG ((br a1 a2).getD false)))
  | _ => none
theorem In : Meets Tryz.prog 79 uC := by
  refine jA (fn := Tryz.f79) (c := ar Tryz.f79) (by kernel_rfl) (by kernel_rfl) (by kernel_rfl) (rs := [.tmp 3]) (by kernel_rfl) (nt := 7) (by kernel_rfl) fun vs p out h hp => ?_
  unfold uC at h
  split at h
  · next a1 a2 =>
    cases h
    obtain ⟨g,hp⟩ := dP hp
    obtain ⟨x,hx⟩ := Option.isSome_iff_exists.1 g
    rw [hx]
    exact ⟨[(dh a1),(.dptr 1 [(ds a2)] 0)],(VLes.cons (VLe.rfl' _) (VLes.cons (VLe.rfl' _) VLes.nil)),rfl,afZ a1 a2 x hx⟩
  · cases h
noncomputable abbrev e79 : FE Tryz.prog := ⟨79, .pure uC,In⟩
noncomputable def ajP : List Code := aD (ar Tryz.f82)
def J2 (x_2 : Bool) : bS := .data (bl x_2)
def agI (x_2 : Bool) : St := ⟨[sv 8 (bl x_2)],[],0⟩
def aiB (used : Bool) (x_1 low high : Int) : St := ⟨[sv 0 (bl used),sv 1 (i64 x_1),sv 2 (i64 low),sv 3 (i64 high)],[],0⟩
noncomputable def rb (used : Bool) (x_1 low high : Int) : Option (Bool) := gd ((used && true) = true → (bV x_1 low high).isSome = true) ((some (bif (bif used then ((bV x_1 low high).getD false) else false) then true else (bif (!used) then (x_1 == 0) else false))))
theorem ZL {used : Bool} {x_1 low high : Int} {K : KT} (h : W (rb used x_1 low high) (rE agI K)) : ah Tryz.prog 24 (List.drop 0 ajP) K (aiB used x_1 low high) :=
  ah.qE mixed [e81] [8] 0 3 (.nx (fun K => ((used && true) = true → (bV x_1 low high).isSome = true) ∧ (wK K .ret (agI (bif (bif used then ((bV x_1 low high).getD false) else false) then true else (bif (!used) then (x_1 == 0) else false))))) (bF h fun _ h => (l0 h)))
noncomputable def cu (used : Bool) (x_1 low high : Int) : Option (Bool) := rb used x_1 low high
noncomputable def Ex : bW := Kk aB (aI .i64) (aI .i64) (aI .i64) cu false J2
theorem LA : Meets Tryz.prog 82 Ex := Ib Tryz.f82 (ar Tryz.f82) [.tmp 8] 24 fun u0 u1 u2 u3 y h => @ZL u0 u1 u2 u3 _ (bi.2 ⟨y,h,(cH (bl y) (VLe.rfl' _))⟩)
noncomputable abbrev e82 : FE Tryz.prog := ⟨82, .pure Ex,LA⟩
noncomputable def ajH : List Code := aD (ar Tryz.f83)
def EL (x_1 : Bool) : bS := .data (bl x_1)
def aim (x_1 : Bool) : St := ⟨[sv 2 (bl x_1)],[],0⟩
def ajr (s_1 : ac) : St := ⟨[sv 0 (.ag (bs s_1))],[],0⟩
noncomputable def l3 (s_1 : ac) : Option (Bool) := (some (bif (bif (decide (0 ≤ s_1.From)) then (decide (s_1.From < s_1.To)) else false) then (decide (s_1.To ≤ 73049)) else false))
theorem aaD {s_1 : ac} {K : KT} (h : W (l3 s_1) (rE aim K)) : ah Tryz.prog 18 (List.drop 0 ajH) K (ajr s_1) :=
  ah.qE mixed [] [2] 0 3 (.nx (fun K => wK K .ret (aim (bif (bif (decide (0 ≤ s_1.From)) then (decide (s_1.From < s_1.To)) else false) then (decide (s_1.To ≤ 73049)) else false))) (l0 h))
noncomputable def kH (s_1 : ac) : Option (Bool) := l3 s_1
noncomputable def xp : bW := fO AA kH false EL
theorem F8 : Meets Tryz.prog 83 xp := dq Tryz.f83 (ar Tryz.f83) [.tmp 2] 18 fun u0 y h => @aaD u0 _ (bi.2 ⟨y,h,(cH (bl y) (VLe.rfl' _))⟩)
noncomputable abbrev e83 : FE Tryz.prog := ⟨83, .pure xp,F8⟩
noncomputable def Ms : List Code := aD (ar Tryz.f65)
def J9 (x_1 : Bool) : bS := .data (bl x_1)
def Ev (x_1 : Bool) : St := ⟨[sv 2 (bl x_1)],[],0⟩
def D9 : St := ⟨[],[],0⟩
noncomputable def ln : Option (Bool) := (some true)
theorem FV {K : KT} (h : W (ln) (rE Ev K)) : ah Tryz.prog 116 (List.drop 6 Ms) K (D9) :=
  ah.qE mixed [] [2] 6 2 (.nx (fun K => wK K .ret (Ev true)) (l0 h))
def Th (f : aa) : St := ⟨[sv 1 (.ptr 0 14 0 0),sv 89 (i64 f.Kind)],[(0,some (.bx (av f)))],1⟩
noncomputable def ro (f : aa) : Option (Bool) := (bif (f.Kind == 4) then (some (f.State != f.Seat)) else (bif (f.Kind == 11) then (bif (f.Kind == 11) then (some (f.Span.To == (ak (f.Span.From + 1)))) else (bif (f.Kind == 10) then (bif (f.Kind == 10) then (some (f.Ref != f.Person)) else ln) else (bif (f.Kind == 14) then (some (f.Ref != f.Person)) else ln))) else (bif (f.Kind == 12) then (some (f.Span.To == (ak (f.Span.From + 1)))) else (bif (f.Kind == 10) then (bif (f.Kind == 10) then (some (f.Ref != f.Person)) else ln) else (bif (f.Kind == 14) then (some (f.Ref != f.Person)) else ln)))))
theorem ae4 {f : aa} {K : KT} (h : W (ro f) (rE Ev K)) : ah Tryz.prog 116 (List.drop 5 Ms) K (Th f) :=
  ah.qD mixed [] [2] 5 1 6 (.nx (fun K => let a1_ := Ev (f.Ref != f.Person); let a2_ := Ev (f.Span.To == (ak (f.Span.From + 1))); (bif (f.Kind == 4) then wK K .ret (Ev (f.State != f.Seat)) else (bif (f.Kind == 11) then (bif (f.Kind == 11) then wK K .ret a2_ else (bif (f.Kind == 10) then (bif (f.Kind == 10) then wK K .ret a1_ else wK K .normal (D9)) else (bif (f.Kind == 14) then wK K .ret a1_ else wK K .normal (D9)))) else (bif (f.Kind == 12) then wK K .ret a2_ else (bif (f.Kind == 10) then (bif (f.Kind == 10) then wK K .ret a1_ else wK K .normal (D9)) else (bif (f.Kind == 14) then wK K .ret a1_ else wK K .normal (D9))))))) (al h (fun _ h => (l0 h)) (fun _ h => (al h (fun _ h => (al h (fun _ h => (l0 h)) (fun _ h => (al h (fun _ h => (al h (fun _ h => (l0 h)) (fun _ h => (l0 (FV h))))) (fun _ h => (al h (fun _ h => (l0 h)) (fun _ h => (l0 (FV h))))))))) (fun _ h => (al h (fun _ h => (l0 h)) (fun _ h => (al h (fun _ h => (al h (fun _ h => (l0 h)) (fun _ h => (l0 (FV h))))) (fun _ h => (al h (fun _ h => (l0 h)) (fun _ h => (l0 (FV h)))))))))))))
def SM (f : aa) (uses : ByteArray) : St := ⟨[sv 1 (.ptr 0 14 0 0),sv 3 (.ptr 1 1 0 0),sv 4 (.fn 79 [(.ptr 1 1 0 0)])],[(0,some (.bx (av f))),(1,some (.box [(dh uses)]))],2⟩
noncomputable def v7 (f : aa) (uses : ByteArray) : Option (Bool) := gd (((!(uses.toList == (aA []).toList)) && true) = true → (bV f.Issuer 0 5).isSome = true) (gd (((!(bif (uses.toList == (aA []).toList) then true else (!((bV f.Issuer 0 5).getD false)))) && true) = true → (bV f.Number 1 999).isSome = true) (gd (((!(bif (bif (uses.toList == (aA []).toList) then true else (!((bV f.Issuer 0 5).getD false))) then true else (!((bV f.Number 1 999).getD false)))) && true) = true → (bV f.Version 1 99).isSome = true) (gd (((!(bif (bif (bif (uses.toList == (aA []).toList) then true else (!((bV f.Issuer 0 5).getD false))) then true else (!((bV f.Number 1 999).getD false))) then true else (!((bV f.Version 1 99).getD false)))) && true) = true → (bV f.Person 1 99).isSome = true) ((bif (bif (bif (bif (bif (uses.toList == (aA []).toList) then true else (!((bV f.Issuer 0 5).getD false))) then true else (!((bV f.Number 1 999).getD false))) then true else (!((bV f.Version 1 99).getD false))) then true else (!((bV f.Person 1 99).getD false))) then (some false) else (br (aA [83]) uses).bind fun r_2 => ((cu r_2 f.State 0 5).bind fun r_3 => (gd (((!(!r_3)) && true) = true → (br (aA [84]) uses).isSome = true) (gd (((!(!r_3)) && true) = true → (cu ((br (aA [84]) uses).getD false) f.Seat 0 5).isSome = true) (gd (((!(bif (!r_3) then true else (!((cu ((br (aA [84]) uses).getD false) f.Seat 0 5).getD false)))) && true) = true → (kH f.Span).isSome = true) ((bif (bif (bif (!r_3) then true else (!((cu ((br (aA [84]) uses).getD false) f.Seat 0 5).getD false))) then true else (!((kH f.Span).getD false))) then (some false) else (br (aA [72]) uses).bind fun r_4 => ((cu r_4 f.Share 1 100).bind fun r_5 => (gd (((!(!r_5)) && true) = true → (br (aA [67]) uses).isSome = true) (gd (((!(!r_5)) && true) = true → (cu ((br (aA [67]) uses).getD false) f.Currency 1 999).isSome = true) (gd (((!(bif (!r_5) then true else (!((cu ((br (aA [67]) uses).getD false) f.Currency 1 999).getD false)))) && true) = true → (br (aA [65]) uses).isSome = true) (gd (((!(bif (!r_5) then true else (!((cu ((br (aA [67]) uses).getD false) f.Currency 1 999).getD false)))) && true) = true → (cu ((br (aA [65]) uses).getD false) f.Amount 0 1000000000).isSome = true) (gd (((!(bif (bif (!r_5) then true else (!((cu ((br (aA [67]) uses).getD false) f.Currency 1 999).getD false))) then true else (!((cu ((br (aA [65]) uses).getD false) f.Amount 0 1000000000).getD false)))) && true) = true → (br (aA [82]) uses).isSome = true) (gd (((!(bif (bif (!r_5) then true else (!((cu ((br (aA [67]) uses).getD false) f.Currency 1 999).getD false))) then true else (!((cu ((br (aA [65]) uses).getD false) f.Amount 0 1000000000).getD false)))) && true) = true → (cu ((br (aA [82]) uses).getD false) f.Ref 1 99).isSome = true) ((bif (bif (bif (bif (!r_5) then true else (!((cu ((br (aA [67]) uses).getD false) f.Currency 1 999).getD false))) then true else (!((cu ((br (aA [65]) uses).getD false) f.Amount 0 1000000000).getD false))) then true else (!((cu ((br (aA [82]) uses).getD false) f.Ref 1 99).getD false))) then (some false) else (ro f)))))))))))))))))))))
theorem aa1 {f : aa} {uses : ByteArray} {K : KT} (h : W (v7 f uses) (rE Ev K)) : ah Tryz.prog 116 (List.drop 3 Ms) K (SM f uses) :=
  ah.qD mixed [e79,e81,e82,e83] [1,2,89] 3 2 5 (.nx (fun K => let a5_ := cu ((br (aA [72]) uses).getD false) f.Share 1 100; let a13_ := br (aA [67]) uses; let a1_ := bif (!(a5_.getD false)) then true else (!((cu (a13_.getD false) f.Currency 1 999).getD false)); let a10_ := uses.toList == (aA []).toList; let a2_ := bif (bif a10_ then true else (!((bV f.Issuer 0 5).getD false))) then true else (!((bV f.Number 1 999).getD false)); let a3_ := cu ((br (aA [83]) uses).getD false) f.State 0 5; let a14_ := br (aA [65]) uses; let a4_ := bif a1_ then true else (!((cu (a14_.getD false) f.Amount 0 1000000000).getD false)); let a6_ := cu ((br (aA [84]) uses).getD false) f.Seat 0 5; let a7_ := bif a2_ then true else (!((bV f.Version 1 99).getD false)); let a8_ := cu ((br (aA [82]) uses).getD false) f.Ref 1 99; let a9_ := bif (!(a3_.getD false)) then true else (!(a6_.getD false)); let a11_ := (!(!(a3_.getD false))) && true; let a12_ := (!(!(a5_.getD false))) && true; (((!a10_) && true) = true → (bV f.Issuer 0 5).isSome = true) ∧ (((!(bif a10_ then true else (!((bV f.Issuer 0 5).getD false)))) && true) = true → (bV f.Number 1 999).isSome = true) ∧ (((!a2_) && true) = true → (bV f.Version 1 99).isSome = true) ∧ (((!a7_) && true) = true → (bV f.Person 1 99).isSome = true) ∧ ((bif (bif a7_ then true else (!((bV f.Person 1 99).getD false))) then wK K .ret (⟨[sv 1 (.ptr 0 14 0 0),sv 2 (bl false)],[(0,some (.bx (av f)))],1⟩) else ((br (aA [83]) uses).isSome = true) ∧ (a3_.isSome = true) ∧ (a11_ = true → (br (aA [84]) uses).isSome = true) ∧ (a11_ = true → a6_.isSome = true) ∧ (((!a9_) && true) = true → (kH f.Span).isSome = true) ∧ ((bif (bif a9_ then true else (!((kH f.Span).getD false))) then wK K .ret (⟨[sv 1 (.ptr 0 14 0 0),sv 2 (bl false)],[(0,some (.bx (av f)))],1⟩) else ((br (aA [72]) uses).isSome = true) ∧ (a5_.isSome = true) ∧ (a12_ = true → a13_.isSome = true) ∧ (a12_ = true → (cu (a13_.getD false) f.Currency 1 999).isSome = true) ∧ (((!a1_) && true) = true → a14_.isSome = true) ∧ (((!a1_) && true) = true → (cu (a14_.getD false) f.Amount 0 1000000000).isSome = true) ∧ (((!a4_) && true) = true → (br (aA [82]) uses).isSome = true) ∧ (((!a4_) && true) = true → a8_.isSome = true) ∧ ((bif (bif a4_ then true else (!(a8_.getD false))) then wK K .ret (⟨[sv 1 (.ptr 0 14 0 0),sv 2 (bl false)],[(0,some (.bx (av f)))],1⟩) else wK K .normal (Th f)))))))) (bF h fun _ h => (bF h fun _ h => (bF h fun _ h => (bF h fun _ h => (al h (fun _ h => (lf h (.cn [2]))) (fun _ h => (aq false h fun _ h => (aq false h fun _ h => (bF h fun _ h => (bF h fun _ h => (bF h fun _ h => (al h (fun _ h => (lf h (.cn [2]))) (fun _ h => (aq false h fun _ h => (aq false h fun _ h => (bF h fun _ h => (bF h fun _ h => (bF h fun _ h => (bF h fun _ h => (bF h fun _ h => (bF h fun _ h => (al h (fun _ h => (lf h (.cn [2]))) (fun _ h => (l0 (ae4 h))))))))))))))))))))))))))
def ahr (f : aa) : St := ⟨[sv 0 (.ag (av f))],[],0⟩
noncomputable def qV (f : aa) : Option (Bool) := (mP f.Kind).bind fun r_1 => ((v7 f r_1))
theorem acH {f : aa} {K : KT} (h : W (qV f) (rE Ev K)) : ah Tryz.prog 116 (List.drop 0 Ms) K (ahr f) :=
  ah.qD mixed [e78] [1,3,4,13,14,15,16,19,20,21,22,25,26,27,28,31,32,33,34,44,45,46,47,48,49,52,53,54,55,65,66,67,68,69,70,73,74,75,76,77,78,81,82,83,84,85,86] 0 3 3 (.nx (fun K => ((mP f.Kind).isSome = true) ∧ (wK K .normal (SM f ((mP f.Kind).getD (aA []))))) (aq (aA []) h fun _ h => (l0 (aa1 h))))
noncomputable def dJ (f : aa) : Option (Bool) := qV f
noncomputable def Fc : bW := fO kK dJ false J9
theorem L7 : Meets Tryz.prog 65 Fc := dq Tryz.f65 (ar Tryz.f65) [.tmp 2] 116 fun u0 y h => @acH u0 _ (bi.2 ⟨y,h,(cH (bl y) (VLe.rfl' _))⟩)
noncomputable abbrev PE : FE Tryz.prog := ⟨65, .pure Fc,L7⟩
noncomputable def aj4 : List Code := aD (ar Tryz.f84)
def Gp (x_2 : Bool) : bS := .data (bl x_2)
def agS (x_2 : Bool) : St := ⟨[sv 2 (bl x_2)],[],0⟩
def ah2 (x_1 : Int) : St := ⟨[sv 0 (i64 x_1)],[],0⟩
noncomputable def xq (x_1 : Int) : Option (Bool) := (some (x_1 != x_1))
theorem adP {x_1 : Int} {K : KT} (h : W (xq x_1) (rE agS K)) : ah Tryz.prog 6 (List.drop 0 aj4) K (ah2 x_1) :=
  ah.qE mixed [] [2] 0 3 (.nx (fun K => wK K .ret (agS (x_1 != x_1))) (l0 h))
noncomputable def iY (x_1 : Int) : Option (Bool) := xq x_1
noncomputable def zk : bW := fO (aI .i64) iY false Gp
theorem HG : Meets Tryz.prog 84 zk := dq Tryz.f84 (ar Tryz.f84) [.tmp 2] 6 fun u0 y h => @adP u0 _ (bi.2 ⟨y,h,(cH (bl y) (VLe.rfl' _))⟩)
noncomputable abbrev e84 : FE Tryz.prog := ⟨84, .pure zk,HG⟩
noncomputable def ajz : List Code := aD (ar Tryz.f67)
def D1 (x_2 : Int) : bS := .data (i64 x_2)
def HE (x_2 : Int) : St := ⟨[sv 4 (i64 x_2)],[],0⟩
def aiY (x_1 y : Int) : St := ⟨[sv 0 (i64 x_1),sv 1 (i64 y)],[],0⟩
noncomputable def lq (x_1 y : Int) : Option (Int) := (iY x_1).bind fun r_1 => ((iY y).bind fun r_2 => ((bif r_1 then (bif r_2 then (some 0) else (some (-1))) else (bif r_2 then (some 1) else (bif (decide (x_1 < y)) then (some (-1)) else (bif (decide (y < x_1)) then (some 1) else (some 0)))))))
theorem abr {x_1 y : Int} {K : KT} (h : W (lq x_1 y) (rE HE K)) : ah Tryz.prog 20 (List.drop 0 ajz) K (aiY x_1 y) :=
  ah.qE mixed [e84] [4] 0 13 (.nx (fun K => let a1_ := (iY y).getD false; ((iY x_1).isSome = true) ∧ (((iY y).isSome = true) ∧ ((bif ((iY x_1).getD false) then (bif a1_ then wK K .ret (HE 0) else wK K .ret (HE (-1))) else (bif a1_ then wK K .ret (HE 1) else (bif (decide (x_1 < y)) then wK K .ret (HE (-1)) else (bif (decide (y < x_1)) then wK K .ret (HE 1) else wK K .ret (HE 0)))))))) (aq false h fun _ h => (aq false h fun _ h => (al h (fun _ h => (al h (fun _ h => (l0 h)) (fun _ h => (l0 h)))) (fun _ h => (al h (fun _ h => (l0 h)) (fun _ h => (al h (fun _ h => (l0 h)) (fun _ h => (al h (fun _ h => (l0 h)) (fun _ h => (l0 h))))))))))))
noncomputable def dG (x_1 y : Int) : Option (Int) := lq x_1 y
noncomputable def ws : bW := fK (aI .i64) (aI .i64) dG (0 : Int) D1
theorem Eg : Meets Tryz.prog 67 ws := dp Tryz.f67 (ar Tryz.f67) [.tmp 4] 20 fun u0 u1 y h => @abr u0 u1 _ (bi.2 ⟨y,h,(cH (i64 y) (VLe.rfl' _))⟩)
noncomputable abbrev e67 : FE Tryz.prog := ⟨67, .pure ws,Eg⟩
noncomputable def wN : List Code := aD (ar Tryz.f66)
noncomputable def Xr : List Code := aD (aj (aj (aQ wN 3)))
def Kx (x_1 : Int) : bS := .data (i64 x_1)
def J0 (x_1 : Int) : St := ⟨[sv 2 (i64 x_1)],[],0⟩
def E9 (vals : (List Int)) (s : (Int)) : St := match s with | t8 => ⟨[sv 3 (i64 0),sv 6 (f5 vals),sv 7 (i64 (vals.length : Int)),sv 8 (i64 t8)],[],0⟩
def abQ (vals : (List Int)) (s : Int) : St := match s with | t2 => ⟨[sv 2 (i64 t2)],[],0⟩
def ad4 (vals : (List Int)) (s : Unit) : St := match s with | () => ⟨[sv 3 (i64 0)],[],0⟩
def AJ (vals : (List Int)) (r : ((Int) ⊕ (Unit))) (K : KT) : Prop := match r with | (.inl s) => K .ret (abQ vals s) | (.inr s) => K (.exit 0) (ad4 vals s)
def aib (vals : (List Int)) (t8 : Int) : St := ⟨[sv 3 (i64 0),sv 6 (f5 vals),sv 7 (i64 (vals.length : Int)),sv 8 (i64 t8)],[],0⟩
noncomputable def fV (vals : (List Int)) (t8 : Int) : Option ((Int) ⊕ ((Int) ⊕ (Unit))) := (bif (decide (t8 < (vals.length : Int))) then gd (0 ≤ t8 ∧ t8 < (vals.length : Int)) ((bif ((vals.getD (Int.toNat t8) (0 : Int)) != 0) then (some (Sum.inr (Sum.inl (vals.getD (Int.toNat t8) (0 : Int))))) else (some (Sum.inl (ak (t8 + 1)))))) else (some (Sum.inr (Sum.inr ()))))
theorem Y8 {vals : (List Int)} {t8 : Int} {K : KT} (h : W (fV vals t8) (nE (E9 vals) (AJ vals) K)) : ah Tryz.prog 18 (List.drop 0 Xr) K (aib vals t8) :=
  ah.qE mixed [] [2,3,6,7,8] 0 4 (.nx (fun K => let a1_ := (vals.length : Int); let a2_ := vals.getD (Int.toNat t8) (0 : Int); (bif (decide (t8 < a1_)) then (0 ≤ t8) ∧ (t8 < a1_) ∧ ((bif (a2_ != 0) then wK K .ret (⟨[sv 2 (i64 a2_),sv 3 (i64 0),sv 6 (f5 vals),sv 7 (i64 a1_),sv 8 (i64 t8)],[],0⟩) else wK K .normal (E9 vals (ak (t8 + 1))))) else wK K (.exit 0) (⟨[sv 3 (i64 0),sv 6 (f5 vals),sv 7 (i64 a1_),sv 8 (i64 t8)],[],0⟩))) (al h (fun _ h => (aT h fun _ h => (al h (fun _ h => (lf h (.cn [2]))) (fun _ h => (l0 h))))) (fun _ h => (lf h (.cn [3])))))
noncomputable def q5 (vals : (List Int)) (s : (Int)) : Option ((Int) ⊕ ((Int) ⊕ (Unit))) := match s with | t8 => fV vals t8
theorem aaP (vals : (List Int)) (s : (Int)) : Pp Tryz.prog 18 (List.drop 0 Xr) (E9 vals s) (q5 vals s) (cq (E9 vals) (AJ vals)) := fun K h => match s,h with | t8,h => (Y8 h)
theorem Qe (vals : (List Int)) : ∀ (r : ((Int) ⊕ (Unit))) (J : St → Prop) (K : KT),AJ vals r K → AJ vals r (aM J K)
  | (.inl s),_,_,h => h
  | (.inr s),_,_,h => h
def Uc : St := ⟨[sv 3 (i64 0)],[],0⟩
noncomputable def Db : Option (Int) := (some 0)
theorem Z1 {K : KT} (h : W (Db) (rE J0 K)) : ah Tryz.prog 18 (List.drop 4 wN) K (Uc) :=
  ah.qE mixed [] [2] 4 2 (.nx (fun K => wK K .ret (J0 0)) (l0 h))
def Sv (vals : (List Int)) : St := ⟨[sv 3 (i64 0),sv 6 (f5 vals),sv 7 (i64 (vals.length : Int)),sv 8 (i64 0)],[],0⟩
noncomputable def yW (vals : (List Int)) (r : ((Int) ⊕ (Unit))) : Option (Int) := match r with | (.inl t2) => (some t2) | (.inr ()) => Db
noncomputable def DJ (vals : (List Int)) : Option (Int) := (aN (q5 vals) 0).bind (yW vals)
theorem YU : List.drop 3 wN = .block 0 (.loop (aj (aj (aQ wN 3)))) :: List.drop 4 wN := by kernel_rfl
theorem agw (vals : (List Int)) (K : KT) : ∀ r : ((Int) ⊕ (Unit)),W (yW vals r) (rE J0 K) → AJ vals r (wK (bg 0 (aM (ah Tryz.prog 18 (List.drop 4 wN) K) K)))
  | (.inl t2),h => ⟨(J0 t2),(.refl _),h⟩
  | (.inr ()),h => ⟨(Uc),(.refl _),(Z1 h)⟩
theorem abK {vals : (List Int)} {K : KT} (h : W (DJ vals) (rE J0 K)) : ah Tryz.prog 18 (List.drop 3 wN) K (Sv vals) :=
  ah.at_ YU (ah.cons_loop (aE.weak (aE.ent (.refl _) (aE.loopF (x := aj (aj (aQ wN 3))) (f := q5 vals) (emb := E9 vals) (E := AJ vals) (aaP vals) (Qe vals) (bT h (agw vals K))))))
def ahL (vals : (List Int)) : St := ⟨[sv 0 (f5 vals)],[],0⟩
noncomputable def C8 (vals : (List Int)) : Option (Int) := (DJ vals)
theorem YV {vals : (List Int)} {K : KT} (h : W (C8 vals) (rE J0 K)) : ah Tryz.prog 18 (List.drop 0 wN) K (ahL vals) :=
  ah.qD mixed [] [3,6,7,8] 0 3 3 (.nx (fun K => wK K .normal (Sv vals)) (l0 (abK h)))
noncomputable def sZ (vals : (List Int)) : Option (Int) := C8 vals
noncomputable def Fw : bW := fO RG sZ (0 : Int) Kx
theorem LF : Meets Tryz.prog 66 Fw := dq Tryz.f66 (ar Tryz.f66) [.tmp 2] 18 fun u0 y h => @YV u0 _ (bi.2 ⟨y,h,(cH (i64 y) (VLe.rfl' _))⟩)
noncomputable abbrev e66 : FE Tryz.prog := ⟨66, .pure Fw,LF⟩
noncomputable def XC : List Code := aD (ar Tryz.f48)
def AV (x_1 : Int) : bS := .data (i64 x_1)
def af4 (x_1 : Int) : St := ⟨[sv 4 (i64 x_1)],[],0⟩
def T5 (a b : aa) : St := ⟨[sv 0 (.ag (av a)),sv 1 (.ag (av b))],[],0⟩
noncomputable def ka (a b : aa) : Option (Int) := (dG a.Issuer b.Issuer).bind fun r_1 => ((dG a.Number b.Number).bind fun r_2 => ((sZ ([r_1,r_2] : List Int)).bind fun r_3 => ((some r_3))))
theorem adk (a b : aa) (K : KT) {L1_ : List Int} (hL1_ : lst cC 2 (fun i => (ef ([((dG a.Issuer b.Issuer).getD 0),((dG a.Number b.Number).getD 0)] : List Int)) (0 + i)) = L1_) :
    ev Tryz.prog (cy [e66,e67]) 17 (ofItems ((List.drop 0 XC).take 3)) (cN [4] K) (T5 a b) =
    (let a1_ := dG a.Issuer b.Issuer; let a2_ := dG a.Number b.Number; (a1_.isSome = true) ∧ (a2_.isSome = true) ∧ (bk cP cC 1 1 2 (fun i => (ef ([(a1_.getD 0),(a2_.getD 0)] : List Int)) (0 + i))) ∧ ((sZ L1_).isSome = true) ∧ (wK K .ret (af4 ((sZ L1_).getD 0)))) := by subst hL1_; kernel_rfl
theorem aeF {a b : aa} {K : KT} (h : W (ka a b) (rE af4 K)) : ah Tryz.prog 17 (List.drop 0 XC) K (T5 a b) :=
  ah.qE mixed [e66,e67] [4] 0 3 (.of (adk a b _ (lr bj (ai.zero (ai.ls cP (0 : Int) ([((dG a.Issuer b.Issuer).getD 0),((dG a.Number b.Number).getD 0)] : List Int))))) (aq 0 h fun _ h => (aq 0 h fun _ h => ⟨ai.ok bj (ai.zero (ai.ls cP (0 : Int) ([((dG a.Issuer b.Issuer).getD 0),((dG a.Number b.Number).getD 0)] : List Int))),(aq 0 h fun _ h => (l0 h))⟩)))
noncomputable def l7 (a b : aa) : Option (Int) := ka a b
noncomputable def tY : bW := fK kK kK l7 (0 : Int) AV
theorem BX : Meets Tryz.prog 48 tY := dp Tryz.f48 (ar Tryz.f48) [.tmp 4] 17 fun u0 u1 y h => @aeF u0 u1 _ (bi.2 ⟨y,h,(cH (i64 y) (VLe.rfl' _))⟩)
noncomputable abbrev e48 : FE Tryz.prog := ⟨48, .pure tY,BX⟩
noncomputable def xe : List Code := aD (ar Tryz.f98)
noncomputable def rk : List Code := aD (aj (aj (aQ xe 2)))
noncomputable def wW : List Code := aD (aj (aQ rk 2))
noncomputable def XP : List Code := aD (aj (aj (aQ wW 2)))
def HF (x_2 : (List Int)) : St := ⟨[sv 6 (.row 0 1 0 x_2.length)],[(iL 0 5 x_2)],1⟩
theorem ah9 (x_2 : (List Int)) {H : az} {nid : Nat} {ps : List Prop} {o : Nat} : lK Tryz.prog [.tmp 6] (fun σ v => ∃ m,Left [o] nid H false { pre := ps,val := .row o 1 0 x_2.length,eff := [(o,some (.row 5 1 x_2.length (bf fX (0 : Int) x_2)))],kill := [o] } m σ v) .ret (HF x_2) :=
  lK.intro (v := (.row 0 1 0 x_2.length)) (by kernel_rfl) ⟨_,Cg (q := 0) rfl (fun _ _ => rfl) (.inr fun i hi d hd => xh _ d hd)⟩
theorem aeT (x_2 : (List Int)) {H : az} {nid : Nat} {ps : List Prop} : lK Tryz.prog [.tmp 6] (fun σ v => ∃ m,Left [] nid H false { pre := ps,val := .row nid 1 0 x_2.length,eff := [(nid,some (.row 5 1 x_2.length (bf fX (0 : Int) x_2)))],kill := [] } m σ v) .ret (HF x_2) :=
  lK.intro (v := (.row 0 1 0 x_2.length)) (by kernel_rfl) ⟨_,C6 (q := 0) rfl (fun _ _ => rfl) (.inr fun i hi d hd => xh _ d hd)⟩
def qG (b : (List Int)) (size : Int) (numbers : (List Int)) (s : ((List Int) × Int)) : St := match s with | (b_4,t12) => ⟨[sv 0 (.row 0 1 0 b_4.length),sv 1 (i64 size),sv 10 (f5 numbers),sv 11 (i64 (numbers.length : Int)),sv 12 (i64 t12)],[(iL 0 5 b_4)],1⟩
def abg (b : (List Int)) (size : Int) (numbers : (List Int)) (s : (List Int)) : St := match s with | b_6 => ⟨[sv 0 (.row 0 1 0 b_6.length)],[(iL 0 5 b_6)],1⟩
def oO (b : (List Int)) (size : Int) (numbers : (List Int)) (r : (((List Int)))) (K : KT) : Prop := match r with | s => K (.exit 0) (abg b size numbers s)
def JE (b_9 : (List Int)) (size x_1 i_1 : Int) (numbers : (List Int)) (t12_3 : Int) (s : ((List Int) × Int × Int)) : St := match s with | (b_1,i_2,t12_4) => ⟨[sv 0 (.row 0 1 0 b_1.length),sv 1 (i64 size),sv 8 (i64 x_1),sv 9 (i64 i_2),sv 10 (f5 numbers),sv 11 (i64 (numbers.length : Int)),sv 12 (i64 t12_4)],[(iL 0 5 b_1)],1⟩
def afk (b_9 : (List Int)) (size x_1 i_1 : Int) (numbers : (List Int)) (t12_3 : Int) (s : (List Int) × Int) : St := match s with | (b_2,t12_5) => ⟨[sv 0 (.row 0 1 0 b_2.length),sv 1 (i64 size),sv 10 (f5 numbers),sv 11 (i64 (numbers.length : Int)),sv 12 (i64 t12_5)],[(iL 0 5 b_2)],1⟩
def AU (b_9 : (List Int)) (size x_1 i_1 : Int) (numbers : (List Int)) (t12_3 : Int) (r : (((List Int) × Int))) (K : KT) : Prop := match r with | s => K (.exit 2) (afk b_9 size x_1 i_1 numbers t12_3 s)
def ahZ (b_1 : (List Int)) (size x_1 i_2 : Int) (numbers : (List Int)) (t12_4 : Int) : St := ⟨[sv 0 (.row 0 1 0 b_1.length),sv 1 (i64 size),sv 8 (i64 x_1),sv 9 (i64 i_2),sv 10 (f5 numbers),sv 11 (i64 (numbers.length : Int)),sv 12 (i64 t12_4)],[(iL 0 5 b_1)],1⟩
noncomputable def fD (b_1 : (List Int)) (size x_1 i_2 : Int) (numbers : (List Int)) (t12_4 : Int) : Option (((List Int) × Int × Int) ⊕ (((List Int) × Int))) := (bif (decide (0 ≤ i_2)) then gd (0 ≤ (ak (8 * i_2))) (gd (cL (b_1.length + 1) 1) ((some (Sum.inl ((b_1 ++ ([(IntKind.u8.wrap (Int.fdiv x_1 (2 ^ min (Int.toNat (ak (8 * i_2))) 64)))] : List Int)),(ak (i_2 - 1)),t12_4))))) else (some (Sum.inr (b_1,t12_4))))
theorem ady {b_1 : (List Int)} {size x_1 i_2 : Int} {numbers : (List Int)} {t12_4 : Int} {b_9 : (List Int)} {i_1 t12_3 : Int} {K : KT} (h : W (fD b_1 size x_1 i_2 numbers t12_4) (nE (JE b_9 size x_1 i_1 numbers t12_3) (AU b_9 size x_1 i_1 numbers t12_3) K)) : ah Tryz.prog 32 (List.drop 0 XP) K (ahZ b_1 size x_1 i_2 numbers t12_4) :=
  ah.qE mixed [] [0,1,8,9,10,11,12] 0 4 (.nx (fun K => let a1_ := i64 (numbers.length : Int); (bif (decide (0 ≤ i_2)) then (0 ≤ (ak (8 * i_2))) ∧ (b_1.length = b_1.length) ∧ ((b_1.length + 1) * 1 ≤ 140737488355328) ∧ ((b_1.length + 1) ≤ 140737488355328) ∧ (wK K .normal (⟨[sv 0 (.row 0 1 0 (b_1.length + 1)),sv 1 (i64 size),sv 8 (i64 x_1),sv 9 (i64 (ak (i_2 - 1))),sv 10 (f5 numbers),sv 11 a1_,sv 12 (i64 t12_4)],[(0,some (.row 5 1 (b_1.length + 1) (fun i => bif Nat.blt i b_1.length then (ju b_1) i else (fun i => (dw 1 (fX (IntKind.u8.wrap (Int.fdiv x_1 (2 ^ min (Int.toNat (ak (8 * i_2))) 64))))) (0 + i)) (i - b_1.length))))],1⟩)) else wK K (.exit 2) (⟨[sv 0 (.row 0 1 0 b_1.length),sv 1 (i64 size),sv 8 (i64 x_1),sv 9 (i64 i_2),sv 10 (f5 numbers),sv 11 a1_,sv 12 (i64 t12_4)],[(iL 0 5 b_1)],1⟩))) (al h (fun _ h => (bF h fun _ h => ⟨rfl,(aT h fun _ h => (lf h (.of (.cons rfl (.rown (ce rfl rfl)) (.qs 6 .nil)) (.row rfl (ai.app .b (ai.zero (ai.l1 (enc := fX) (z := (0 : Int)) 1 (IntKind.u8.wrap (Int.fdiv x_1 (2 ^ min (Int.toNat (ak (8 * i_2))) 64))) rfl))) .nil rfl) rfl)))⟩)) (fun _ h => (lf h (.cn [0,1,10,11,12])))))
noncomputable def jH (b_9 : (List Int)) (size x_1 i_1 : Int) (numbers : (List Int)) (t12_3 : Int) (s : ((List Int) × Int × Int)) : Option (((List Int) × Int × Int) ⊕ (((List Int) × Int))) := match s with | (b_1,i_2,t12_4) => fD b_1 size x_1 i_2 numbers t12_4
theorem afu (b_9 : (List Int)) (size x_1 i_1 : Int) (numbers : (List Int)) (t12_3 : Int) (s : ((List Int) × Int × Int)) : Pp Tryz.prog 32 (List.drop 0 XP) (JE b_9 size x_1 i_1 numbers t12_3 s) (jH b_9 size x_1 i_1 numbers t12_3 s) (cq (JE b_9 size x_1 i_1 numbers t12_3) (AU b_9 size x_1 i_1 numbers t12_3)) := fun K h => match s,h with | (b_1,i_2,t12_4),h => (ady h)
theorem PO (b_9 : (List Int)) (size x_1 i_1 : Int) (numbers : (List Int)) (t12_3 : Int) : ∀ (r : (((List Int) × Int))) (J : St → Prop) (K : KT),AU b_9 size x_1 i_1 numbers t12_3 r K → AU b_9 size x_1 i_1 numbers t12_3 r (aM J K)
  | s,_,_,h => h
def Sh (b_3 : (List Int)) (size : Int) (numbers : (List Int)) (t12_6 : Int) : St := ⟨[sv 0 (.row 0 1 0 b_3.length),sv 1 (i64 size),sv 10 (f5 numbers),sv 11 (i64 (numbers.length : Int)),sv 12 (i64 t12_6)],[(iL 0 5 b_3)],1⟩
noncomputable def jG (b_3 : (List Int)) (size : Int) (numbers : (List Int)) (t12_6 : Int) : Option (((List Int) × Int) ⊕ (((List Int)))) := (some (Sum.inl (b_3,(ak (t12_6 + 1)))))
theorem Ya {b_3 : (List Int)} {size : Int} {numbers : (List Int)} {t12_6 : Int} {b : (List Int)} {K : KT} (h : W (jG b_3 size numbers t12_6) (nE (qG b size numbers) (oO b size numbers) K)) : ah Tryz.prog 32 (List.drop 3 rk) K (Sh b_3 size numbers t12_6) :=
  ah.qE mixed [] [0,1,10,11,12] 3 1 (.nx (fun K => wK K .normal (qG b size numbers (b_3,(ak (t12_6 + 1))))) (l0 h))
def SH (b_9 : (List Int)) (size x_1 i_1 : Int) (numbers : (List Int)) (t12_3 : Int) : St := ⟨[sv 0 (.row 0 1 0 b_9.length),sv 1 (i64 size),sv 8 (i64 x_1),sv 9 (i64 i_1),sv 10 (f5 numbers),sv 11 (i64 (numbers.length : Int)),sv 12 (i64 t12_3)],[(iL 0 5 b_9)],1⟩
noncomputable def pU (b_9 : (List Int)) (size x_1 i_1 : Int) (numbers : (List Int)) (t12_3 : Int) (r : (((List Int) × Int))) : Option (((List Int) × Int) ⊕ (((List Int)))) := match r with | (b_2,t12_5) => (jG b_2 size numbers t12_5)
noncomputable def mI (b_9 : (List Int)) (size x_1 i_1 : Int) (numbers : (List Int)) (t12_3 : Int) : Option (((List Int) × Int) ⊕ (((List Int)))) := (aN (jH b_9 size x_1 i_1 numbers t12_3) (b_9,i_1,t12_3)).bind (pU b_9 size x_1 i_1 numbers t12_3)
theorem aa2 : List.drop 2 wW = .block 2 (.loop (aj (aj (aQ wW 2)))) :: List.drop 3 wW := by kernel_rfl
theorem aiI (b_9 : (List Int)) (size x_1 i_1 : Int) (numbers : (List Int)) (t12_3 : Int) (b : (List Int)) (K : KT) : ∀ r : (((List Int) × Int)),W (pU b_9 size x_1 i_1 numbers t12_3 r) (nE (qG b size numbers) (oO b size numbers) K) → AU b_9 size x_1 i_1 numbers t12_3 r (wK (bg 2 (aM (ah Tryz.prog 32 (List.drop 3 wW) (bg 1 (aM (ah Tryz.prog 32 (List.drop 3 rk) K) K))) (bg 1 (aM (ah Tryz.prog 32 (List.drop 3 rk) K) K)))))
  | (b_2,t12_5),h => ⟨(Sh b_2 size numbers t12_5),(.refl _),(ah.end_ (by kernel_rfl : List.drop 3 wW = []) (Ya h))⟩
theorem ad8 {b_9 : (List Int)} {size x_1 i_1 : Int} {numbers : (List Int)} {t12_3 : Int} {b : (List Int)} {K : KT} (h : W (mI b_9 size x_1 i_1 numbers t12_3) (nE (qG b size numbers) (oO b size numbers) K)) : ah Tryz.prog 32 (List.drop 2 wW) (bg 1 (aM (ah Tryz.prog 32 (List.drop 3 rk) K) K)) (SH b_9 size x_1 i_1 numbers t12_3) :=
  ah.at_ aa2 (ah.cons_loop (aE.weak (aE.ent (.refl _) (aE.loopF (x := aj (aj (aQ wW 2))) (f := jH b_9 size x_1 i_1 numbers t12_3) (emb := JE b_9 size x_1 i_1 numbers t12_3) (E := AU b_9 size x_1 i_1 numbers t12_3) (afu b_9 size x_1 i_1 numbers t12_3) (PO b_9 size x_1 i_1 numbers t12_3) (bT h (aiI b_9 size x_1 i_1 numbers t12_3 b K))))))
def afJ (b_7 : (List Int)) (size : Int) (numbers : (List Int)) (t12_2 : Int) : St := ⟨[sv 0 (.row 0 1 0 b_7.length),sv 1 (i64 size),sv 10 (f5 numbers),sv 11 (i64 (numbers.length : Int)),sv 12 (i64 t12_2)],[(iL 0 5 b_7)],1⟩
noncomputable def mh (b_7 : (List Int)) (size : Int) (numbers : (List Int)) (t12_2 : Int) : Option (((List Int) × Int) ⊕ (((List Int)))) := gd (0 ≤ t12_2 ∧ t12_2 < (numbers.length : Int)) ((mI b_7 size (numbers.getD (Int.toNat t12_2) (0 : Int)) (ak (size - 1)) numbers t12_2))
theorem aeq {b_7 : (List Int)} {size : Int} {numbers : (List Int)} {t12_2 : Int} {b : (List Int)} {K : KT} (h : W (mh b_7 size numbers t12_2) (nE (qG b size numbers) (oO b size numbers) K)) : ah Tryz.prog 32 (List.drop 0 wW) (bg 1 (aM (ah Tryz.prog 32 (List.drop 3 rk) K) K)) (afJ b_7 size numbers t12_2) :=
  ah.qD mixed [] [0,1,8,9,10,11,12] 0 2 2 (.nx (fun K => (0 ≤ t12_2) ∧ (t12_2 < (numbers.length : Int)) ∧ (wK K .normal (SH b_7 size (numbers.getD (Int.toNat t12_2) (0 : Int)) (ak (size - 1)) numbers t12_2))) (aT h fun _ h => (l0 (ad8 h))))
def S1 (b_5 : (List Int)) (size : Int) (numbers : (List Int)) (t12_1 : Int) : St := ⟨[sv 0 (.row 0 1 0 b_5.length),sv 1 (i64 size),sv 10 (f5 numbers),sv 11 (i64 (numbers.length : Int)),sv 12 (i64 t12_1)],[(iL 0 5 b_5)],1⟩
noncomputable def mr (b_5 : (List Int)) (size : Int) (numbers : (List Int)) (t12_1 : Int) : Option (((List Int) × Int) ⊕ (((List Int)))) := (mh b_5 size numbers t12_1)
theorem YO : List.drop 2 rk = .block 1 (aj (aQ rk 2)) :: List.drop 3 rk := by kernel_rfl
theorem abh {b_5 : (List Int)} {size : Int} {numbers : (List Int)} {t12_1 : Int} {b : (List Int)} {K : KT} (h : W (mr b_5 size numbers t12_1) (nE (qG b size numbers) (oO b size numbers) K)) : ah Tryz.prog 32 (List.drop 2 rk) K (S1 b_5 size numbers t12_1) :=
  ah.at_ YO (ah.cons_block (ah.en (aeq h) (.refl _)))
def ahz (b_4 : (List Int)) (size : Int) (numbers : (List Int)) (t12 : Int) : St := ⟨[sv 0 (.row 0 1 0 b_4.length),sv 1 (i64 size),sv 10 (f5 numbers),sv 11 (i64 (numbers.length : Int)),sv 12 (i64 t12)],[(iL 0 5 b_4)],1⟩
noncomputable def fz (b_4 : (List Int)) (size : Int) (numbers : (List Int)) (t12 : Int) : Option (((List Int) × Int) ⊕ (((List Int)))) := (bif (decide (t12 < (numbers.length : Int))) then (mr b_4 size numbers t12) else (some (Sum.inr b_4)))
theorem aaG {b_4 : (List Int)} {size : Int} {numbers : (List Int)} {t12 : Int} {b : (List Int)} {K : KT} (h : W (fz b_4 size numbers t12) (nE (qG b size numbers) (oO b size numbers) K)) : ah Tryz.prog 32 (List.drop 0 rk) K (ahz b_4 size numbers t12) :=
  ah.qD mixed [] [0,1,10,11,12] 0 2 2 (.nx (fun K => (bif (decide (t12 < (numbers.length : Int))) then wK K .normal (S1 b_4 size numbers t12) else wK K (.exit 0) (⟨[sv 0 (.row 0 1 0 b_4.length),sv 1 (i64 size),sv 10 (f5 numbers),sv 11 (i64 (numbers.length : Int)),sv 12 (i64 t12)],[(iL 0 5 b_4)],1⟩))) (al h (fun _ h => (l0 (abh h))) (fun _ h => (lf h (.cn [0])))))
noncomputable def ir (b : (List Int)) (size : Int) (numbers : (List Int)) (s : ((List Int) × Int)) : Option (((List Int) × Int) ⊕ (((List Int)))) := match s with | (b_4,t12) => fz b_4 size numbers t12
theorem ad3 (b : (List Int)) (size : Int) (numbers : (List Int)) (s : ((List Int) × Int)) : Pp Tryz.prog 32 (List.drop 0 rk) (qG b size numbers s) (ir b size numbers s) (cq (qG b size numbers) (oO b size numbers)) := fun K h => match s,h with | (b_4,t12),h => (aaG h)
theorem Qm (b : (List Int)) (size : Int) (numbers : (List Int)) : ∀ (r : (((List Int)))) (J : St → Prop) (K : KT),oO b size numbers r K → oO b size numbers r (aM J K)
  | s,_,_,h => h
def Ub (b_8 : (List Int)) : St := ⟨[sv 0 (.row 0 1 0 b_8.length)],[(iL 0 5 b_8)],1⟩
noncomputable def rL (b_8 : (List Int)) : Option ((List Int)) := (some b_8)
theorem ac2 {b_8 : (List Int)} {K : KT} (h : W (rL b_8) (rE HF K)) : ah Tryz.prog 32 (List.drop 3 xe) K (Ub b_8) :=
  ah.qE mixed [] [6] 3 2 (.nx (fun K => wK K .ret (HF b_8)) (l0 h))
def Sl (b : (List Int)) (size : Int) (numbers : (List Int)) : St := ⟨[sv 0 (.row 0 1 0 b.length),sv 1 (i64 size),sv 10 (f5 numbers),sv 11 (i64 (numbers.length : Int)),sv 12 (i64 0)],[(iL 0 5 b)],1⟩
noncomputable def li (b : (List Int)) (size : Int) (numbers : (List Int)) (r : (((List Int)))) : Option ((List Int)) := match r with | b_6 => (rL b_6)
noncomputable def se (b : (List Int)) (size : Int) (numbers : (List Int)) : Option ((List Int)) := (aN (ir b size numbers) (b,0)).bind (li b size numbers)
theorem aaR : List.drop 2 xe = .block 0 (.loop (aj (aj (aQ xe 2)))) :: List.drop 3 xe := by kernel_rfl
theorem ahn (b : (List Int)) (size : Int) (numbers : (List Int)) (K : KT) : ∀ r : (((List Int))),W (li b size numbers r) (rE HF K) → oO b size numbers r (wK (bg 0 (aM (ah Tryz.prog 32 (List.drop 3 xe) K) K)))
  | b_6,h => ⟨(Ub b_6),(.refl _),(ac2 h)⟩
theorem adb {b : (List Int)} {size : Int} {numbers : (List Int)} {K : KT} (h : W (se b size numbers) (rE HF K)) : ah Tryz.prog 32 (List.drop 2 xe) K (Sl b size numbers) :=
  ah.at_ aaR (ah.cons_loop (aE.weak (aE.ent (.refl _) (aE.loopF (x := aj (aj (aQ xe 2))) (f := ir b size numbers) (emb := qG b size numbers) (E := oO b size numbers) (ad3 b size numbers) (Qm b size numbers) (bT h (ahn b size numbers K))))))
def ajm (b : (List Int)) (size : Int) (numbers : (List Int)) : St := ⟨[sv 0 (.row 0 1 0 b.length),sv 1 (i64 size),sv 2 (f5 numbers)],[(iL 0 5 b)],1⟩
noncomputable def sn (b : (List Int)) (size : Int) (numbers : (List Int)) : Option ((List Int)) := (se b size numbers)
theorem Pt {b : (List Int)} {size : Int} {numbers : (List Int)} {K : KT} (h : W (sn b size numbers) (rE HF K)) : ah Tryz.prog 32 (List.drop 0 xe) K (ajm b size numbers) :=
  ah.qD mixed [] [0,1,10,11,12] 0 2 2 (.nx (fun K => wK K .normal (Sl b size numbers)) (l0 (adb h)))
noncomputable def aO (b : (List Int)) (size : Int) (numbers : (List Int)) : Option ((List Int)) := sn b size numbers
noncomputable def mT : az → Nat → List V → Option dE := fun H nid args => match ki H [true,false,false] args with
  | [(.row o_ k_ f_ n_),(.c (.lit (.int .i64 a1))),(.c (.sl k2 n3 e4))] => (match az.get H o_ with
    | some (.row t_ k2_ m_ e_) => bif Nat.beq t_ 5 && Nat.beq k2_ 1 && Nat.beq k_ 1 && Nat.beq f_ 0 && ea [o_] H false [true,false,false] args then some { pre := [n_ = m_,bk fX cQ 1 1 m_ e_,bk cP cC 1 k2 n3 e4,(aO (lst cQ m_ e_) a1 (lst cC n3 e4)).isSome = true],val := .row o_ 1 0 ((aO (lst cQ m_ e_) a1 (lst cC n3 e4)).getD ([] : List Int)).length,eff := [(o_,some (.row 5 1 ((aO (lst cQ m_ e_) a1 (lst cC n3 e4)).getD ([] : List Int)).length (bf fX (0 : Int) ((aO (lst cQ m_ e_) a1 (lst cC n3 e4)).getD ([] : List Int)))))],kill := [o_] } else none
    | _ => none)
  | [(.c .nil),(.c (.lit (.int .i64 a1))),(.c (.sl k2 n3 e4))] => bif ea [] H false [true,false,false] args then some { pre := [bk cP cC 1 k2 n3 e4,(aO ([] : List Int) a1 (lst cC n3 e4)).isSome = true],val := .row nid 1 0 ((aO ([] : List Int) a1 (lst cC n3 e4)).getD ([] : List Int)).length,eff := [(nid,some (.row 5 1 ((aO ([] : List Int) a1 (lst cC n3 e4)).getD ([] : List Int)).length (bf fX (0 : Int) ((aO ([] : List Int) a1 (lst cC n3 e4)).getD ([] : List Int)))))],kill := [] } else none
  | _ => none
theorem BH : dl Tryz.prog 98 (.mut mT) := by
  refine zc (fn := Tryz.f98) (c := ar Tryz.f98) (by kernel_rfl) (by kernel_rfl) (by kernel_rfl) (rs := [.tmp 6]) (by kernel_rfl) (nt := 32) (by kernel_rfl) fun H nid args r h hp => ?_
  unfold mT at h
  split at h
  · next o_ k_ f_ n_ a1 k2 n3 e4 hv =>
    split at h
    · next t_ k2_ m_ e_ hg =>
      cases hb : (Nat.beq t_ 5 && Nat.beq k2_ 1 && Nat.beq k_ 1 && Nat.beq f_ 0 && ea [o_] H false [true,false,false] args) with
      | false => rw [hb] at h; cases h
      | true =>
        rw [hb] at h
        simp only [Bool.and_eq_true,Nat.beq_eq] at hb
        obtain ⟨⟨⟨⟨rfl,rfl⟩,rfl⟩,rfl⟩,hk⟩ := hb
        cases h
        obtain ⟨hn,hp⟩ := dP hp
        obtain ⟨gr,hp⟩ := dP hp
        obtain ⟨g0,hp⟩ := dP hp
        obtain ⟨g,hp⟩ := dP hp
        obtain ⟨x,hx⟩ := Option.isSome_iff_exists.1 g
        rw [hx]
        subst hn
        exact .inl ⟨false,[true,false,false],o_,5,1,_,e_,[.row 0 1 0 (lst cQ _ e_).length,(i64 a1),(f5 (lst cC n3 e4))],hg,hk,by rw [hv]; simp only [p9,cond_true,cond_false,CS]; exact (VLes.cons (VLe.rown (ai.of_ok (z := (0 : Int)) gr).len) (VLes.cons (VLe.rfl' _) (VLes.cons (VLe.slk g0.1 (ai.of_ok g0)) VLes.nil))),rfl,ah.ent (em.of (dg.cons rfl (VLe.rfl' _) (dg.cons rfl (VLe.rfl' _) (dg.cons rfl (VLe.rfl' _) dg.nil))) (eN.row rfl (ai.of_ok gr) eN.nil rfl) rfl) (@Pt (lst cQ _ e_) a1 (lst cC n3 e4) _ (bi.2 ⟨x,hx,ah9 x⟩))⟩
    · cases h
  · next a1 k2 n3 e4 hv =>
    cases hb : ea [] H false [true,false,false] args with
      | false => rw [hb] at h; cases h
      | true =>
        rw [hb] at h
        cases h
        obtain ⟨g0,hp⟩ := dP hp
        obtain ⟨g,hp⟩ := dP hp
        obtain ⟨x,hx⟩ := Option.isSome_iff_exists.1 g
        rw [hx]
        exact .inr ⟨false,[true,false,false],[.c .nil,(i64 a1),(f5 (lst cC n3 e4))],hb,by rw [hv]; simp only [p9,cond_true,cond_false]; exact (VLes.cons (VLe.rfl' _) (VLes.cons (VLe.rfl' _) (VLes.cons (VLe.slk g0.1 (ai.of_ok g0)) VLes.nil))),rfl,ah.ent (em.trans (em.nilrow 0 0 5 1 (bf fX (0 : Int) []) (Nat.le_refl _) rfl) (em.of (dg.cons rfl (VLe.rown rfl) (dg.cons rfl (VLe.rfl' _) (dg.cons rfl (VLe.rfl' _) dg.nil))) (eN.row rfl (ai.ls fX (0 : Int) []) eN.nil rfl) rfl)) (@Pt ([] : List Int) a1 (lst cC n3 e4) _ (bi.2 ⟨x,hx,aeT x⟩))⟩
  · cases h
noncomputable abbrev X0 : FE Tryz.prog := ⟨98, .mut mT,BH⟩
noncomputable def sW : List Code := aD (ar Tryz.f86)
noncomputable def QD : List Code := aD (aj (aj (aQ sW 10)))
def J3 (x_1 : (List Int)) : bS := .own true 5 1 (x_1).length (bf fX (0 : Int) x_1)
def KG (x_1 : (List Int)) : St := ⟨[sv 2 (.row 0 1 0 x_1.length)],[(iL 0 5 x_1)],1⟩
def nT (b : (List Int)) (f : aa) (t34 : ByteArray) (s : ((List Int) × Nat)) : St := match s with | (b_1,t34_1) => ⟨[sv 1 (.ptr 0 14 0 0),sv 4 (.row 1 1 0 b_1.length),sv 34 (.ptr 2 1 0 0)],[(0,some (.bx (av f))),(iL 1 5 b_1),(2,some (.raw (.stringIter t34 t34_1)))],3⟩
def aeO (b : (List Int)) (f : aa) (t34 : ByteArray) (s : (List Int)) : St := match s with | b_2 => ⟨[sv 4 (.row 0 1 0 b_2.length)],[(iL 0 5 b_2)],1⟩
def AG (b : (List Int)) (f : aa) (t34 : ByteArray) (r : (((List Int)))) (K : KT) : Prop := match r with | s => K (.exit 0) (aeO b f t34 s)
def SG (b_1 : (List Int)) (f : aa) (t34 : ByteArray) (t34_1 : Nat) : St := ⟨[sv 1 (.ptr 0 14 0 0),sv 4 (.row 1 1 0 b_1.length),sv 34 (.ptr 2 1 0 0)],[(0,some (.bx (av f))),(iL 1 5 b_1),(2,some (.raw (.stringIter t34 t34_1)))],3⟩
noncomputable def jX (b_1 : (List Int)) (f : aa) (t34 : ByteArray) (t34_1 : Nat) : Option (((List Int) × Nat) ⊕ (((List Int)))) := (bif (Nat.blt t34_1 t34.size) then gd ((Nat.blt t34_1 t34.size) = true) ((bif ((lI t34 t34_1) == 83) then (aO b_1 1 ([f.State] : List Int)).bind fun r_6 => ((some (Sum.inl (r_6,(bif (Nat.blt t34_1 t34.size) then (t34_1 + (lX t34 t34_1)) else t34_1))))) else (bif ((lI t34 t34_1) == 80) then (aO b_1 3 ([f.Span.From,f.Span.To] : List Int)).bind fun r_7 => ((some (Sum.inl (r_7,(bif (Nat.blt t34_1 t34.size) then (t34_1 + (lX t34 t34_1)) else t34_1))))) else (bif ((lI t34 t34_1) == 84) then (aO b_1 1 ([f.Seat] : List Int)).bind fun r_8 => ((some (Sum.inl (r_8,(bif (Nat.blt t34_1 t34.size) then (t34_1 + (lX t34 t34_1)) else t34_1))))) else (bif ((lI t34 t34_1) == 72) then (aO b_1 1 ([f.Share] : List Int)).bind fun r_9 => ((some (Sum.inl (r_9,(bif (Nat.blt t34_1 t34.size) then (t34_1 + (lX t34 t34_1)) else t34_1))))) else (bif ((lI t34 t34_1) == 67) then (aO b_1 2 ([f.Currency] : List Int)).bind fun r_10 => ((some (Sum.inl (r_10,(bif (Nat.blt t34_1 t34.size) then (t34_1 + (lX t34 t34_1)) else t34_1))))) else (bif ((lI t34 t34_1) == 65) then (aO b_1 4 ([f.Amount] : List Int)).bind fun r_11 => ((some (Sum.inl (r_11,(bif (Nat.blt t34_1 t34.size) then (t34_1 + (lX t34 t34_1)) else t34_1))))) else (bif ((lI t34 t34_1) == 82) then (aO b_1 1 ([f.Ref] : List Int)).bind fun r_12 => ((some (Sum.inl (r_12,(bif (Nat.blt t34_1 t34.size) then (t34_1 + (lX t34 t34_1)) else t34_1))))) else (some (Sum.inl (b_1,(bif (Nat.blt t34_1 t34.size) then (t34_1 + (lX t34 t34_1)) else t34_1)))))))))))) else (some (Sum.inr b_1)))
theorem abG (b_1 : (List Int)) (f : aa) (t34 : ByteArray) (t34_1 : Nat) (b : (List Int)) (K : KT) {L1_ : List Int} (hL1_ : lst cQ b_1.length (ju b_1) = L1_) {L2_ : List Int} (hL2_ : lst cC 1 (fun i => (ef ([f.State] : List Int)) (0 + i)) = L2_) {L3_ : List Int} (hL3_ : lst cQ b_1.length (ju b_1) = L3_) {L4_ : List Int} (hL4_ : lst cC 2 (fun i => (ef ([f.Span.From,f.Span.To] : List Int)) (0 + i)) = L4_) {L5_ : List Int} (hL5_ : lst cQ b_1.length (ju b_1) = L5_) {L6_ : List Int} (hL6_ : lst cC 1 (fun i => (ef ([f.Seat] : List Int)) (0 + i)) = L6_) {L7_ : List Int} (hL7_ : lst cQ b_1.length (ju b_1) = L7_) {L8_ : List Int} (hL8_ : lst cC 1 (fun i => (ef ([f.Share] : List Int)) (0 + i)) = L8_) {L9_ : List Int} (hL9_ : lst cQ b_1.length (ju b_1) = L9_) {L10_ : List Int} (hL10_ : lst cC 1 (fun i => (ef ([f.Currency] : List Int)) (0 + i)) = L10_) {L11_ : List Int} (hL11_ : lst cQ b_1.length (ju b_1) = L11_) {L12_ : List Int} (hL12_ : lst cC 1 (fun i => (ef ([f.Amount] : List Int)) (0 + i)) = L12_) {L13_ : List Int} (hL13_ : lst cQ b_1.length (ju b_1) = L13_) {L14_ : List Int} (hL14_ : lst cC 1 (fun i => (ef ([f.Ref] : List Int)) (0 + i)) = L14_) :
    ev Tryz.prog (cy [X0]) 93 (ofItems ((List.drop 0 QD).take 3)) (cN [1,4,34] K) (SG b_1 f t34 t34_1) =
    (let a1_ := bif (Nat.blt t34_1 t34.size) then (t34_1 + (lX t34 t34_1)) else t34_1; let a2_ := b_1.length = b_1.length; let a3_ := lI t34 t34_1; let a4_ := aO L11_ 4 L12_; let a5_ := aO L13_ 1 L14_; let a6_ := aO L9_ 2 L10_; let a7_ := aO L1_ 1 L2_; let a8_ := aO L3_ 3 L4_; let a9_ := aO L5_ 1 L6_; (bif (Nat.blt t34_1 t34.size) then ((Nat.blt t34_1 t34.size) = true) ∧ ((bif (a3_ == 83) then a2_ ∧ (oB b_1) ∧ (bk cP cC 1 1 1 (fun i => (ef ([f.State] : List Int)) (0 + i))) ∧ (a7_.isSome = true) ∧ (wK K .normal (nT b f t34 ((a7_.getD []),a1_))) else (bif (a3_ == 80) then a2_ ∧ (oB b_1) ∧ (bk cP cC 1 1 2 (fun i => (ef ([f.Span.From,f.Span.To] : List Int)) (0 + i))) ∧ (a8_.isSome = true) ∧ (wK K .normal (nT b f t34 ((a8_.getD []),a1_))) else (bif (a3_ == 84) then a2_ ∧ (oB b_1) ∧ (bk cP cC 1 1 1 (fun i => (ef ([f.Seat] : List Int)) (0 + i))) ∧ (a9_.isSome = true) ∧ (wK K .normal (nT b f t34 ((a9_.getD []),a1_))) else (bif (a3_ == 72) then a2_ ∧ (oB b_1) ∧ (bk cP cC 1 1 1 (fun i => (ef ([f.Share] : List Int)) (0 + i))) ∧ ((aO L7_ 1 L8_).isSome = true) ∧ (wK K .normal (nT b f t34 (((aO L7_ 1 L8_).getD []),a1_))) else (bif (a3_ == 67) then a2_ ∧ (oB b_1) ∧ (bk cP cC 1 1 1 (fun i => (ef ([f.Currency] : List Int)) (0 + i))) ∧ (a6_.isSome = true) ∧ (wK K .normal (nT b f t34 ((a6_.getD []),a1_))) else (bif (a3_ == 65) then a2_ ∧ (oB b_1) ∧ (bk cP cC 1 1 1 (fun i => (ef ([f.Amount] : List Int)) (0 + i))) ∧ (a4_.isSome = true) ∧ (wK K .normal (nT b f t34 ((a4_.getD []),a1_))) else (bif (a3_ == 82) then a2_ ∧ (oB b_1) ∧ (bk cP cC 1 1 1 (fun i => (ef ([f.Ref] : List Int)) (0 + i))) ∧ (a5_.isSome = true) ∧ (wK K .normal (nT b f t34 ((a5_.getD []),a1_))) else wK K .normal (nT b f t34 (b_1,a1_)))))))))) else wK K (.exit 0) (⟨[sv 1 (.ptr 0 14 0 0),sv 4 (.row 1 1 0 b_1.length),sv 34 (.ptr 2 1 0 0)],[(0,some (.bx (av f))),(iL 1 5 b_1),(2,some (.raw (.stringIter t34 a1_)))],3⟩))) := by subst hL1_ hL2_ hL3_ hL4_ hL5_ hL6_ hL7_ hL8_ hL9_ hL10_ hL11_ hL12_ hL13_ hL14_; kernel_rfl
theorem ac0 {b_1 : (List Int)} {f : aa} {t34 : ByteArray} {t34_1 : Nat} {b : (List Int)} {K : KT} (h : W (jX b_1 f t34 t34_1) (nE (nT b f t34) (AG b f t34) K)) : ah Tryz.prog 93 (List.drop 0 QD) K (SG b_1 f t34 t34_1) :=
  ah.qE mixed [X0] [1,4,34] 0 3 (.of (abG b_1 f t34 t34_1 b _ (lb bz) (lr bj (ai.zero (ai.ls cP (0 : Int) ([f.State] : List Int)))) (lb bz) (lr bj (ai.zero (ai.ls cP (0 : Int) ([f.Span.From,f.Span.To] : List Int)))) (lb bz) (lr bj (ai.zero (ai.ls cP (0 : Int) ([f.Seat] : List Int)))) (lb bz) (lr bj (ai.zero (ai.ls cP (0 : Int) ([f.Share] : List Int)))) (lb bz) (lr bj (ai.zero (ai.ls cP (0 : Int) ([f.Currency] : List Int)))) (lb bz) (lr bj (ai.zero (ai.ls cP (0 : Int) ([f.Amount] : List Int)))) (lb bz) (lr bj (ai.zero (ai.ls cP (0 : Int) ([f.Ref] : List Int))))) (al h (fun _ h => (bF h fun _ h => (al h (fun _ h => ⟨(rfl),⟨kb bz,⟨ai.ok bj (ai.zero (ai.ls cP (0 : Int) ([f.State] : List Int))),(aq [] h fun _ h => (l0 h))⟩⟩⟩) (fun _ h => (al h (fun _ h => ⟨(rfl),⟨kb bz,⟨ai.ok bj (ai.zero (ai.ls cP (0 : Int) ([f.Span.From,f.Span.To] : List Int))),(aq [] h fun _ h => (l0 h))⟩⟩⟩) (fun _ h => (al h (fun _ h => ⟨(rfl),⟨kb bz,⟨ai.ok bj (ai.zero (ai.ls cP (0 : Int) ([f.Seat] : List Int))),(aq [] h fun _ h => (l0 h))⟩⟩⟩) (fun _ h => (al h (fun _ h => ⟨(rfl),⟨kb bz,⟨ai.ok bj (ai.zero (ai.ls cP (0 : Int) ([f.Share] : List Int))),(aq [] h fun _ h => (l0 h))⟩⟩⟩) (fun _ h => (al h (fun _ h => ⟨(rfl),⟨kb bz,⟨ai.ok bj (ai.zero (ai.ls cP (0 : Int) ([f.Currency] : List Int))),(aq [] h fun _ h => (l0 h))⟩⟩⟩) (fun _ h => (al h (fun _ h => ⟨(rfl),⟨kb bz,⟨ai.ok bj (ai.zero (ai.ls cP (0 : Int) ([f.Amount] : List Int))),(aq [] h fun _ h => (l0 h))⟩⟩⟩) (fun _ h => (al h (fun _ h => ⟨(rfl),⟨kb bz,⟨ai.ok bj (ai.zero (ai.ls cP (0 : Int) ([f.Ref] : List Int))),(aq [] h fun _ h => (l0 h))⟩⟩⟩) (fun _ h => (l0 h))))))))))))))))) (fun _ h => (lf h (.cn [4])))))
noncomputable def rn (b : (List Int)) (f : aa) (t34 : ByteArray) (s : ((List Int) × Nat)) : Option (((List Int) × Nat) ⊕ (((List Int)))) := match s with | (b_1,t34_1) => jX b_1 f t34 t34_1
theorem afj (b : (List Int)) (f : aa) (t34 : ByteArray) (s : ((List Int) × Nat)) : Pp Tryz.prog 93 (List.drop 0 QD) (nT b f t34 s) (rn b f t34 s) (cq (nT b f t34) (AG b f t34)) := fun K h => match s,h with | (b_1,t34_1),h => (ac0 h)
theorem Qw (b : (List Int)) (f : aa) (t34 : ByteArray) : ∀ (r : (((List Int)))) (J : St → Prop) (K : KT),AG b f t34 r K → AG b f t34 r (aM J K)
  | s,_,_,h => h
def UB (b_3 : (List Int)) : St := ⟨[sv 4 (.row 0 1 0 b_3.length)],[(iL 0 5 b_3)],1⟩
noncomputable def vZ (b_3 : (List Int)) : Option ((List Int)) := (some b_3)
theorem adN {b_3 : (List Int)} {K : KT} (h : W (vZ b_3) (rE KG K)) : ah Tryz.prog 93 (List.drop 11 sW) K (UB b_3) :=
  ah.qE mixed [] [2] 11 2 (.nx (fun K => wK K .ret (KG b_3)) (l0 h))
def UV (b : (List Int)) (f : aa) (t34 : ByteArray) : St := ⟨[sv 1 (.ptr 0 14 0 0),sv 4 (.row 1 1 0 b.length),sv 34 (.ptr 2 1 0 0)],[(0,some (.bx (av f))),(iL 1 5 b),(2,some (.raw (.stringIter t34 0)))],3⟩
noncomputable def tg (b : (List Int)) (f : aa) (t34 : ByteArray) (r : (((List Int)))) : Option ((List Int)) := match r with | b_2 => (vZ b_2)
noncomputable def Dy (b : (List Int)) (f : aa) (t34 : ByteArray) : Option ((List Int)) := (aN (rn b f t34) (b,0)).bind (tg b f t34)
theorem afc : List.drop 10 sW = .block 0 (.loop (aj (aj (aQ sW 10)))) :: List.drop 11 sW := by kernel_rfl
theorem ahx (b : (List Int)) (f : aa) (t34 : ByteArray) (K : KT) : ∀ r : (((List Int))),W (tg b f t34 r) (rE KG K) → AG b f t34 r (wK (bg 0 (aM (ah Tryz.prog 93 (List.drop 11 sW) K) K)))
  | b_2,h => ⟨(UB b_2),(.refl _),(adN h)⟩
theorem Yn {b : (List Int)} {f : aa} {t34 : ByteArray} {K : KT} (h : W (Dy b f t34) (rE KG K)) : ah Tryz.prog 93 (List.drop 10 sW) K (UV b f t34) :=
  ah.at_ afc (ah.cons_loop (aE.weak (aE.ent (.refl _) (aE.loopF (x := aj (aj (aQ sW 10))) (f := rn b f t34) (emb := nT b f t34) (E := AG b f t34) (afj b f t34) (Qw b f t34) (bT h (ahx b f t34 K))))))
def Si (withdrawn : Int) (f : aa) : St := ⟨[sv 1 (.ptr 0 14 0 0),sv 3 (i64 withdrawn)],[(0,some (.bx (av f)))],1⟩
noncomputable def nJ (withdrawn : Int) (f : aa) : Option ((List Int)) := (aO ([] : List Int) 1 ([f.Issuer] : List Int)).bind fun r_2 => ((aO r_2 2 ([f.Number] : List Int)).bind fun r_3 => ((aO r_3 1 ([f.Version,withdrawn,f.Person,f.Kind] : List Int)).bind fun r_4 => ((mP f.Kind).bind fun r_5 => ((Dy r_4 f r_5)))))
theorem Zm (withdrawn : Int) (f : aa) (K : KT) {L1_ : List Int} (hL1_ : lst cC 1 (fun i => (ef ([f.Issuer] : List Int)) (0 + i)) = L1_) {L2_ : List Int} (hL2_ : lst cQ ((((aO ([] : List Int) 1 L1_).getD [])).length) (ju ((aO ([] : List Int) 1 L1_).getD [])) = L2_) {L3_ : List Int} (hL3_ : lst cC 1 (fun i => (ef ([f.Number] : List Int)) (0 + i)) = L3_) {L4_ : List Int} (hL4_ : lst cQ ((((aO L2_ 2 L3_).getD [])).length) (ju ((aO L2_ 2 L3_).getD [])) = L4_) {L5_ : List Int} (hL5_ : lst cC 4 (fun i => (ef ([f.Version,withdrawn,f.Person,f.Kind] : List Int)) (0 + i)) = L5_) :
    ev Tryz.prog (cy [e78,X0]) 93 (ofItems ((List.drop 6 sW).take 4)) (cN [1,4,34] K) (Si withdrawn f) =
    (let a1_ := aO ([] : List Int) 1 L1_; let a2_ := aO L2_ 2 L3_; let a3_ := aO L4_ 1 L5_; (bk cP cC 1 1 1 (fun i => (ef ([f.Issuer] : List Int)) (0 + i))) ∧ (a1_.isSome = true) ∧ ((((a1_.getD [])).length = ((a1_.getD [])).length) ∧ (oB (a1_.getD [])) ∧ (bk cP cC 1 1 1 (fun i => (ef ([f.Number] : List Int)) (0 + i))) ∧ (a2_.isSome = true) ∧ ((((a2_.getD [])).length = ((a2_.getD [])).length) ∧ (oB (a2_.getD [])) ∧ (bk cP cC 1 1 4 (fun i => (ef ([f.Version,withdrawn,f.Person,f.Kind] : List Int)) (0 + i))) ∧ (a3_.isSome = true) ∧ (((mP f.Kind).isSome = true) ∧ (wK K .normal (UV (a3_.getD []) f ((mP f.Kind).getD (aA [])))))))) := by subst hL1_ hL2_ hL3_ hL4_ hL5_; kernel_rfl
theorem O7 {withdrawn : Int} {f : aa} {K : KT} (h : W (nJ withdrawn f) (rE KG K)) : ah Tryz.prog 93 (List.drop 6 sW) K (Si withdrawn f) :=
  ah.qD mixed [e78,X0] [1,4,34] 6 4 10 (.of (Zm withdrawn f _ (lr bj (ai.zero (ai.ls cP (0 : Int) ([f.Issuer] : List Int)))) (lb bz) (lr bj (ai.zero (ai.ls cP (0 : Int) ([f.Number] : List Int)))) (lb bz) (lr bj (ai.zero (ai.ls cP (0 : Int) ([f.Version,withdrawn,f.Person,f.Kind] : List Int))))) (⟨ai.ok bj (ai.zero (ai.ls cP (0 : Int) ([f.Issuer] : List Int))),(aq [] h fun _ h => ⟨(rfl),⟨kb bz,⟨ai.ok bj (ai.zero (ai.ls cP (0 : Int) ([f.Number] : List Int))),(aq [] h fun _ h => ⟨(rfl),⟨kb bz,⟨ai.ok bj (ai.zero (ai.ls cP (0 : Int) ([f.Version,withdrawn,f.Person,f.Kind] : List Int))),(aq [] h fun _ h => (aq (aA []) h fun _ h => (l0 (Yn h))))⟩⟩⟩)⟩⟩⟩)⟩))
def aiW (f : aa) : St := ⟨[sv 0 (.ag (av f))],[],0⟩
noncomputable def qR (f : aa) : Option ((List Int)) := (dJ f).bind fun r_1 => ((bif (!r_1) then (some ([] : List Int)) else (bif f.Withdrawn then (nJ 1 f) else (nJ 0 f))))
theorem aa0 {f : aa} {K : KT} (h : W (qR f) (rE KG K)) : ah Tryz.prog 93 (List.drop 0 sW) K (aiW f) :=
  ah.qD mixed [PE] [1,2,3] 0 6 6 (.nx (fun K => ((dJ f).isSome = true) ∧ ((bif (!((dJ f).getD false)) then wK K .ret (⟨[sv 1 (.ptr 0 14 0 0),sv 2 (.c .nil)],[(0,some (.bx (av f)))],1⟩) else (bif f.Withdrawn then wK K .normal (⟨[sv 1 (.ptr 0 14 0 0),sv 2 (.c .nil),sv 3 (i64 1)],[(0,some (.bx (av f)))],1⟩) else wK K .normal (⟨[sv 1 (.ptr 0 14 0 0),sv 2 (.c .nil),sv 3 (i64 0)],[(0,some (.bx (av f)))],1⟩))))) (aq false h fun _ h => (al h (fun _ h => (lf h (.trans (.nilrow 2 1 5 1 (bf fX (0 : Int) []) (Nat.le_of_ble_eq_true rfl) rfl) (.cn [2])))) (fun _ h => (al h (fun _ h => (lf (O7 h) (.cn [1,3]))) (fun _ h => (lf (O7 h) (.cn [1,3]))))))))
noncomputable def fc (f : aa) : Option ((List Int)) := qR f
noncomputable def Ff : bW := fO kK fc ([] : List Int) J3
theorem LX : Meets Tryz.prog 86 Ff := dq Tryz.f86 (ar Tryz.f86) [.tmp 2] 93 fun u0 y h => @aa0 u0 _ (bi.2 ⟨y,h,(cH (.row 0 1 0 y.length) (⟨_,_,_,rfl,rfl,rfl,fun _ _ => rfl,fun _ i hi d hd => xh _ d hd⟩))⟩)
noncomputable abbrev e86 : FE Tryz.prog := ⟨86, .pure Ff,LX⟩
theorem EU : Meets Tryz.prog 97 l5 := Ac (fn := Tryz.f97) (by kernel_rfl) (by kernel_rfl) (by kernel_rfl) (by kernel_rfl) (by kernel_rfl)
noncomputable abbrev e97 : FE Tryz.prog := ⟨97, .pure l5,EU⟩
noncomputable def XJ : List Code := aD (ar Tryz.f85)
def Gc (x_1 : Int) : bS := .data (i64 x_1)
def aiC (x_1 : Int) : St := ⟨[sv 4 (i64 x_1)],[],0⟩
def Sc (a b : (List Int)) : St := ⟨[sv 0 (sU8 a),sv 1 (sU8 b)],[],0⟩
noncomputable def xM (a b : (List Int)) : Option (Int) := (ly a b).bind fun r_1 => ((some r_1))
theorem adQ (a b : (List Int)) (K : KT) {L1_ : List Int} (hL1_ : lst cQ a.length (ju a) = L1_) {L2_ : List Int} (hL2_ : lst cQ b.length (ju b) = L2_) :
    ev Tryz.prog (cy [e97]) 8 (ofItems ((List.drop 0 XJ).take 3)) (cN [4] K) (Sc a b) =
    ((oB a) ∧ (oB b) ∧ ((ly L1_ L2_).isSome = true) ∧ (wK K .ret (aiC ((ly L1_ L2_).getD 0)))) := by subst hL1_ hL2_; kernel_rfl
theorem ab9 {a b : (List Int)} {K : KT} (h : W (xM a b) (rE aiC K)) : ah Tryz.prog 8 (List.drop 0 XJ) K (Sc a b) :=
  ah.qE mixed [e97] [4] 0 3 (.of (adQ a b _ (lb bz) (lb bz)) (⟨kb bz,⟨kb bz,(aq 0 h fun _ h => (l0 h))⟩⟩))
noncomputable def nP (a b : (List Int)) : Option (Int) := xM a b
noncomputable def zi : bW := fK uU8 uU8 nP (0 : Int) Gc
theorem HC : Meets Tryz.prog 85 zi := dp Tryz.f85 (ar Tryz.f85) [.tmp 4] 8 fun u0 u1 y h => @ab9 u0 u1 _ (bi.2 ⟨y,h,(cH (i64 y) (VLe.rfl' _))⟩)
noncomputable abbrev e85 : FE Tryz.prog := ⟨85, .pure zi,HC⟩
noncomputable def Xd : List Code := aD (ar Tryz.f68)
def L4 (x_1 : Bool) : bS := .data (bl x_1)
def Vn (x_1 : Bool) : St := ⟨[sv 4 (bl x_1)],[],0⟩
def SI (a b : aa) : St := ⟨[sv 0 (.ag (av a)),sv 1 (.ag (av b))],[],0⟩
noncomputable def tx (a b : aa) : Option (Bool) := (dJ a).bind fun r_1 => (gd (((!(!r_1)) && true) = true → (dJ b).isSome = true) ((bif (bif (!r_1) then true else (!((dJ b).getD false))) then (some false) else (fc a).bind fun r_2 => ((fc b).bind fun r_3 => ((nP r_2 r_3).bind fun r_4 => ((some (decide (r_4 < 0)))))))))
theorem Y0 (a b : aa) (K : KT) {L1_ : List Int} (hL1_ : lst cQ ((((fc a).getD [])).length) (fun i => (ju ((fc a).getD [])) (0 + i)) = L1_) {L2_ : List Int} (hL2_ : lst cQ ((((fc b).getD [])).length) (fun i => (ju ((fc b).getD [])) (0 + i)) = L2_) :
    ev Tryz.prog (cy [PE,e85,e86]) 19 (ofItems ((List.drop 0 Xd).take 5)) (cN [4] K) (SI a b) =
    (let a1_ := !((dJ a).getD false); ((dJ a).isSome = true) ∧ (((!a1_) && true) = true → (dJ b).isSome = true) ∧ ((bif (bif a1_ then true else (!((dJ b).getD false))) then wK K .ret (Vn false) else ((fc a).isSome = true) ∧ ((fc b).isSome = true) ∧ (bk fX cQ 1 1 ((((fc a).getD [])).length) (fun i => (ju ((fc a).getD [])) (0 + i))) ∧ (bk fX cQ 1 1 ((((fc b).getD [])).length) (fun i => (ju ((fc b).getD [])) (0 + i))) ∧ ((nP L1_ L2_).isSome = true) ∧ (wK K .ret (Vn (decide (((nP L1_ L2_).getD 0) < 0))))))) := by subst hL1_ hL2_; kernel_rfl
theorem aeU {a b : aa} {K : KT} (h : W (tx a b) (rE Vn K)) : ah Tryz.prog 19 (List.drop 0 Xd) K (SI a b) :=
  ah.qE mixed [PE,e85,e86] [4] 0 5 (.of (Y0 a b _ (lr bz (ai.zero .b)) (lr bz (ai.zero .b))) (aq false h fun _ h => (bF h fun _ h => (al h (fun _ h => (l0 h)) (fun _ h => (aq [] h fun _ h => (aq [] h fun _ h => ⟨ai.ok bz (ai.zero .b),⟨ai.ok bz (ai.zero .b),(aq 0 h fun _ h => (l0 h))⟩⟩)))))))
noncomputable def vv (a b : aa) : Option (Bool) := tx a b
noncomputable def GH : bW := fK kK kK vv false L4
theorem ME : Meets Tryz.prog 68 GH := dp Tryz.f68 (ar Tryz.f68) [.tmp 4] 19 fun u0 u1 y h => @aeU u0 u1 _ (bi.2 ⟨y,h,(cH (bl y) (VLe.rfl' _))⟩)
noncomputable abbrev e68 : FE Tryz.prog := ⟨68, .pure GH,ME⟩
noncomputable def ajI : List Code := aD (ar Tryz.f49)
def Fu (x_1 : aa) : bS := .data (.agg [(i64 x_1.Issuer),(i64 x_1.Number),(i64 x_1.Version),(bl x_1.Withdrawn),(i64 x_1.Person),(i64 x_1.Kind),(i64 x_1.State),(i64 x_1.Span.From),(i64 x_1.Span.To),(i64 x_1.Seat),(i64 x_1.Share),(i64 x_1.Currency),(i64 x_1.Amount),(i64 x_1.Ref)])
def Vz (x_1 : aa) : St := ⟨[sv 4 (.ptr 0 14 0 0)],[(0,some (.box [(i64 x_1.Issuer),(i64 x_1.Number),(i64 x_1.Version),(bl x_1.Withdrawn),(i64 x_1.Person),(i64 x_1.Kind),(i64 x_1.State),(i64 x_1.Span.From),(i64 x_1.Span.To),(i64 x_1.Seat),(i64 x_1.Share),(i64 x_1.Currency),(i64 x_1.Amount),(i64 x_1.Ref)]))],1⟩
def ag8 (a b : aa) : St := ⟨[sv 0 (.ag (av a)),sv 1 (.ag (av b))],[],0⟩
noncomputable def lV (a b : aa) : Option (aa) := (vv a b).bind fun r_1 => ((bif r_1 then (some b) else (some a)))
theorem aed {a b : aa} {K : KT} (h : W (lV a b) (rE Vz K)) : ah Tryz.prog 10 (List.drop 0 ajI) K (ag8 a b) :=
  ah.qE mixed [e68] [4] 0 5 (.nx (fun K => ((vv a b).isSome = true) ∧ ((bif ((vv a b).getD false) then wK K .ret (Vz b) else wK K .ret (Vz a)))) (aq false h fun _ h => (al h (fun _ h => (l0 h)) (fun _ h => (l0 h)))))
noncomputable def mn (a b : aa) : Option (aa) := lV a b
noncomputable def yf : bW := fK kK kK mn aw Fu
theorem Gd : Meets Tryz.prog 49 yf := dp Tryz.f49 (ar Tryz.f49) [.cell 4 38] 10 fun u0 u1 y h => @aed u0 u1 _ (bi.2 ⟨y,h,(cH (.agg [(i64 y.Issuer),(i64 y.Number),(i64 y.Version),(bl y.Withdrawn),(i64 y.Person),(i64 y.Kind),(i64 y.State),(i64 y.Span.From),(i64 y.Span.To),(i64 y.Seat),(i64 y.Share),(i64 y.Currency),(i64 y.Amount),(i64 y.Ref)]) (VLe.rfl' _))⟩)
noncomputable abbrev e49 : FE Tryz.prog := ⟨49, .pure yf,Gd⟩
noncomputable def wR : List Code := aD (ar Tryz.f46)
noncomputable def XY : List Code := aD (aj (aj (aQ wR 2)))
def ed (x_1 : (List aa)) : bS := .own true 38 14 (x_1).length (bf av aw x_1)
def M9 (x_1 : (List aa)) : St := ⟨[sv 8 (.row 0 14 0 x_1.length)],[(aC 0 38 x_1)],1⟩
theorem afF (x_1 : (List aa)) : dX Tryz.prog [.tmp 8] (du (ed x_1)) .ret (M9 x_1) :=
  dX.intro (v := (.row 0 14 0 x_1.length)) (by kernel_rfl) (⟨_,_,_,rfl,rfl,rfl,fun _ _ => rfl,fun _ i hi d hd => gg _ d hd⟩)
def IS (a b : (List aa)) (s : ((List aa) × (List aa) × (List aa))) : St := match s with | (a_1,b_1,out_1) => ⟨[sv 0 (aH a_1),sv 1 (aH b_1),sv 2 (.fn 48 []),sv 3 (.fn 49 []),sv 9 (.row 0 14 0 out_1.length)],[(aC 0 38 out_1)],1⟩
def acP (a b : (List aa)) (s : (List aa) × (List aa) × (List aa)) : St := match s with | (a_2,b_2,out_2) => ⟨[sv 0 (aH a_2),sv 1 (aH b_2),sv 9 (.row 0 14 0 out_2.length)],[(aC 0 38 out_2)],1⟩
def zZ (a b : (List aa)) (r : (((List aa) × (List aa) × (List aa)))) (K : KT) : Prop := match r with | s => K (.exit 0) (acP a b s)
def ah3 (a_1 b_1 out_1 : (List aa)) : St := ⟨[sv 0 (aH a_1),sv 1 (aH b_1),sv 2 (.fn 48 []),sv 3 (.fn 49 []),sv 9 (.row 0 14 0 out_1.length)],[(aC 0 38 out_1)],1⟩
noncomputable def bP (a_1 b_1 out_1 : (List aa)) : Option (((List aa) × (List aa) × (List aa)) ⊕ (((List aa) × (List aa) × (List aa)))) := (bif (bif (decide (0 < (a_1.length : Int))) then (decide (0 < (b_1.length : Int))) else false) then gd (0 ≤ (0 : Int) ∧ (0 : Int) < (a_1.length : Int)) (gd (0 ≤ (0 : Int) ∧ (0 : Int) < (b_1.length : Int)) ((l7 (a_1.getD 0 aw) (b_1.getD 0 aw)).bind fun r_1 => ((bif (decide (r_1 < 0)) then gd (0 ≤ (0 : Int) ∧ (0 : Int) < (a_1.length : Int)) (gd (cL (out_1.length + 1) 112) (gd (0 ≤ (1 : Int) ∧ (1 : Int) ≤ (a_1.length : Int) ∧ (a_1.length : Int) ≤ (a_1.length : Int)) ((some (Sum.inl ((jD aw a_1 1 (Int.toNat ((a_1.length : Int) - 1))),b_1,(out_1 ++ ([(a_1.getD 0 aw)] : List aa)))))))) else (bif (decide (0 < r_1)) then gd (0 ≤ (0 : Int) ∧ (0 : Int) < (b_1.length : Int)) (gd (cL (out_1.length + 1) 112) (gd (0 ≤ (1 : Int) ∧ (1 : Int) ≤ (b_1.length : Int) ∧ (b_1.length : Int) ≤ (b_1.length : Int)) ((some (Sum.inl (a_1,(jD aw b_1 1 (Int.toNat ((b_1.length : Int) - 1))),(out_1 ++ ([(b_1.getD 0 aw)] : List aa)))))))) else gd (0 ≤ (0 : Int) ∧ (0 : Int) < (a_1.length : Int)) (gd (0 ≤ (0 : Int) ∧ (0 : Int) < (b_1.length : Int)) ((mn (a_1.getD 0 aw) (b_1.getD 0 aw)).bind fun r_2 => (gd (cL (out_1.length + 1) 112) (gd (0 ≤ (1 : Int) ∧ (1 : Int) ≤ (a_1.length : Int) ∧ (a_1.length : Int) ≤ (a_1.length : Int)) (gd (0 ≤ (1 : Int) ∧ (1 : Int) ≤ (b_1.length : Int) ∧ (b_1.length : Int) ≤ (b_1.length : Int)) ((some (Sum.inl ((jD aw a_1 1 (Int.toNat ((a_1.length : Int) - 1))),(jD aw b_1 1 (Int.toNat ((b_1.length : Int) - 1))),(out_1 ++ ([r_2] : List aa)))))))))))))))) else (some (Sum.inr (a_1,b_1,out_1))))
theorem X3 {a_1 b_1 out_1 a b : (List aa)} {K : KT} (h : W (bP a_1 b_1 out_1) (nE (IS a b) (zZ a b) K)) : ah Tryz.prog 69 (List.drop 0 XY) K (ah3 a_1 b_1 out_1) :=
  ah.qE mixed [e48,e49] [0,1,2,3,9,15,16,17] 0 3 (.nx (fun K => let a1_ := (a_1.length : Int); let a2_ := (b_1.length : Int); let a3_ := out_1.length + 1; let a4_ := l7 (a_1.getD 0 aw) (b_1.getD 0 aw); let a5_ := mn (a_1.getD 0 aw) (b_1.getD 0 aw); let a6_ := out_1.length = out_1.length; let a7_ := a3_ * 112 ≤ 140737488355328; let a8_ := a3_ ≤ 140737488355328; (bif (bif (decide (0 < a1_)) then (decide (0 < a2_)) else false) then (0 ≤ (0 : Int)) ∧ ((0 : Int) < a1_) ∧ (0 ≤ (0 : Int)) ∧ ((0 : Int) < a2_) ∧ (a4_.isSome = true) ∧ ((bif (decide ((a4_.getD 0) < 0)) then (0 ≤ (0 : Int)) ∧ ((0 : Int) < a1_) ∧ a6_ ∧ a7_ ∧ a8_ ∧ (0 ≤ (1 : Int)) ∧ ((1 : Int) ≤ a1_) ∧ (a1_ ≤ a1_) ∧ (wK K .normal (⟨[sv 0 (.c (.sl 14 (Int.toNat (a1_ - 1)) (fun i => (be a_1) (1 + i)))),sv 1 (aH b_1),sv 2 (.fn 48 []),sv 3 (.fn 49 []),sv 9 (.row 0 14 0 a3_),un 15,un 16,un 17],[(0,some (.row 38 14 a3_ (fun i => bif Nat.blt i out_1.length then (be out_1) i else (fun i => (dw 14 (av (a_1.getD 0 aw))) (0 + i)) (i - out_1.length))))],1⟩)) else (bif (decide (0 < (a4_.getD 0))) then (0 ≤ (0 : Int)) ∧ ((0 : Int) < a2_) ∧ a6_ ∧ a7_ ∧ a8_ ∧ (0 ≤ (1 : Int)) ∧ ((1 : Int) ≤ a2_) ∧ (a2_ ≤ a2_) ∧ (wK K .normal (⟨[sv 0 (aH a_1),sv 1 (.c (.sl 14 (Int.toNat (a2_ - 1)) (fun i => (be b_1) (1 + i)))),sv 2 (.fn 48 []),sv 3 (.fn 49 []),sv 9 (.row 0 14 0 a3_),un 15,un 16,un 17],[(0,some (.row 38 14 a3_ (fun i => bif Nat.blt i out_1.length then (be out_1) i else (fun i => (dw 14 (av (b_1.getD 0 aw))) (0 + i)) (i - out_1.length))))],1⟩)) else (0 ≤ (0 : Int)) ∧ ((0 : Int) < a1_) ∧ (0 ≤ (0 : Int)) ∧ ((0 : Int) < a2_) ∧ (a5_.isSome = true) ∧ a6_ ∧ a7_ ∧ a8_ ∧ (0 ≤ (1 : Int)) ∧ ((1 : Int) ≤ a1_) ∧ (a1_ ≤ a1_) ∧ (0 ≤ (1 : Int)) ∧ ((1 : Int) ≤ a2_) ∧ (a2_ ≤ a2_) ∧ (wK K .normal (⟨[sv 0 (.c (.sl 14 (Int.toNat (a1_ - 1)) (fun i => (be a_1) (1 + i)))),sv 1 (.c (.sl 14 (Int.toNat (a2_ - 1)) (fun i => (be b_1) (1 + i)))),sv 2 (.fn 48 []),sv 3 (.fn 49 []),sv 9 (.row 0 14 0 a3_),un 15,un 16,un 17],[(0,some (.row 38 14 a3_ (fun i => bif Nat.blt i out_1.length then (be out_1) i else (fun i => (dw 14 (av (a5_.getD aw))) (0 + i)) (i - out_1.length))))],1⟩))))) else wK K (.exit 0) (⟨[sv 0 (aH a_1),sv 1 (aH b_1),sv 2 (.fn 48 []),sv 3 (.fn 49 []),sv 9 (.row 0 14 0 out_1.length),un 15,un 16,un 17],[(aC 0 38 out_1)],1⟩))) (al h (fun _ h => (aT h fun _ h => (aT h fun _ h => (aq 0 h fun _ h => (al h (fun _ h => (aT h fun _ h => ⟨rfl,(aT h fun _ h => (pl h fun _ h => (lf h (.of (.cons rfl (.sl (ai.sub av aw a_1 1 (Int.toNat ((a_1.length : Int) - 1)))) (.qs 3 (.cons rfl (.rown (ce rfl rfl)) .nil))) (.row rfl (ai.app .b (ai.zero (ai.l1 (enc := av) (z := aw) 14 (a_1.getD 0 aw) rfl))) .nil rfl) rfl))))⟩)) (fun _ h => (al h (fun _ h => (aT h fun _ h => ⟨rfl,(aT h fun _ h => (pl h fun _ h => (lf h (.of (.q rfl (.cons rfl (.sl (ai.sub av aw b_1 1 (Int.toNat ((b_1.length : Int) - 1)))) (.q rfl (.q rfl (.cons rfl (.rown (ce rfl rfl)) .nil))))) (.row rfl (ai.app .b (ai.zero (ai.l1 (enc := av) (z := aw) 14 (b_1.getD 0 aw) rfl))) .nil rfl) rfl))))⟩)) (fun _ h => (aT h fun _ h => (aT h fun _ h => (aq aw h fun _ h => ⟨rfl,(aT h fun _ h => (pl h fun _ h => (pl h fun _ h => (lf h (.of (.cons rfl (.sl (ai.sub av aw a_1 1 (Int.toNat ((a_1.length : Int) - 1)))) (.cons rfl (.sl (ai.sub av aw b_1 1 (Int.toNat ((b_1.length : Int) - 1)))) (.q rfl (.q rfl (.cons rfl (.rown (ce rfl rfl)) .nil))))) (.row rfl (ai.app .b (ai.zero (ai.l1 (enc := av) (z := aw) 14 ((mn (a_1.getD 0 aw) (b_1.getD 0 aw)).getD aw) rfl))) .nil rfl) rfl)))))⟩))))))))))) (fun _ h => (lf h (.cn [0,1,9])))))
noncomputable def bO (a b : (List aa)) (s : ((List aa) × (List aa) × (List aa))) : Option (((List aa) × (List aa) × (List aa)) ⊕ (((List aa) × (List aa) × (List aa)))) := match s with | (a_1,b_1,out_1) => bP a_1 b_1 out_1
theorem Zq (a b : (List aa)) (s : ((List aa) × (List aa) × (List aa))) : Pp Tryz.prog 69 (List.drop 0 XY) (IS a b s) (bO a b s) (cq (IS a b) (zZ a b)) := fun K h => match s,h with | (a_1,b_1,out_1),h => (X3 h)
theorem RE (a b : (List aa)) : ∀ (r : (((List aa) × (List aa) × (List aa)))) (J : St → Prop) (K : KT),zZ a b r K → zZ a b r (aM J K)
  | s,_,_,h => h
def TP (a_3 b_3 out_3 : (List aa)) : St := ⟨[sv 0 (aH a_3),sv 1 (aH b_3),sv 9 (.row 0 14 0 out_3.length)],[(aC 0 38 out_3)],1⟩
noncomputable def im (a_3 b_3 out_3 : (List aa)) : Option ((List aa)) := gd (cL (out_3.length + a_3.length) 112) (gd (cL ((out_3.length + a_3.length) + b_3.length) 112) ((some ((out_3 ++ a_3) ++ b_3))))
theorem Zg {a_3 b_3 out_3 : (List aa)} {K : KT} (h : W (im a_3 b_3 out_3) (rE M9 K)) : ah Tryz.prog 69 (List.drop 3 wR) K (TP a_3 b_3 out_3) :=
  ah.qE mixed [] [8] 3 2 (.nx (fun K => let a1_ := out_3.length + a_3.length; let a2_ := a1_ + b_3.length; (out_3.length = out_3.length) ∧ (a1_ * 112 ≤ 140737488355328) ∧ (a1_ ≤ 140737488355328) ∧ (a1_ = a1_) ∧ (a2_ * 112 ≤ 140737488355328) ∧ (a2_ ≤ 140737488355328) ∧ (wK K .ret (⟨[sv 8 (.row 0 14 0 a2_)],[(0,some (.row 38 14 a2_ (fun i => bif Nat.blt i a1_ then (fun i => bif Nat.blt i out_3.length then (be out_3) i else (be a_3) (i - out_3.length)) i else (be b_3) (i - a1_))))],1⟩))) (⟨rfl,(aT h fun _ h => ⟨rfl,(aT h fun _ h => (lf h (.of (.cons rfl (.rown (ce (ce rfl rfl) rfl)) .nil) (.row rfl (ai.app (ai.app .b .b) .b) .nil rfl) rfl)))⟩)⟩))
def SS (a b : (List aa)) : St := ⟨[sv 0 (aH a),sv 1 (aH b),sv 2 (.fn 48 []),sv 3 (.fn 49 []),sv 9 (.c .nil)],[],0⟩
noncomputable def gN (a b : (List aa)) (r : (((List aa) × (List aa) × (List aa)))) : Option ((List aa)) := match r with | (a_2,b_2,out_2) => (im a_2 b_2 out_2)
noncomputable def io (a b : (List aa)) : Option ((List aa)) := (aN (bO a b) (a,b,([] : List aa))).bind (gN a b)
theorem adp : List.drop 2 wR = .block 0 (.loop (aj (aj (aQ wR 2)))) :: List.drop 3 wR := by kernel_rfl
theorem aht (a b : (List aa)) (K : KT) : ∀ r : (((List aa) × (List aa) × (List aa))),W (gN a b r) (rE M9 K) → zZ a b r (wK (bg 0 (aM (ah Tryz.prog 69 (List.drop 3 wR) K) K)))
  | (a_2,b_2,out_2),h => ⟨(TP a_2 b_2 out_2),(.refl _),(Zg h)⟩
theorem ZF {a b : (List aa)} {K : KT} (h : W (io a b) (rE M9 K)) : ah Tryz.prog 69 (List.drop 2 wR) K (SS a b) :=
  ah.at_ adp (ah.cons_loop (aE.weak (aE.ent (.trans (.nilrow 9 0 38 14 (bf av aw []) (Nat.le_of_ble_eq_true rfl) rfl) (.cn [0,1,2,3,9])) (aE.loopF (x := aj (aj (aQ wR 2))) (f := bO a b) (emb := IS a b) (E := zZ a b) (Zq a b) (RE a b) (bT h (aht a b K))))))
def Uw (a b : (List aa)) : St := ⟨[sv 0 (aH a),sv 1 (aH b),sv 2 (.fn 48 []),sv 3 (.fn 49 [])],[],0⟩
noncomputable def il (a b : (List aa)) : Option ((List aa)) := (io a b)
theorem afa {a b : (List aa)} {K : KT} (h : W (il a b) (rE M9 K)) : ah Tryz.prog 69 (List.drop 0 wR) K (Uw a b) :=
  ah.qD mixed [] [0,1,2,3,9,15,16,17] 0 2 2 (.nx (fun K => wK K .normal (SS a b)) (l0 (ZF h)))
noncomputable def bM (a b : (List aa)) : Option ((List aa)) := il a b
theorem afy (a b : (List aa)) (y_ : (List aa)) (h : bM a b = some y_) : ah Tryz.prog 69 (aD (ar Tryz.f46)) (dX Tryz.prog [.tmp 8] (du (ed y_))) (Uw a b) :=
  @afa a b _ (bi.2 ⟨y_,h,afF y_⟩)
noncomputable def eC : bW
  | [(.c (.sl k1 n2 e3)),(.c (.sl k4 n5 e6)),(.fn 48 []),(.fn 49 [])] => some ([bk av aY 14 k1 n2 e3,bk av aY 14 k4 n5 e6,(bM (lst aY n2 e3) (lst aY n5 e6)).isSome = true],(ed ((bM (lst aY n2 e3) (lst aY n5 e6)).getD ([] : List aa))))
  | _ => none
theorem lU : Meets Tryz.prog 46 eC := by
  refine jA (fn := Tryz.f46) (c := ar Tryz.f46) (by kernel_rfl) (by kernel_rfl) (by kernel_rfl) (rs := [.tmp 8]) (by kernel_rfl) (nt := 69) (by kernel_rfl) fun vs p out h hp => ?_
  unfold eC at h
  split at h
  · next k1 n2 e3 k4 n5 e6 =>
    cases h
    obtain ⟨g0,hp⟩ := dP hp
    obtain ⟨g1,hp⟩ := dP hp
    obtain ⟨g,hp⟩ := dP hp
    obtain ⟨x,hx⟩ := Option.isSome_iff_exists.1 g
    rw [hx]
    exact ⟨[(aH (lst aY n2 e3)),(aH (lst aY n5 e6)),(.fn 48 []),(.fn 49 [])],(VLes.cons (VLe.slk g0.1 (ai.of_ok g0)) (VLes.cons (VLe.slk g1.1 (ai.of_ok g1)) (VLes.cons (VLe.rfl' _) (VLes.cons (VLe.rfl' _) VLes.nil)))),rfl,afy (lst aY n2 e3) (lst aY n5 e6) x hx⟩
  · cases h
noncomputable abbrev W9 : FE Tryz.prog := ⟨46, .pure eC,lU⟩
noncomputable def wL : List Code := aD (ar Tryz.f47)
noncomputable def Qg : List Code := aD (aj (aj (aQ wL 3)))
def CL (x_1 : (List aa)) : bS := .own true 38 14 (x_1).length (bf av aw x_1)
def On (x_1 : (List aa)) : St := ⟨[sv 2 (.row 0 14 0 x_1.length)],[(aC 0 38 x_1)],1⟩
def BN (l : (List aa)) (s : ((List aa) × Int)) : St := match s with | (out_1,t8) => ⟨[sv 3 (.row 0 14 0 out_1.length),sv 6 (aH l),sv 7 (i64 (l.length : Int)),sv 8 (i64 t8)],[(aC 0 38 out_1)],1⟩
def acQ (l : (List aa)) (s : (List aa)) : St := match s with | out_2 => ⟨[sv 3 (.row 0 14 0 out_2.length)],[(aC 0 38 out_2)],1⟩
def AS (l : (List aa)) (r : (((List aa)))) (K : KT) : Prop := match r with | s => K (.exit 0) (acQ l s)
def Sk (out_1 l : (List aa)) (t8 : Int) : St := ⟨[sv 3 (.row 0 14 0 out_1.length),sv 6 (aH l),sv 7 (i64 (l.length : Int)),sv 8 (i64 t8)],[(aC 0 38 out_1)],1⟩
noncomputable def gU (out_1 l : (List aa)) (t8 : Int) : Option (((List aa) × Int) ⊕ (((List aa)))) := (bif (decide (t8 < (l.length : Int))) then gd (0 ≤ t8 ∧ t8 < (l.length : Int)) ((dJ (l.getD (Int.toNat t8) aw)).bind fun r_1 => ((bif r_1 then (bM out_1 ([(l.getD (Int.toNat t8) aw)] : List aa)).bind fun r_2 => ((some (Sum.inl (r_2,(ak (t8 + 1)))))) else (some (Sum.inl (out_1,(ak (t8 + 1)))))))) else (some (Sum.inr out_1)))
theorem abL (out_1 l : (List aa)) (t8 : Int) (K : KT) {L1_ : List aa} (hL1_ : lst aY out_1.length (fun i => (be out_1) (0 + i)) = L1_) {L2_ : List aa} (hL2_ : lst aY 1 (fun i => (dw 14 (av (l.getD (Int.toNat t8) aw))) (0 + i)) = L2_) :
    ev Tryz.prog (cy [W9,PE]) 20 (ofItems ((List.drop 0 Qg).take 4)) (cN [3,6,7,8] K) (Sk out_1 l t8) =
    (let a1_ := l.getD (Int.toNat t8) aw; let a2_ := bM L1_ L2_; (bif (decide (t8 < (l.length : Int))) then (0 ≤ t8) ∧ (t8 < (l.length : Int)) ∧ (((dJ a1_).isSome = true) ∧ ((bif ((dJ a1_).getD false) then (bk av aY 14 14 out_1.length (fun i => (be out_1) (0 + i))) ∧ (bk av aY 14 14 1 (fun i => (dw 14 (av a1_)) (0 + i))) ∧ (a2_.isSome = true) ∧ (wK K .normal (BN l ((a2_.getD []),(ak (t8 + 1))))) else wK K .normal (BN l (out_1,(ak (t8 + 1))))))) else wK K (.exit 0) (⟨[sv 3 (.row 0 14 0 out_1.length),sv 6 (aH l),sv 7 (i64 (l.length : Int)),sv 8 (i64 t8)],[(aC 0 38 out_1)],1⟩))) := by subst hL1_ hL2_; kernel_rfl
theorem afh {out_1 l : (List aa)} {t8 : Int} {K : KT} (h : W (gU out_1 l t8) (nE (BN l) (AS l) K)) : ah Tryz.prog 20 (List.drop 0 Qg) K (Sk out_1 l t8) :=
  ah.qE mixed [W9,PE] [3,6,7,8] 0 4 (.of (abL out_1 l t8 _ (lr au (ai.zero .b)) (lr au (ai.zero (ai.l1 (enc := av) (z := aw) 14 (l.getD (Int.toNat t8) aw) rfl)))) (al h (fun _ h => (aT h fun _ h => (aq false h fun _ h => (al h (fun _ h => ⟨ai.ok au (ai.zero .b),⟨ai.ok au (ai.zero (ai.l1 (enc := av) (z := aw) 14 (l.getD (Int.toNat t8) aw) rfl)),(aq [] h fun _ h => (l0 h))⟩⟩) (fun _ h => (l0 h)))))) (fun _ h => (lf h (.cn [3])))))
noncomputable def jf (l : (List aa)) (s : ((List aa) × Int)) : Option (((List aa) × Int) ⊕ (((List aa)))) := match s with | (out_1,t8) => gU out_1 l t8
theorem X8 (l : (List aa)) (s : ((List aa) × Int)) : Pp Tryz.prog 20 (List.drop 0 Qg) (BN l s) (jf l s) (cq (BN l) (AS l)) := fun K h => match s,h with | (out_1,t8),h => (afh h)
theorem Qt (l : (List aa)) : ∀ (r : (((List aa)))) (J : St → Prop) (K : KT),AS l r K → AS l r (aM J K)
  | s,_,_,h => h
def RQ (out_3 : (List aa)) : St := ⟨[sv 3 (.row 0 14 0 out_3.length)],[(aC 0 38 out_3)],1⟩
noncomputable def tX (out_3 : (List aa)) : Option ((List aa)) := (some out_3)
theorem aee {out_3 : (List aa)} {K : KT} (h : W (tX out_3) (rE On K)) : ah Tryz.prog 20 (List.drop 4 wL) K (RQ out_3) :=
  ah.qE mixed [] [2] 4 2 (.nx (fun K => wK K .ret (On out_3)) (l0 h))
def RO (l : (List aa)) : St := ⟨[sv 3 (.c .nil),sv 6 (aH l),sv 7 (i64 (l.length : Int)),sv 8 (i64 0)],[],0⟩
noncomputable def rT (l : (List aa)) (r : (((List aa)))) : Option ((List aa)) := match r with | out_2 => (tX out_2)
noncomputable def tZ (l : (List aa)) : Option ((List aa)) := (aN (jf l) (([] : List aa),0)).bind (rT l)
theorem Yt : List.drop 3 wL = .block 0 (.loop (aj (aj (aQ wL 3)))) :: List.drop 4 wL := by kernel_rfl
theorem ag7 (l : (List aa)) (K : KT) : ∀ r : (((List aa))),W (rT l r) (rE On K) → AS l r (wK (bg 0 (aM (ah Tryz.prog 20 (List.drop 4 wL) K) K)))
  | out_2,h => ⟨(RQ out_2),(.refl _),(aee h)⟩
theorem afi {l : (List aa)} {K : KT} (h : W (tZ l) (rE On K)) : ah Tryz.prog 20 (List.drop 3 wL) K (RO l) :=
  ah.at_ Yt (ah.cons_loop (aE.weak (aE.ent (.trans (.nilrow 3 0 38 14 (bf av aw []) (Nat.le_of_ble_eq_true rfl) rfl) (.cn [3,6,7,8])) (aE.loopF (x := aj (aj (aQ wL 3))) (f := jf l) (emb := BN l) (E := AS l) (X8 l) (Qt l) (bT h (ag7 l K))))))
def ahO (l : (List aa)) : St := ⟨[sv 0 (aH l)],[],0⟩
noncomputable def tO (l : (List aa)) : Option ((List aa)) := (tZ l)
theorem acS {l : (List aa)} {K : KT} (h : W (tO l) (rE On K)) : ah Tryz.prog 20 (List.drop 0 wL) K (ahO l) :=
  ah.qD mixed [] [3,6,7,8] 0 3 3 (.nx (fun K => wK K .normal (RO l)) (l0 (afi h)))
noncomputable def ee (l : (List aa)) : Option ((List aa)) := tO l
noncomputable def vS : bW := fO gy ee ([] : List aa) CL
theorem D5 : Meets Tryz.prog 47 vS := dq Tryz.f47 (ar Tryz.f47) [.tmp 2] 20 fun u0 y h => @acS u0 _ (bi.2 ⟨y,h,(cH (.row 0 14 0 y.length) (⟨_,_,_,rfl,rfl,rfl,fun _ _ => rfl,fun _ i hi d hd => gg _ d hd⟩))⟩)
noncomputable abbrev e47 : FE Tryz.prog := ⟨47, .pure vS,D5⟩
noncomputable def Xq : List Code := aD (ar Tryz.f19)
def HI (x_1 : (List aa)) : bS := .own true 38 14 (x_1).length (bf av aw x_1)
def agL (x_1 : (List aa)) : St := ⟨[sv 4 (.row 0 14 0 x_1.length)],[(aC 0 38 x_1)],1⟩
def TC (a b : (List aa)) : St := ⟨[sv 0 (aH a),sv 1 (aH b)],[],0⟩
noncomputable def ov (a b : (List aa)) : Option ((List aa)) := (ee a).bind fun r_1 => ((ee b).bind fun r_2 => ((bM r_1 r_2).bind fun r_3 => ((some r_3))))
theorem ZR (a b : (List aa)) (K : KT) {L1_ : List aa} (hL1_ : lst aY a.length (be a) = L1_) {L2_ : List aa} (hL2_ : lst aY b.length (be b) = L2_) {L3_ : List aa} (hL3_ : lst aY ((((ee L1_).getD [])).length) (fun i => (be ((ee L1_).getD [])) (0 + i)) = L3_) {L4_ : List aa} (hL4_ : lst aY ((((ee L2_).getD [])).length) (fun i => (be ((ee L2_).getD [])) (0 + i)) = L4_) :
    ev Tryz.prog (cy [W9,e47]) 10 (ofItems ((List.drop 0 Xq).take 3)) (cN [4] K) (TC a b) =
    (let a1_ := bM L3_ L4_; let a2_ := ee L1_; let a3_ := ee L2_; (lD a) ∧ (a2_.isSome = true) ∧ (lD b) ∧ (a3_.isSome = true) ∧ (bk av aY 14 14 (((a2_.getD [])).length) (fun i => (be (a2_.getD [])) (0 + i))) ∧ (bk av aY 14 14 (((a3_.getD [])).length) (fun i => (be (a3_.getD [])) (0 + i))) ∧ (a1_.isSome = true) ∧ (wK K .ret (agL (a1_.getD [])))) := by subst hL1_ hL2_ hL3_ hL4_; kernel_rfl
theorem aek {a b : (List aa)} {K : KT} (h : W (ov a b) (rE agL K)) : ah Tryz.prog 10 (List.drop 0 Xq) K (TC a b) :=
  ah.qE mixed [W9,e47] [4] 0 3 (.of (ZR a b _ (lb au) (lb au) (lr au (ai.zero .b)) (lr au (ai.zero .b))) (⟨kb au,(aq [] h fun _ h => ⟨kb au,(aq [] h fun _ h => ⟨ai.ok au (ai.zero .b),⟨ai.ok au (ai.zero .b),(aq [] h fun _ h => (l0 h))⟩⟩)⟩)⟩))
noncomputable def mv (a b : (List aa)) : Option ((List aa)) := ov a b
noncomputable def Bc : bW := fK gy gy mv ([] : List aa) HI
theorem JD : Meets Tryz.prog 19 Bc := dp Tryz.f19 (ar Tryz.f19) [.tmp 4] 10 fun u0 u1 y h => @aek u0 u1 _ (bi.2 ⟨y,h,(cH (.row 0 14 0 y.length) (⟨_,_,_,rfl,rfl,rfl,fun _ _ => rfl,fun _ i hi d hd => gg _ d hd⟩))⟩)
noncomputable abbrev e19 : FE Tryz.prog := ⟨19, .pure Bc,JD⟩
end Go.Ax
