import Derived.Test.YtefjkielgagknaaGreatF2
import Derived.Test.YtefjkielgagknaaGreatLay
import Derived.Test.YtefjkielgagknaaGreatRows
/- Types of the program, and functions of it: printed by a program, checked by the kernel. -/
set_option linter.all false
set_option maxRecDepth 100000
namespace Go.Ax
open Go.Proofs Go.Proofs.YtefjkielgagknaaGreat
noncomputable def z58i0 : List Code := items (bodyOf Tryz.f58)
def fact_Uses_out (x_1 : ByteArray) : Out := .data (str x_1)
def z58R (x_1 : ByteArray) : St := { tm := [sv 2 (str x_1)], hp := [], nx := 0 }
theorem z58Rok (x_1 : ByteArray) : retK Tryz.prog [.tmp 2] (OutOk (fact_Uses_out x_1)) .ret (z58R x_1) :=
  retK.intro (v := (str x_1)) (by kernel_rfl) ((VLe.rfl' _))
def z58p0S : St := { tm := [], hp := [], nx := 0 }
noncomputable def fact_Uses_p0 : Option (ByteArray) := (some (bstr []))
theorem z58p0ok (K : KT) (h : W (fact_Uses_p0) (rE z58R K)) : EvL Tryz.prog 26 (List.drop 3 z58i0) K (z58p0S) :=
  EvL.pE mixed (lookC_ok (l := []) trivial) [2] 3 2 (.nf (X := fun K => wK K .ret (z58R (bstr []))) (fun K => by kernel_rfl) (⟨_, .refl _, h⟩))
def z58p1S (kind : Int) : St := { tm := [sv 0 (i64 kind)], hp := [], nx := 0 }
noncomputable def fact_Uses_p1 (kind : Int) : Option (ByteArray) := (bif (kind == (1 : Int)) then (some (bstr [83, 80, 84, 72, 67, 65])) else (bif (kind == (2 : Int)) then (bif (kind == (2 : Int)) then (some (bstr [83, 80, 72, 67, 65])) else (bif (kind == (4 : Int)) then (some (bstr [83, 80, 84])) else (bif (kind == (5 : Int)) then (bif (kind == (5 : Int)) then (some (bstr [83, 80])) else (bif (kind == (6 : Int)) then (some (bstr [83, 80, 67, 65])) else (bif (kind == (10 : Int)) then (some (bstr [83, 80, 82])) else (bif (kind == (11 : Int)) then (bif (kind == (11 : Int)) then (some (bstr [80])) else (bif (kind == (14 : Int)) then (some (bstr [80, 82])) else fact_Uses_p0)) else (bif (kind == (12 : Int)) then (bif (kind == (12 : Int)) then (some (bstr [80])) else (bif (kind == (14 : Int)) then (some (bstr [80, 82])) else fact_Uses_p0)) else (bif (kind == (13 : Int)) then (some (bstr [80])) else (bif (kind == (14 : Int)) then (some (bstr [80, 82])) else fact_Uses_p0))))))) else (bif (kind == (7 : Int)) then (bif (kind == (7 : Int)) then (some (bstr [83, 80])) else (bif (kind == (6 : Int)) then (some (bstr [83, 80, 67, 65])) else (bif (kind == (10 : Int)) then (some (bstr [83, 80, 82])) else (bif (kind == (11 : Int)) then (bif (kind == (11 : Int)) then (some (bstr [80])) else (bif (kind == (14 : Int)) then (some (bstr [80, 82])) else fact_Uses_p0)) else (bif (kind == (12 : Int)) then (bif (kind == (12 : Int)) then (some (bstr [80])) else (bif (kind == (14 : Int)) then (some (bstr [80, 82])) else fact_Uses_p0)) else (bif (kind == (13 : Int)) then (some (bstr [80])) else (bif (kind == (14 : Int)) then (some (bstr [80, 82])) else fact_Uses_p0))))))) else (bif (kind == (8 : Int)) then (bif (kind == (8 : Int)) then (some (bstr [83, 80])) else (bif (kind == (6 : Int)) then (some (bstr [83, 80, 67, 65])) else (bif (kind == (10 : Int)) then (some (bstr [83, 80, 82])) else (bif (kind == (11 : Int)) then (bif (kind == (11 : Int)) then (some (bstr [80])) else (bif (kind == (14 : Int)) then (some (bstr [80, 82])) else fact_Uses_p0)) else (bif (kind == (12 : Int)) then (bif (kind == (12 : Int)) then (some (bstr [80])) else (bif (kind == (14 : Int)) then (some (bstr [80, 82])) else fact_Uses_p0)) else (bif (kind == (13 : Int)) then (some (bstr [80])) else (bif (kind == (14 : Int)) then (some (bstr [80, 82])) else fact_Uses_p0))))))) else (bif (kind == (9 : Int)) then (some (bstr [83, 80])) else (bif (kind == (6 : Int)) then (some (bstr [83, 80, 67, 65])) else (bif (kind == (10 : Int)) then (some (bstr [83, 80, 82])) else (bif (kind == (11 : Int)) then (bif (kind == (11 : Int)) then (some (bstr [80])) else (bif (kind == (14 : Int)) then (some (bstr [80, 82])) else fact_Uses_p0)) else (bif (kind == (12 : Int)) then (bif (kind == (12 : Int)) then (some (bstr [80])) else (bif (kind == (14 : Int)) then (some (bstr [80, 82])) else fact_Uses_p0)) else (bif (kind == (13 : Int)) then (some (bstr [80])) else (bif (kind == (14 : Int)) then (some (bstr [80, 82])) else fact_Uses_p0)))))))))))) else (bif (kind == (3 : Int)) then (some (bstr [83, 80, 72, 67, 65])) else (bif (kind == (4 : Int)) then (some (bstr [83, 80, 84])) else (bif (kind == (5 : Int)) then (bif (kind == (5 : Int)) then (some (bstr [83, 80])) else (bif (kind == (6 : Int)) then (some (bstr [83, 80, 67, 65])) else (bif (kind == (10 : Int)) then (some (bstr [83, 80, 82])) else (bif (kind == (11 : Int)) then (bif (kind == (11 : Int)) then (some (bstr [80])) else (bif (kind == (14 : Int)) then (some (bstr [80, 82])) else fact_Uses_p0)) else (bif (kind == (12 : Int)) then (bif (kind == (12 : Int)) then (some (bstr [80])) else (bif (kind == (14 : Int)) then (some (bstr [80, 82])) else fact_Uses_p0)) else (bif (kind == (13 : Int)) then (some (bstr [80])) else (bif (kind == (14 : Int)) then (some (bstr [80, 82])) else fact_Uses_p0))))))) else (bif (kind == (7 : Int)) then (bif (kind == (7 : Int)) then (some (bstr [83, 80])) else (bif (kind == (6 : Int)) then (some (bstr [83, 80, 67, 65])) else (bif (kind == (10 : Int)) then (some (bstr [83, 80, 82])) else (bif (kind == (11 : Int)) then (bif (kind == (11 : Int)) then (some (bstr [80])) else (bif (kind == (14 : Int)) then (some (bstr [80, 82])) else fact_Uses_p0)) else (bif (kind == (12 : Int)) then (bif (kind == (12 : Int)) then (some (bstr [80])) else (bif (kind == (14 : Int)) then (some (bstr [80, 82])) else fact_Uses_p0)) else (bif (kind == (13 : Int)) then (some (bstr [80])) else (bif (kind == (14 : Int)) then (some (bstr [80, 82])) else fact_Uses_p0))))))) else (bif (kind == (8 : Int)) then (bif (kind == (8 : Int)) then (some (bstr [83, 80])) else (bif (kind == (6 : Int)) then (some (bstr [83, 80, 67, 65])) else (bif (kind == (10 : Int)) then (some (bstr [83, 80, 82])) else (bif (kind == (11 : Int)) then (bif (kind == (11 : Int)) then (some (bstr [80])) else (bif (kind == (14 : Int)) then (some (bstr [80, 82])) else fact_Uses_p0)) else (bif (kind == (12 : Int)) then (bif (kind == (12 : Int)) then (some (bstr [80])) else (bif (kind == (14 : Int)) then (some (bstr [80, 82])) else fact_Uses_p0)) else (bif (kind == (13 : Int)) then (some (bstr [80])) else (bif (kind == (14 : Int)) then (some (bstr [80, 82])) else fact_Uses_p0))))))) else (bif (kind == (9 : Int)) then (some (bstr [83, 80])) else (bif (kind == (6 : Int)) then (some (bstr [83, 80, 67, 65])) else (bif (kind == (10 : Int)) then (some (bstr [83, 80, 82])) else (bif (kind == (11 : Int)) then (bif (kind == (11 : Int)) then (some (bstr [80])) else (bif (kind == (14 : Int)) then (some (bstr [80, 82])) else fact_Uses_p0)) else (bif (kind == (12 : Int)) then (bif (kind == (12 : Int)) then (some (bstr [80])) else (bif (kind == (14 : Int)) then (some (bstr [80, 82])) else fact_Uses_p0)) else (bif (kind == (13 : Int)) then (some (bstr [80])) else (bif (kind == (14 : Int)) then (some (bstr [80, 82])) else fact_Uses_p0))))))))))))))
theorem z58p1ok (kind : Int) (K : KT) (h : W (fact_Uses_p1 kind) (rE z58R K)) : EvL Tryz.prog 26 (List.drop 0 z58i0) K (z58p1S kind) :=
  EvL.pD mixed (lookC_ok (l := []) trivial) [2] 0 3 3 (.nf (X := fun K => (bif (kind == (1 : Int)) then wK K .ret (z58R (bstr [83, 80, 84, 72, 67, 65])) else (bif (kind == (2 : Int)) then (bif (kind == (2 : Int)) then wK K .ret (z58R (bstr [83, 80, 72, 67, 65])) else (bif (kind == (4 : Int)) then wK K .ret (z58R (bstr [83, 80, 84])) else (bif (kind == (5 : Int)) then (bif (kind == (5 : Int)) then wK K .ret (z58R (bstr [83, 80])) else (bif (kind == (6 : Int)) then wK K .ret (z58R (bstr [83, 80, 67, 65])) else (bif (kind == (10 : Int)) then wK K .ret (z58R (bstr [83, 80, 82])) else (bif (kind == (11 : Int)) then (bif (kind == (11 : Int)) then wK K .ret (z58R (bstr [80])) else (bif (kind == (14 : Int)) then wK K .ret (z58R (bstr [80, 82])) else wK K .normal ({ tm := [sv 2 (str (bstr []))], hp := [], nx := 0 }))) else (bif (kind == (12 : Int)) then (bif (kind == (12 : Int)) then wK K .ret (z58R (bstr [80])) else (bif (kind == (14 : Int)) then wK K .ret (z58R (bstr [80, 82])) else wK K .normal ({ tm := [sv 2 (str (bstr []))], hp := [], nx := 0 }))) else (bif (kind == (13 : Int)) then wK K .ret (z58R (bstr [80])) else (bif (kind == (14 : Int)) then wK K .ret (z58R (bstr [80, 82])) else wK K .normal ({ tm := [sv 2 (str (bstr []))], hp := [], nx := 0 })))))))) else (bif (kind == (7 : Int)) then (bif (kind == (7 : Int)) then wK K .ret (z58R (bstr [83, 80])) else (bif (kind == (6 : Int)) then wK K .ret (z58R (bstr [83, 80, 67, 65])) else (bif (kind == (10 : Int)) then wK K .ret (z58R (bstr [83, 80, 82])) else (bif (kind == (11 : Int)) then (bif (kind == (11 : Int)) then wK K .ret (z58R (bstr [80])) else (bif (kind == (14 : Int)) then wK K .ret (z58R (bstr [80, 82])) else wK K .normal ({ tm := [sv 2 (str (bstr []))], hp := [], nx := 0 }))) else (bif (kind == (12 : Int)) then (bif (kind == (12 : Int)) then wK K .ret (z58R (bstr [80])) else (bif (kind == (14 : Int)) then wK K .ret (z58R (bstr [80, 82])) else wK K .normal ({ tm := [sv 2 (str (bstr []))], hp := [], nx := 0 }))) else (bif (kind == (13 : Int)) then wK K .ret (z58R (bstr [80])) else (bif (kind == (14 : Int)) then wK K .ret (z58R (bstr [80, 82])) else wK K .normal ({ tm := [sv 2 (str (bstr []))], hp := [], nx := 0 })))))))) else (bif (kind == (8 : Int)) then (bif (kind == (8 : Int)) then wK K .ret (z58R (bstr [83, 80])) else (bif (kind == (6 : Int)) then wK K .ret (z58R (bstr [83, 80, 67, 65])) else (bif (kind == (10 : Int)) then wK K .ret (z58R (bstr [83, 80, 82])) else (bif (kind == (11 : Int)) then (bif (kind == (11 : Int)) then wK K .ret (z58R (bstr [80])) else (bif (kind == (14 : Int)) then wK K .ret (z58R (bstr [80, 82])) else wK K .normal ({ tm := [sv 2 (str (bstr []))], hp := [], nx := 0 }))) else (bif (kind == (12 : Int)) then (bif (kind == (12 : Int)) then wK K .ret (z58R (bstr [80])) else (bif (kind == (14 : Int)) then wK K .ret (z58R (bstr [80, 82])) else wK K .normal ({ tm := [sv 2 (str (bstr []))], hp := [], nx := 0 }))) else (bif (kind == (13 : Int)) then wK K .ret (z58R (bstr [80])) else (bif (kind == (14 : Int)) then wK K .ret (z58R (bstr [80, 82])) else wK K .normal ({ tm := [sv 2 (str (bstr []))], hp := [], nx := 0 })))))))) else (bif (kind == (9 : Int)) then wK K .ret (z58R (bstr [83, 80])) else (bif (kind == (6 : Int)) then wK K .ret (z58R (bstr [83, 80, 67, 65])) else (bif (kind == (10 : Int)) then wK K .ret (z58R (bstr [83, 80, 82])) else (bif (kind == (11 : Int)) then (bif (kind == (11 : Int)) then wK K .ret (z58R (bstr [80])) else (bif (kind == (14 : Int)) then wK K .ret (z58R (bstr [80, 82])) else wK K .normal ({ tm := [sv 2 (str (bstr []))], hp := [], nx := 0 }))) else (bif (kind == (12 : Int)) then (bif (kind == (12 : Int)) then wK K .ret (z58R (bstr [80])) else (bif (kind == (14 : Int)) then wK K .ret (z58R (bstr [80, 82])) else wK K .normal ({ tm := [sv 2 (str (bstr []))], hp := [], nx := 0 }))) else (bif (kind == (13 : Int)) then wK K .ret (z58R (bstr [80])) else (bif (kind == (14 : Int)) then wK K .ret (z58R (bstr [80, 82])) else wK K .normal ({ tm := [sv 2 (str (bstr []))], hp := [], nx := 0 }))))))))))))) else (bif (kind == (3 : Int)) then wK K .ret (z58R (bstr [83, 80, 72, 67, 65])) else (bif (kind == (4 : Int)) then wK K .ret (z58R (bstr [83, 80, 84])) else (bif (kind == (5 : Int)) then (bif (kind == (5 : Int)) then wK K .ret (z58R (bstr [83, 80])) else (bif (kind == (6 : Int)) then wK K .ret (z58R (bstr [83, 80, 67, 65])) else (bif (kind == (10 : Int)) then wK K .ret (z58R (bstr [83, 80, 82])) else (bif (kind == (11 : Int)) then (bif (kind == (11 : Int)) then wK K .ret (z58R (bstr [80])) else (bif (kind == (14 : Int)) then wK K .ret (z58R (bstr [80, 82])) else wK K .normal ({ tm := [sv 2 (str (bstr []))], hp := [], nx := 0 }))) else (bif (kind == (12 : Int)) then (bif (kind == (12 : Int)) then wK K .ret (z58R (bstr [80])) else (bif (kind == (14 : Int)) then wK K .ret (z58R (bstr [80, 82])) else wK K .normal ({ tm := [sv 2 (str (bstr []))], hp := [], nx := 0 }))) else (bif (kind == (13 : Int)) then wK K .ret (z58R (bstr [80])) else (bif (kind == (14 : Int)) then wK K .ret (z58R (bstr [80, 82])) else wK K .normal ({ tm := [sv 2 (str (bstr []))], hp := [], nx := 0 })))))))) else (bif (kind == (7 : Int)) then (bif (kind == (7 : Int)) then wK K .ret (z58R (bstr [83, 80])) else (bif (kind == (6 : Int)) then wK K .ret (z58R (bstr [83, 80, 67, 65])) else (bif (kind == (10 : Int)) then wK K .ret (z58R (bstr [83, 80, 82])) else (bif (kind == (11 : Int)) then (bif (kind == (11 : Int)) then wK K .ret (z58R (bstr [80])) else (bif (kind == (14 : Int)) then wK K .ret (z58R (bstr [80, 82])) else wK K .normal ({ tm := [sv 2 (str (bstr []))], hp := [], nx := 0 }))) else (bif (kind == (12 : Int)) then (bif (kind == (12 : Int)) then wK K .ret (z58R (bstr [80])) else (bif (kind == (14 : Int)) then wK K .ret (z58R (bstr [80, 82])) else wK K .normal ({ tm := [sv 2 (str (bstr []))], hp := [], nx := 0 }))) else (bif (kind == (13 : Int)) then wK K .ret (z58R (bstr [80])) else (bif (kind == (14 : Int)) then wK K .ret (z58R (bstr [80, 82])) else wK K .normal ({ tm := [sv 2 (str (bstr []))], hp := [], nx := 0 })))))))) else (bif (kind == (8 : Int)) then (bif (kind == (8 : Int)) then wK K .ret (z58R (bstr [83, 80])) else (bif (kind == (6 : Int)) then wK K .ret (z58R (bstr [83, 80, 67, 65])) else (bif (kind == (10 : Int)) then wK K .ret (z58R (bstr [83, 80, 82])) else (bif (kind == (11 : Int)) then (bif (kind == (11 : Int)) then wK K .ret (z58R (bstr [80])) else (bif (kind == (14 : Int)) then wK K .ret (z58R (bstr [80, 82])) else wK K .normal ({ tm := [sv 2 (str (bstr []))], hp := [], nx := 0 }))) else (bif (kind == (12 : Int)) then (bif (kind == (12 : Int)) then wK K .ret (z58R (bstr [80])) else (bif (kind == (14 : Int)) then wK K .ret (z58R (bstr [80, 82])) else wK K .normal ({ tm := [sv 2 (str (bstr []))], hp := [], nx := 0 }))) else (bif (kind == (13 : Int)) then wK K .ret (z58R (bstr [80])) else (bif (kind == (14 : Int)) then wK K .ret (z58R (bstr [80, 82])) else wK K .normal ({ tm := [sv 2 (str (bstr []))], hp := [], nx := 0 })))))))) else (bif (kind == (9 : Int)) then wK K .ret (z58R (bstr [83, 80])) else (bif (kind == (6 : Int)) then wK K .ret (z58R (bstr [83, 80, 67, 65])) else (bif (kind == (10 : Int)) then wK K .ret (z58R (bstr [83, 80, 82])) else (bif (kind == (11 : Int)) then (bif (kind == (11 : Int)) then wK K .ret (z58R (bstr [80])) else (bif (kind == (14 : Int)) then wK K .ret (z58R (bstr [80, 82])) else wK K .normal ({ tm := [sv 2 (str (bstr []))], hp := [], nx := 0 }))) else (bif (kind == (12 : Int)) then (bif (kind == (12 : Int)) then wK K .ret (z58R (bstr [80])) else (bif (kind == (14 : Int)) then wK K .ret (z58R (bstr [80, 82])) else wK K .normal ({ tm := [sv 2 (str (bstr []))], hp := [], nx := 0 }))) else (bif (kind == (13 : Int)) then wK K .ret (z58R (bstr [80])) else (bif (kind == (14 : Int)) then wK K .ret (z58R (bstr [80, 82])) else wK K .normal ({ tm := [sv 2 (str (bstr []))], hp := [], nx := 0 })))))))))))))))) (fun K => by kernel_rfl) (W_bif h (fun _ h => ⟨_, .refl _, h⟩) (fun _ h => (W_bif h (fun _ h => (W_bif h (fun _ h => ⟨_, .refl _, h⟩) (fun _ h => (W_bif h (fun _ h => ⟨_, .refl _, h⟩) (fun _ h => (W_bif h (fun _ h => (W_bif h (fun _ h => ⟨_, .refl _, h⟩) (fun _ h => (W_bif h (fun _ h => ⟨_, .refl _, h⟩) (fun _ h => (W_bif h (fun _ h => ⟨_, .refl _, h⟩) (fun _ h => (W_bif h (fun _ h => (W_bif h (fun _ h => ⟨_, .refl _, h⟩) (fun _ h => (W_bif h (fun _ h => ⟨_, .refl _, h⟩) (fun _ h => ⟨(z58p0S), (.of .nil .nil rfl), (z58p0ok _ h)⟩))))) (fun _ h => (W_bif h (fun _ h => (W_bif h (fun _ h => ⟨_, .refl _, h⟩) (fun _ h => (W_bif h (fun _ h => ⟨_, .refl _, h⟩) (fun _ h => ⟨(z58p0S), (.of .nil .nil rfl), (z58p0ok _ h)⟩))))) (fun _ h => (W_bif h (fun _ h => ⟨_, .refl _, h⟩) (fun _ h => (W_bif h (fun _ h => ⟨_, .refl _, h⟩) (fun _ h => ⟨(z58p0S), (.of .nil .nil rfl), (z58p0ok _ h)⟩))))))))))))))) (fun _ h => (W_bif h (fun _ h => (W_bif h (fun _ h => ⟨_, .refl _, h⟩) (fun _ h => (W_bif h (fun _ h => ⟨_, .refl _, h⟩) (fun _ h => (W_bif h (fun _ h => ⟨_, .refl _, h⟩) (fun _ h => (W_bif h (fun _ h => (W_bif h (fun _ h => ⟨_, .refl _, h⟩) (fun _ h => (W_bif h (fun _ h => ⟨_, .refl _, h⟩) (fun _ h => ⟨(z58p0S), (.of .nil .nil rfl), (z58p0ok _ h)⟩))))) (fun _ h => (W_bif h (fun _ h => (W_bif h (fun _ h => ⟨_, .refl _, h⟩) (fun _ h => (W_bif h (fun _ h => ⟨_, .refl _, h⟩) (fun _ h => ⟨(z58p0S), (.of .nil .nil rfl), (z58p0ok _ h)⟩))))) (fun _ h => (W_bif h (fun _ h => ⟨_, .refl _, h⟩) (fun _ h => (W_bif h (fun _ h => ⟨_, .refl _, h⟩) (fun _ h => ⟨(z58p0S), (.of .nil .nil rfl), (z58p0ok _ h)⟩))))))))))))))) (fun _ h => (W_bif h (fun _ h => (W_bif h (fun _ h => ⟨_, .refl _, h⟩) (fun _ h => (W_bif h (fun _ h => ⟨_, .refl _, h⟩) (fun _ h => (W_bif h (fun _ h => ⟨_, .refl _, h⟩) (fun _ h => (W_bif h (fun _ h => (W_bif h (fun _ h => ⟨_, .refl _, h⟩) (fun _ h => (W_bif h (fun _ h => ⟨_, .refl _, h⟩) (fun _ h => ⟨(z58p0S), (.of .nil .nil rfl), (z58p0ok _ h)⟩))))) (fun _ h => (W_bif h (fun _ h => (W_bif h (fun _ h => ⟨_, .refl _, h⟩) (fun _ h => (W_bif h (fun _ h => ⟨_, .refl _, h⟩) (fun _ h => ⟨(z58p0S), (.of .nil .nil rfl), (z58p0ok _ h)⟩))))) (fun _ h => (W_bif h (fun _ h => ⟨_, .refl _, h⟩) (fun _ h => (W_bif h (fun _ h => ⟨_, .refl _, h⟩) (fun _ h => ⟨(z58p0S), (.of .nil .nil rfl), (z58p0ok _ h)⟩))))))))))))))) (fun _ h => (W_bif h (fun _ h => ⟨_, .refl _, h⟩) (fun _ h => (W_bif h (fun _ h => ⟨_, .refl _, h⟩) (fun _ h => (W_bif h (fun _ h => ⟨_, .refl _, h⟩) (fun _ h => (W_bif h (fun _ h => (W_bif h (fun _ h => ⟨_, .refl _, h⟩) (fun _ h => (W_bif h (fun _ h => ⟨_, .refl _, h⟩) (fun _ h => ⟨(z58p0S), (.of .nil .nil rfl), (z58p0ok _ h)⟩))))) (fun _ h => (W_bif h (fun _ h => (W_bif h (fun _ h => ⟨_, .refl _, h⟩) (fun _ h => (W_bif h (fun _ h => ⟨_, .refl _, h⟩) (fun _ h => ⟨(z58p0S), (.of .nil .nil rfl), (z58p0ok _ h)⟩))))) (fun _ h => (W_bif h (fun _ h => ⟨_, .refl _, h⟩) (fun _ h => (W_bif h (fun _ h => ⟨_, .refl _, h⟩) (fun _ h => ⟨(z58p0S), (.of .nil .nil rfl), (z58p0ok _ h)⟩))))))))))))))))))))))))) (fun _ h => (W_bif h (fun _ h => ⟨_, .refl _, h⟩) (fun _ h => (W_bif h (fun _ h => ⟨_, .refl _, h⟩) (fun _ h => (W_bif h (fun _ h => (W_bif h (fun _ h => ⟨_, .refl _, h⟩) (fun _ h => (W_bif h (fun _ h => ⟨_, .refl _, h⟩) (fun _ h => (W_bif h (fun _ h => ⟨_, .refl _, h⟩) (fun _ h => (W_bif h (fun _ h => (W_bif h (fun _ h => ⟨_, .refl _, h⟩) (fun _ h => (W_bif h (fun _ h => ⟨_, .refl _, h⟩) (fun _ h => ⟨(z58p0S), (.of .nil .nil rfl), (z58p0ok _ h)⟩))))) (fun _ h => (W_bif h (fun _ h => (W_bif h (fun _ h => ⟨_, .refl _, h⟩) (fun _ h => (W_bif h (fun _ h => ⟨_, .refl _, h⟩) (fun _ h => ⟨(z58p0S), (.of .nil .nil rfl), (z58p0ok _ h)⟩))))) (fun _ h => (W_bif h (fun _ h => ⟨_, .refl _, h⟩) (fun _ h => (W_bif h (fun _ h => ⟨_, .refl _, h⟩) (fun _ h => ⟨(z58p0S), (.of .nil .nil rfl), (z58p0ok _ h)⟩))))))))))))))) (fun _ h => (W_bif h (fun _ h => (W_bif h (fun _ h => ⟨_, .refl _, h⟩) (fun _ h => (W_bif h (fun _ h => ⟨_, .refl _, h⟩) (fun _ h => (W_bif h (fun _ h => ⟨_, .refl _, h⟩) (fun _ h => (W_bif h (fun _ h => (W_bif h (fun _ h => ⟨_, .refl _, h⟩) (fun _ h => (W_bif h (fun _ h => ⟨_, .refl _, h⟩) (fun _ h => ⟨(z58p0S), (.of .nil .nil rfl), (z58p0ok _ h)⟩))))) (fun _ h => (W_bif h (fun _ h => (W_bif h (fun _ h => ⟨_, .refl _, h⟩) (fun _ h => (W_bif h (fun _ h => ⟨_, .refl _, h⟩) (fun _ h => ⟨(z58p0S), (.of .nil .nil rfl), (z58p0ok _ h)⟩))))) (fun _ h => (W_bif h (fun _ h => ⟨_, .refl _, h⟩) (fun _ h => (W_bif h (fun _ h => ⟨_, .refl _, h⟩) (fun _ h => ⟨(z58p0S), (.of .nil .nil rfl), (z58p0ok _ h)⟩))))))))))))))) (fun _ h => (W_bif h (fun _ h => (W_bif h (fun _ h => ⟨_, .refl _, h⟩) (fun _ h => (W_bif h (fun _ h => ⟨_, .refl _, h⟩) (fun _ h => (W_bif h (fun _ h => ⟨_, .refl _, h⟩) (fun _ h => (W_bif h (fun _ h => (W_bif h (fun _ h => ⟨_, .refl _, h⟩) (fun _ h => (W_bif h (fun _ h => ⟨_, .refl _, h⟩) (fun _ h => ⟨(z58p0S), (.of .nil .nil rfl), (z58p0ok _ h)⟩))))) (fun _ h => (W_bif h (fun _ h => (W_bif h (fun _ h => ⟨_, .refl _, h⟩) (fun _ h => (W_bif h (fun _ h => ⟨_, .refl _, h⟩) (fun _ h => ⟨(z58p0S), (.of .nil .nil rfl), (z58p0ok _ h)⟩))))) (fun _ h => (W_bif h (fun _ h => ⟨_, .refl _, h⟩) (fun _ h => (W_bif h (fun _ h => ⟨_, .refl _, h⟩) (fun _ h => ⟨(z58p0S), (.of .nil .nil rfl), (z58p0ok _ h)⟩))))))))))))))) (fun _ h => (W_bif h (fun _ h => ⟨_, .refl _, h⟩) (fun _ h => (W_bif h (fun _ h => ⟨_, .refl _, h⟩) (fun _ h => (W_bif h (fun _ h => ⟨_, .refl _, h⟩) (fun _ h => (W_bif h (fun _ h => (W_bif h (fun _ h => ⟨_, .refl _, h⟩) (fun _ h => (W_bif h (fun _ h => ⟨_, .refl _, h⟩) (fun _ h => ⟨(z58p0S), (.of .nil .nil rfl), (z58p0ok _ h)⟩))))) (fun _ h => (W_bif h (fun _ h => (W_bif h (fun _ h => ⟨_, .refl _, h⟩) (fun _ h => (W_bif h (fun _ h => ⟨_, .refl _, h⟩) (fun _ h => ⟨(z58p0S), (.of .nil .nil rfl), (z58p0ok _ h)⟩))))) (fun _ h => (W_bif h (fun _ h => ⟨_, .refl _, h⟩) (fun _ h => (W_bif h (fun _ h => ⟨_, .refl _, h⟩) (fun _ h => ⟨(z58p0S), (.of .nil .nil rfl), (z58p0ok _ h)⟩)))))))))))))))))))))))))))))
noncomputable def fact_Uses (kind : Int) : Option (ByteArray) := fact_Uses_p1 kind
theorem z58run (kind : Int) (y_ : ByteArray) (h : fact_Uses kind = some y_) : EvL Tryz.prog 26 (items (bodyOf Tryz.f58)) (retK Tryz.prog [.tmp 2] (OutOk (fact_Uses_out y_))) (z58p1S kind) :=
  z58p1ok kind _ (W_iff.2 ⟨y_, h, z58Rok y_⟩)
noncomputable def fact_Uses_C : Con
  | [(.c (.lit (.int .i64 a1)))] => some ([(fact_Uses a1).isSome = true], (fact_Uses_out ((fact_Uses a1).getD (bstr []))))
  | _ => none
theorem fact_Uses_ok : Meets Tryz.prog 58 fact_Uses_C := by
  refine meets_fun (fn := Tryz.f58) (c := bodyOf Tryz.f58) (by kernel_rfl) (by kernel_rfl) (by kernel_rfl) (rs := [.tmp 2]) (by kernel_rfl) (nt := 26) (by kernel_rfl) fun vs p out h hp => ?_
  unfold fact_Uses_C at h
  split at h
  · next a1 =>
    cases h
    obtain ⟨g, hp⟩ := allq hp
    obtain ⟨x, hx⟩ := Option.isSome_iff_exists.1 g
    rw [hx]
    exact ⟨[(i64 a1)], (VLes.cons (VLe.rfl' _) VLes.nil), rfl, z58run a1 x hx⟩
  · cases h

noncomputable def z61i0 : List Code := items (bodyOf Tryz.f61)
def fact_within_out (x_2 : Bool) : Out := .data (bl x_2)
def z61R (x_2 : Bool) : St := { tm := [sv 6 (bl x_2)], hp := [], nx := 0 }
theorem z61Rok (x_2 : Bool) : retK Tryz.prog [.tmp 6] (OutOk (fact_within_out x_2)) .ret (z61R x_2) :=
  retK.intro (v := (bl x_2)) (by kernel_rfl) ((VLe.rfl' _))
def z61p0S (x_1 low high : Int) : St := { tm := [sv 0 (i64 x_1), sv 1 (i64 low), sv 2 (i64 high)], hp := [], nx := 0 }
noncomputable def fact_within_p0 (x_1 low high : Int) : Option (Bool) := (some (bif (decide (low ≤ x_1)) then (decide (x_1 ≤ high)) else false))
theorem z61p0ok (x_1 low high : Int) (K : KT) (h : W (fact_within_p0 x_1 low high) (rE z61R K)) : EvL Tryz.prog 15 (List.drop 0 z61i0) K (z61p0S x_1 low high) :=
  EvL.pE mixed (lookC_ok (l := []) trivial) [6] 0 3 (.nf (X := fun K => wK K .ret (z61R (bif (decide (low ≤ x_1)) then (decide (x_1 ≤ high)) else false))) (fun K => by kernel_rfl) (⟨_, .refl _, h⟩))
noncomputable def fact_within (x_1 low high : Int) : Option (Bool) := fact_within_p0 x_1 low high
theorem z61run (x_1 low high : Int) (y_ : Bool) (h : fact_within x_1 low high = some y_) : EvL Tryz.prog 15 (items (bodyOf Tryz.f61)) (retK Tryz.prog [.tmp 6] (OutOk (fact_within_out y_))) (z61p0S x_1 low high) :=
  z61p0ok x_1 low high _ (W_iff.2 ⟨y_, h, z61Rok y_⟩)
noncomputable def fact_within_C : Con
  | [(.c (.lit (.int .i64 a1))), (.c (.lit (.int .i64 a2))), (.c (.lit (.int .i64 a3)))] => some ([(fact_within a1 a2 a3).isSome = true], (fact_within_out ((fact_within a1 a2 a3).getD false)))
  | _ => none
theorem fact_within_ok : Meets Tryz.prog 61 fact_within_C := by
  refine meets_fun (fn := Tryz.f61) (c := bodyOf Tryz.f61) (by kernel_rfl) (by kernel_rfl) (by kernel_rfl) (rs := [.tmp 6]) (by kernel_rfl) (nt := 15) (by kernel_rfl) fun vs p out h hp => ?_
  unfold fact_within_C at h
  split at h
  · next a1 a2 a3 =>
    cases h
    obtain ⟨g, hp⟩ := allq hp
    obtain ⟨x, hx⟩ := Option.isSome_iff_exists.1 g
    rw [hx]
    exact ⟨[(i64 a1), (i64 a2), (i64 a3)], (VLes.cons (VLe.rfl' _) (VLes.cons (VLe.rfl' _) (VLes.cons (VLe.rfl' _) VLes.nil))), rfl, z61run a1 a2 a3 x hx⟩
  · cases h


/-- Where a byte stands first. -/
def bytealg_IndexByteString (s : ByteArray) (c : Int) : Option Int := some (firstIdx s c.toNat.toUInt8)
def bytealg_IndexByteString_C : Con
  | [.c (.lit (.string s)), .c (.lit (.int .u8 c))] => some ([(bytealg_IndexByteString s c).isSome = true], .data (i64 ((bytealg_IndexByteString s c).getD (0 : Int))))
  | _ => none
theorem bytealg_IndexByteString_ok : Meets Tryz.prog 130 bytealg_IndexByteString_C := by
  intro ok w xs vs p out hx hok hcon hp
  unfold bytealg_IndexByteString_C at hcon
  split at hcon
  · next s c =>
    cases hcon
    obtain ⟨x, y, rfl⟩ : ∃ x y, xs = [x, y] := by
      have := hx.1
      match xs, this with
      | [x, y], _ => exact ⟨x, y, rfl⟩
    have e1 := (hx.2 0 x _ rfl rfl).lit_inv
    have e2 := (hx.2 1 y _ rfl rfl).lit_inv
    subst e1 e2
    refine .inr ⟨.int .i64 (firstIdx s c.toNat.toUInt8), w, ?_, .refl _ _, .lit _⟩
    rw [run_callFunc_extern (fn := Tryz.f130) (e := Extern.BytealgIndexByte.indexByte) (by kernel_rfl) (by kernel_rfl) (by kernel_rfl) (by kernel_rfl) (by kernel_rfl)]
    have := run_indexByte_string (P := Tryz.prog) s c w
    rw [show [Value.string s, Value.int .u8 c].toArray = #[Value.string s, Value.int .u8 c] from rfl, this]
    rfl
  · cases hcon

noncomputable def z109i0 : List Code := items (bodyOf Tryz.f109)
def internal_stringslite_IndexByte_out (x_1 : Int) : Out := .data (i64 x_1)
def z109R (x_1 : Int) : St := { tm := [sv 4 (i64 x_1)], hp := [], nx := 0 }
theorem z109Rok (x_1 : Int) : retK Tryz.prog [.tmp 4] (OutOk (internal_stringslite_IndexByte_out x_1)) .ret (z109R x_1) :=
  retK.intro (v := (i64 x_1)) (by kernel_rfl) ((VLe.rfl' _))
def z109p0S (s_1 : ByteArray) (c : Int) : St := { tm := [sv 0 (str s_1), sv 1 (.c (.lit (.int .u8 c)))], hp := [], nx := 0 }
noncomputable def internal_stringslite_IndexByte_p0 (s_1 : ByteArray) (c : Int) : Option (Int) := (bytealg_IndexByteString s_1 c).bind fun r_1 => ((some r_1))
theorem z109p0ok (s_1 : ByteArray) (c : Int) (K : KT) (h : W (internal_stringslite_IndexByte_p0 s_1 c) (rE z109R K)) : EvL Tryz.prog 8 (List.drop 0 z109i0) K (z109p0S s_1 c) :=
  EvL.pE mixed (lookC_ok (l := [(130, .pure bytealg_IndexByteString_C)]) ⟨bytealg_IndexByteString_ok, trivial⟩) [4] 0 3 (.nf (X := fun K => ((bytealg_IndexByteString s_1 c).isSome = true) ∧ (wK K .ret (z109R ((bytealg_IndexByteString s_1 c).getD (0 : Int))))) (fun K => by kernel_rfl) (W_bind (0 : Int) h fun hp0 h => ⟨_, .refl _, h⟩))
noncomputable def internal_stringslite_IndexByte (s_1 : ByteArray) (c : Int) : Option (Int) := internal_stringslite_IndexByte_p0 s_1 c
theorem z109run (s_1 : ByteArray) (c : Int) (y_ : Int) (h : internal_stringslite_IndexByte s_1 c = some y_) : EvL Tryz.prog 8 (items (bodyOf Tryz.f109)) (retK Tryz.prog [.tmp 4] (OutOk (internal_stringslite_IndexByte_out y_))) (z109p0S s_1 c) :=
  z109p0ok s_1 c _ (W_iff.2 ⟨y_, h, z109Rok y_⟩)
noncomputable def internal_stringslite_IndexByte_C : Con
  | [(.c (.lit (.string a1))), (.c (.lit (.int .u8 a2)))] => some ([(internal_stringslite_IndexByte a1 a2).isSome = true], (internal_stringslite_IndexByte_out ((internal_stringslite_IndexByte a1 a2).getD (0 : Int))))
  | _ => none
theorem internal_stringslite_IndexByte_ok : Meets Tryz.prog 109 internal_stringslite_IndexByte_C := by
  refine meets_fun (fn := Tryz.f109) (c := bodyOf Tryz.f109) (by kernel_rfl) (by kernel_rfl) (by kernel_rfl) (rs := [.tmp 4]) (by kernel_rfl) (nt := 8) (by kernel_rfl) fun vs p out h hp => ?_
  unfold internal_stringslite_IndexByte_C at h
  split at h
  · next a1 a2 =>
    cases h
    obtain ⟨g, hp⟩ := allq hp
    obtain ⟨x, hx⟩ := Option.isSome_iff_exists.1 g
    rw [hx]
    exact ⟨[(str a1), (.c (.lit (.int .u8 a2)))], (VLes.cons (VLe.rfl' _) (VLes.cons (VLe.rfl' _) VLes.nil)), rfl, z109run a1 a2 x hx⟩
  · cases h

noncomputable def z101i0 : List Code := items (bodyOf Tryz.f101)
def internal_stringslite_Index_out (x_1 : Int) : Out := .data (i64 x_1)
def z101R (x_1 : Int) : St := { tm := [sv 4 (i64 x_1)], hp := [], nx := 0 }
theorem z101Rok (x_1 : Int) : retK Tryz.prog [.tmp 4] (OutOk (internal_stringslite_Index_out x_1)) .ret (z101R x_1) :=
  retK.intro (v := (i64 x_1)) (by kernel_rfl) ((VLe.rfl' _))
def z101p0S (s_1 substr : ByteArray) : St := { tm := [sv 0 (str s_1), sv 1 (str substr)], hp := [], nx := 0 }
noncomputable def internal_stringslite_Index_p0 (s_1 substr : ByteArray) : Option (Int) := (bif (bif (((substr.size : Nat) : Int) == (0 : Int)) then true else (substr.toList == s_1.toList)) then (some (0 : Int)) else (bif (((substr.size : Nat) : Int) == (1 : Int)) then gd ((0 : Int) ≤ (0 : Int) ∧ (0 : Int) < ((substr.size : Nat) : Int)) ((internal_stringslite_IndexByte s_1 ((substr.data.getD 0 0).toNat : Int)).bind fun r_1 => ((some r_1))) else (bif (decide (((s_1.size : Nat) : Int) ≤ ((substr.size : Nat) : Int))) then (some (-1 : Int)) else none)))
theorem z101p0ok (s_1 substr : ByteArray) (K : KT) (h : W (internal_stringslite_Index_p0 s_1 substr) (rE z101R K)) : EvL Tryz.prog 143 (List.drop 0 z101i0) K (z101p0S s_1 substr) :=
  EvL.pD mixed (lookC_ok (l := [(109, .pure internal_stringslite_IndexByte_C)]) ⟨internal_stringslite_IndexByte_ok, trivial⟩) [0, 1, 4, 5, 85, 86, 87, 88, 89, 90, 91, 92, 103, 104, 105, 106, 122, 123, 124, 125, 126, 129, 130, 131] 0 3 3 (.nf (X := fun K => (bif (bif (((substr.size : Nat) : Int) == (0 : Int)) then true else (substr.toList == s_1.toList)) then wK K .ret ({ tm := [sv 0 (str s_1), sv 1 (str substr), sv 4 (i64 (0 : Int)), sv 5 (i64 ((substr.size : Nat) : Int))], hp := [], nx := 0 }) else (bif (((substr.size : Nat) : Int) == (1 : Int)) then ((0 : Int) ≤ (0 : Int)) ∧ ((0 : Int) < ((substr.size : Nat) : Int)) ∧ ((internal_stringslite_IndexByte s_1 ((substr.data.getD 0 0).toNat : Int)).isSome = true) ∧ (wK K .ret ({ tm := [sv 0 (str s_1), sv 1 (str substr), sv 4 (i64 ((internal_stringslite_IndexByte s_1 ((substr.data.getD 0 0).toNat : Int)).getD (0 : Int))), sv 5 (i64 ((substr.size : Nat) : Int))], hp := [], nx := 0 })) else (bif (decide (((s_1.size : Nat) : Int) ≤ ((substr.size : Nat) : Int))) then wK K .ret ({ tm := [sv 0 (str s_1), sv 1 (str substr), sv 4 (i64 (-1 : Int)), sv 5 (i64 ((substr.size : Nat) : Int))], hp := [], nx := 0 }) else False)))) (fun K => by kernel_rfl) (W_bif h (fun _ h => ⟨(z101R (0 : Int)), (.of (.q rfl .nil) .nil rfl), h⟩) (fun _ h => (W_bif h (fun _ h => (W_gd2 h fun hp0 h => (W_bind (0 : Int) h fun hp1 h => ⟨(z101R ((internal_stringslite_IndexByte s_1 ((substr.data.getD 0 0).toNat : Int)).getD (0 : Int))), (.of (.q rfl .nil) .nil rfl), h⟩))) (fun _ h => (W_bif h (fun _ h => ⟨(z101R (-1 : Int)), (.of (.q rfl .nil) .nil rfl), h⟩) (fun _ h => h)))))))
noncomputable def internal_stringslite_Index (s_1 substr : ByteArray) : Option (Int) := internal_stringslite_Index_p0 s_1 substr
theorem z101run (s_1 substr : ByteArray) (y_ : Int) (h : internal_stringslite_Index s_1 substr = some y_) : EvL Tryz.prog 143 (items (bodyOf Tryz.f101)) (retK Tryz.prog [.tmp 4] (OutOk (internal_stringslite_Index_out y_))) (z101p0S s_1 substr) :=
  z101p0ok s_1 substr _ (W_iff.2 ⟨y_, h, z101Rok y_⟩)
noncomputable def internal_stringslite_Index_C : Con
  | [(.c (.lit (.string a1))), (.c (.lit (.string a2)))] => some ([(internal_stringslite_Index a1 a2).isSome = true], (internal_stringslite_Index_out ((internal_stringslite_Index a1 a2).getD (0 : Int))))
  | _ => none
theorem internal_stringslite_Index_ok : Meets Tryz.prog 101 internal_stringslite_Index_C := by
  refine meets_fun (fn := Tryz.f101) (c := bodyOf Tryz.f101) (by kernel_rfl) (by kernel_rfl) (by kernel_rfl) (rs := [.tmp 4]) (by kernel_rfl) (nt := 143) (by kernel_rfl) fun vs p out h hp => ?_
  unfold internal_stringslite_Index_C at h
  split at h
  · next a1 a2 =>
    cases h
    obtain ⟨g, hp⟩ := allq hp
    obtain ⟨x, hx⟩ := Option.isSome_iff_exists.1 g
    rw [hx]
    exact ⟨[(str a1), (str a2)], (VLes.cons (VLe.rfl' _) (VLes.cons (VLe.rfl' _) VLes.nil)), rfl, z101run a1 a2 x hx⟩
  · cases h

noncomputable def z86i0 : List Code := items (bodyOf Tryz.f86)
def strings_Index_out (x_1 : Int) : Out := .data (i64 x_1)
def z86R (x_1 : Int) : St := { tm := [sv 4 (i64 x_1)], hp := [], nx := 0 }
theorem z86Rok (x_1 : Int) : retK Tryz.prog [.tmp 4] (OutOk (strings_Index_out x_1)) .ret (z86R x_1) :=
  retK.intro (v := (i64 x_1)) (by kernel_rfl) ((VLe.rfl' _))
def z86p0S (s_1 substr : ByteArray) : St := { tm := [sv 0 (str s_1), sv 1 (str substr)], hp := [], nx := 0 }
noncomputable def strings_Index_p0 (s_1 substr : ByteArray) : Option (Int) := (internal_stringslite_Index s_1 substr).bind fun r_1 => ((some r_1))
theorem z86p0ok (s_1 substr : ByteArray) (K : KT) (h : W (strings_Index_p0 s_1 substr) (rE z86R K)) : EvL Tryz.prog 8 (List.drop 0 z86i0) K (z86p0S s_1 substr) :=
  EvL.pE mixed (lookC_ok (l := [(101, .pure internal_stringslite_Index_C)]) ⟨internal_stringslite_Index_ok, trivial⟩) [4] 0 3 (.nf (X := fun K => ((internal_stringslite_Index s_1 substr).isSome = true) ∧ (wK K .ret (z86R ((internal_stringslite_Index s_1 substr).getD (0 : Int))))) (fun K => by kernel_rfl) (W_bind (0 : Int) h fun hp0 h => ⟨_, .refl _, h⟩))
noncomputable def strings_Index (s_1 substr : ByteArray) : Option (Int) := strings_Index_p0 s_1 substr
theorem z86run (s_1 substr : ByteArray) (y_ : Int) (h : strings_Index s_1 substr = some y_) : EvL Tryz.prog 8 (items (bodyOf Tryz.f86)) (retK Tryz.prog [.tmp 4] (OutOk (strings_Index_out y_))) (z86p0S s_1 substr) :=
  z86p0ok s_1 substr _ (W_iff.2 ⟨y_, h, z86Rok y_⟩)
noncomputable def strings_Index_C : Con
  | [(.c (.lit (.string a1))), (.c (.lit (.string a2)))] => some ([(strings_Index a1 a2).isSome = true], (strings_Index_out ((strings_Index a1 a2).getD (0 : Int))))
  | _ => none
theorem strings_Index_ok : Meets Tryz.prog 86 strings_Index_C := by
  refine meets_fun (fn := Tryz.f86) (c := bodyOf Tryz.f86) (by kernel_rfl) (by kernel_rfl) (by kernel_rfl) (rs := [.tmp 4]) (by kernel_rfl) (nt := 8) (by kernel_rfl) fun vs p out h hp => ?_
  unfold strings_Index_C at h
  split at h
  · next a1 a2 =>
    cases h
    obtain ⟨g, hp⟩ := allq hp
    obtain ⟨x, hx⟩ := Option.isSome_iff_exists.1 g
    rw [hx]
    exact ⟨[(str a1), (str a2)], (VLes.cons (VLe.rfl' _) (VLes.cons (VLe.rfl' _) VLes.nil)), rfl, z86run a1 a2 x hx⟩
  · cases h

noncomputable def z60i0 : List Code := items (bodyOf Tryz.f60)
def strings_Contains_out (x_1 : Bool) : Out := .data (bl x_1)
def z60R (x_1 : Bool) : St := { tm := [sv 4 (bl x_1)], hp := [], nx := 0 }
theorem z60Rok (x_1 : Bool) : retK Tryz.prog [.tmp 4] (OutOk (strings_Contains_out x_1)) .ret (z60R x_1) :=
  retK.intro (v := (bl x_1)) (by kernel_rfl) ((VLe.rfl' _))
def z60p0S (s_1 substr : ByteArray) : St := { tm := [sv 0 (str s_1), sv 1 (str substr)], hp := [], nx := 0 }
noncomputable def strings_Contains_p0 (s_1 substr : ByteArray) : Option (Bool) := (strings_Index s_1 substr).bind fun r_1 => ((some (decide ((0 : Int) ≤ r_1))))
theorem z60p0ok (s_1 substr : ByteArray) (K : KT) (h : W (strings_Contains_p0 s_1 substr) (rE z60R K)) : EvL Tryz.prog 9 (List.drop 0 z60i0) K (z60p0S s_1 substr) :=
  EvL.pE mixed (lookC_ok (l := [(86, .pure strings_Index_C)]) ⟨strings_Index_ok, trivial⟩) [4] 0 3 (.nf (X := fun K => ((strings_Index s_1 substr).isSome = true) ∧ (wK K .ret (z60R (decide ((0 : Int) ≤ ((strings_Index s_1 substr).getD (0 : Int))))))) (fun K => by kernel_rfl) (W_bind (0 : Int) h fun hp0 h => ⟨_, .refl _, h⟩))
noncomputable def strings_Contains (s_1 substr : ByteArray) : Option (Bool) := strings_Contains_p0 s_1 substr
theorem z60run (s_1 substr : ByteArray) (y_ : Bool) (h : strings_Contains s_1 substr = some y_) : EvL Tryz.prog 9 (items (bodyOf Tryz.f60)) (retK Tryz.prog [.tmp 4] (OutOk (strings_Contains_out y_))) (z60p0S s_1 substr) :=
  z60p0ok s_1 substr _ (W_iff.2 ⟨y_, h, z60Rok y_⟩)
noncomputable def strings_Contains_C : Con
  | [(.c (.lit (.string a1))), (.c (.lit (.string a2)))] => some ([(strings_Contains a1 a2).isSome = true], (strings_Contains_out ((strings_Contains a1 a2).getD false)))
  | _ => none
theorem strings_Contains_ok : Meets Tryz.prog 60 strings_Contains_C := by
  refine meets_fun (fn := Tryz.f60) (c := bodyOf Tryz.f60) (by kernel_rfl) (by kernel_rfl) (by kernel_rfl) (rs := [.tmp 4]) (by kernel_rfl) (nt := 9) (by kernel_rfl) fun vs p out h hp => ?_
  unfold strings_Contains_C at h
  split at h
  · next a1 a2 =>
    cases h
    obtain ⟨g, hp⟩ := allq hp
    obtain ⟨x, hx⟩ := Option.isSome_iff_exists.1 g
    rw [hx]
    exact ⟨[(str a1), (str a2)], (VLes.cons (VLe.rfl' _) (VLes.cons (VLe.rfl' _) VLes.nil)), rfl, z60run a1 a2 x hx⟩
  · cases h

noncomputable def z59i0 : List Code := items (bodyOf Tryz.f59)
def fact_Valid_1_out (x_1 : Bool) : Out := .data (bl x_1)
def z59R (x_1 : Bool) : St := { tm := [sv 3 (bl x_1)], hp := [], nx := 0 }
theorem z59Rok (x_1 : Bool) : retK Tryz.prog [.tmp 3] (OutOk (fact_Valid_1_out x_1)) .ret (z59R x_1) :=
  retK.intro (v := (bl x_1)) (by kernel_rfl) ((VLe.rfl' _))
def z59p0S (letter t1 : ByteArray) : St := { tm := [sv 0 (str letter), sv 1 (.dptr 1 [(ds t1)] 0)], hp := [], nx := 0 }
noncomputable def fact_Valid_1_p0 (letter t1 : ByteArray) : Option (Bool) := (strings_Contains t1 letter).bind fun r_1 => ((some r_1))
theorem z59p0ok (letter t1 : ByteArray) (K : KT) (h : W (fact_Valid_1_p0 letter t1) (rE z59R K)) : EvL Tryz.prog 7 (List.drop 0 z59i0) K (z59p0S letter t1) :=
  EvL.pE mixed (lookC_ok (l := [(60, .pure strings_Contains_C)]) ⟨strings_Contains_ok, trivial⟩) [3] 0 3 (.nf (X := fun K => ((strings_Contains t1 letter).isSome = true) ∧ (wK K .ret (z59R ((strings_Contains t1 letter).getD false)))) (fun K => by kernel_rfl) (W_bind false h fun hp0 h => ⟨_, .refl _, h⟩))
noncomputable def fact_Valid_1 (letter t1 : ByteArray) : Option (Bool) := fact_Valid_1_p0 letter t1
theorem z59run (letter t1 : ByteArray) (y_ : Bool) (h : fact_Valid_1 letter t1 = some y_) : EvL Tryz.prog 7 (items (bodyOf Tryz.f59)) (retK Tryz.prog [.tmp 3] (OutOk (fact_Valid_1_out y_))) (z59p0S letter t1) :=
  z59p0ok letter t1 _ (W_iff.2 ⟨y_, h, z59Rok y_⟩)
noncomputable def fact_Valid_1_C : Con
  | [(.c (.lit (.string a1))), (.dptr 1 [(.lit (.string a2))] 0)] => some ([(fact_Valid_1 a1 a2).isSome = true], (fact_Valid_1_out ((fact_Valid_1 a1 a2).getD false)))
  | _ => none
theorem fact_Valid_1_ok : Meets Tryz.prog 59 fact_Valid_1_C := by
  refine meets_fun (fn := Tryz.f59) (c := bodyOf Tryz.f59) (by kernel_rfl) (by kernel_rfl) (by kernel_rfl) (rs := [.tmp 3]) (by kernel_rfl) (nt := 7) (by kernel_rfl) fun vs p out h hp => ?_
  unfold fact_Valid_1_C at h
  split at h
  · next a1 a2 =>
    cases h
    obtain ⟨g, hp⟩ := allq hp
    obtain ⟨x, hx⟩ := Option.isSome_iff_exists.1 g
    rw [hx]
    exact ⟨[(str a1), (.dptr 1 [(ds a2)] 0)], (VLes.cons (VLe.rfl' _) (VLes.cons (VLe.rfl' _) VLes.nil)), rfl, z59run a1 a2 x hx⟩
  · cases h

noncomputable def z62i0 : List Code := items (bodyOf Tryz.f62)
def fact_field_out (x_2 : Bool) : Out := .data (bl x_2)
def z62R (x_2 : Bool) : St := { tm := [sv 8 (bl x_2)], hp := [], nx := 0 }
theorem z62Rok (x_2 : Bool) : retK Tryz.prog [.tmp 8] (OutOk (fact_field_out x_2)) .ret (z62R x_2) :=
  retK.intro (v := (bl x_2)) (by kernel_rfl) ((VLe.rfl' _))
def z62p0S (used : Bool) (x_1 low high : Int) : St := { tm := [sv 0 (bl used), sv 1 (i64 x_1), sv 2 (i64 low), sv 3 (i64 high)], hp := [], nx := 0 }
noncomputable def fact_field_p0 (used : Bool) (x_1 low high : Int) : Option (Bool) := gd ((used && true) = true → (fact_within x_1 low high).isSome = true) ((some (bif (bif used then ((fact_within x_1 low high).getD false) else false) then true else (bif (!used) then (x_1 == (0 : Int)) else false))))
theorem z62p0ok (used : Bool) (x_1 low high : Int) (K : KT) (h : W (fact_field_p0 used x_1 low high) (rE z62R K)) : EvL Tryz.prog 24 (List.drop 0 z62i0) K (z62p0S used x_1 low high) :=
  EvL.pE mixed (lookC_ok (l := [(61, .pure fact_within_C)]) ⟨fact_within_ok, trivial⟩) [8] 0 3 (.nf (X := fun K => ((used && true) = true → (fact_within x_1 low high).isSome = true) ∧ (wK K .ret (z62R (bif (bif used then ((fact_within x_1 low high).getD false) else false) then true else (bif (!used) then (x_1 == (0 : Int)) else false))))) (fun K => by kernel_rfl) (W_gd h fun hp0 h => ⟨_, .refl _, h⟩))
noncomputable def fact_field (used : Bool) (x_1 low high : Int) : Option (Bool) := fact_field_p0 used x_1 low high
theorem z62run (used : Bool) (x_1 low high : Int) (y_ : Bool) (h : fact_field used x_1 low high = some y_) : EvL Tryz.prog 24 (items (bodyOf Tryz.f62)) (retK Tryz.prog [.tmp 8] (OutOk (fact_field_out y_))) (z62p0S used x_1 low high) :=
  z62p0ok used x_1 low high _ (W_iff.2 ⟨y_, h, z62Rok y_⟩)
noncomputable def fact_field_C : Con
  | [(.c (.lit (.bool a1))), (.c (.lit (.int .i64 a2))), (.c (.lit (.int .i64 a3))), (.c (.lit (.int .i64 a4)))] => some ([(fact_field a1 a2 a3 a4).isSome = true], (fact_field_out ((fact_field a1 a2 a3 a4).getD false)))
  | _ => none
theorem fact_field_ok : Meets Tryz.prog 62 fact_field_C := by
  refine meets_fun (fn := Tryz.f62) (c := bodyOf Tryz.f62) (by kernel_rfl) (by kernel_rfl) (by kernel_rfl) (rs := [.tmp 8]) (by kernel_rfl) (nt := 24) (by kernel_rfl) fun vs p out h hp => ?_
  unfold fact_field_C at h
  split at h
  · next a1 a2 a3 a4 =>
    cases h
    obtain ⟨g, hp⟩ := allq hp
    obtain ⟨x, hx⟩ := Option.isSome_iff_exists.1 g
    rw [hx]
    exact ⟨[(bl a1), (i64 a2), (i64 a3), (i64 a4)], (VLes.cons (VLe.rfl' _) (VLes.cons (VLe.rfl' _) (VLes.cons (VLe.rfl' _) (VLes.cons (VLe.rfl' _) VLes.nil)))), rfl, z62run a1 a2 a3 a4 x hx⟩
  · cases h

noncomputable def z63i0 : List Code := items (bodyOf Tryz.f63)
def fact_validSpan_out (x_1 : Bool) : Out := .data (bl x_1)
def z63R (x_1 : Bool) : St := { tm := [sv 2 (bl x_1)], hp := [], nx := 0 }
theorem z63Rok (x_1 : Bool) : retK Tryz.prog [.tmp 2] (OutOk (fact_validSpan_out x_1)) .ret (z63R x_1) :=
  retK.intro (v := (bl x_1)) (by kernel_rfl) ((VLe.rfl' _))
def z63p0S (s_1 : GSpan) : St := { tm := [sv 0 (.ag (eGSpan s_1))], hp := [], nx := 0 }
noncomputable def fact_validSpan_p0 (s_1 : GSpan) : Option (Bool) := (some (bif (bif (decide ((0 : Int) ≤ s_1.From)) then (decide (s_1.From < s_1.To)) else false) then (decide (s_1.To ≤ (73049 : Int))) else false))
theorem z63p0ok (s_1 : GSpan) (K : KT) (h : W (fact_validSpan_p0 s_1) (rE z63R K)) : EvL Tryz.prog 18 (List.drop 0 z63i0) K (z63p0S s_1) :=
  EvL.pE mixed (lookC_ok (l := []) trivial) [2] 0 3 (.nf (X := fun K => wK K .ret (z63R (bif (bif (decide ((0 : Int) ≤ s_1.From)) then (decide (s_1.From < s_1.To)) else false) then (decide (s_1.To ≤ (73049 : Int))) else false))) (fun K => by kernel_rfl) (⟨_, .refl _, h⟩))
noncomputable def fact_validSpan (s_1 : GSpan) : Option (Bool) := fact_validSpan_p0 s_1
theorem z63run (s_1 : GSpan) (y_ : Bool) (h : fact_validSpan s_1 = some y_) : EvL Tryz.prog 18 (items (bodyOf Tryz.f63)) (retK Tryz.prog [.tmp 2] (OutOk (fact_validSpan_out y_))) (z63p0S s_1) :=
  z63p0ok s_1 _ (W_iff.2 ⟨y_, h, z63Rok y_⟩)
noncomputable def fact_validSpan_C : Con
  | [(.agg [(.c (.lit (.int .i64 a1))), (.c (.lit (.int .i64 a2)))])] => some ([(fact_validSpan (GSpan.mk a1 a2)).isSome = true], (fact_validSpan_out ((fact_validSpan (GSpan.mk a1 a2)).getD false)))
  | _ => none
theorem fact_validSpan_ok : Meets Tryz.prog 63 fact_validSpan_C := by
  refine meets_fun (fn := Tryz.f63) (c := bodyOf Tryz.f63) (by kernel_rfl) (by kernel_rfl) (by kernel_rfl) (rs := [.tmp 2]) (by kernel_rfl) (nt := 18) (by kernel_rfl) fun vs p out h hp => ?_
  unfold fact_validSpan_C at h
  split at h
  · next a1 a2 =>
    cases h
    obtain ⟨g, hp⟩ := allq hp
    obtain ⟨x, hx⟩ := Option.isSome_iff_exists.1 g
    rw [hx]
    exact ⟨[(.agg [(i64 (GSpan.mk a1 a2).From), (i64 (GSpan.mk a1 a2).To)])], (VLes.cons (VLe.rfl' _) VLes.nil), rfl, z63run (GSpan.mk a1 a2) x hx⟩
  · cases h

noncomputable def z42i0 : List Code := items (bodyOf Tryz.f42)
def fact_Valid_out (x_1 : Bool) : Out := .data (bl x_1)
def z42R (x_1 : Bool) : St := { tm := [sv 2 (bl x_1)], hp := [], nx := 0 }
theorem z42Rok (x_1 : Bool) : retK Tryz.prog [.tmp 2] (OutOk (fact_Valid_out x_1)) .ret (z42R x_1) :=
  retK.intro (v := (bl x_1)) (by kernel_rfl) ((VLe.rfl' _))
def z42p0S : St := { tm := [], hp := [], nx := 0 }
noncomputable def fact_Valid_p0 : Option (Bool) := (some true)
theorem z42p0ok (K : KT) (h : W (fact_Valid_p0) (rE z42R K)) : EvL Tryz.prog 116 (List.drop 6 z42i0) K (z42p0S) :=
  EvL.pE mixed (lookC_ok (l := []) trivial) [2] 6 2 (.nf (X := fun K => wK K .ret (z42R true)) (fun K => by kernel_rfl) (⟨_, .refl _, h⟩))
def z42p1S (f : GFact) : St := { tm := [sv 1 (.ptr 0 14 0 0), sv 89 (i64 f.Kind)], hp := [(0, some (.box [(i64 f.Issuer), (i64 f.Number), (i64 f.Version), (bl f.Withdrawn), (i64 f.Person), (i64 f.Kind), (i64 f.State), (i64 f.Span.From), (i64 f.Span.To), (i64 f.Seat), (i64 f.Share), (i64 f.Currency), (i64 f.Amount), (i64 f.Ref)]))], nx := 1 }
noncomputable def fact_Valid_p1 (f : GFact) : Option (Bool) := (bif (f.Kind == (4 : Int)) then (some (f.State != f.Seat)) else (bif (f.Kind == (11 : Int)) then (bif (f.Kind == (11 : Int)) then (some (f.Span.To == (w64 (f.Span.From + (1 : Int))))) else (bif (f.Kind == (10 : Int)) then (bif (f.Kind == (10 : Int)) then (some (f.Ref != f.Person)) else fact_Valid_p0) else (bif (f.Kind == (14 : Int)) then (some (f.Ref != f.Person)) else fact_Valid_p0))) else (bif (f.Kind == (12 : Int)) then (some (f.Span.To == (w64 (f.Span.From + (1 : Int))))) else (bif (f.Kind == (10 : Int)) then (bif (f.Kind == (10 : Int)) then (some (f.Ref != f.Person)) else fact_Valid_p0) else (bif (f.Kind == (14 : Int)) then (some (f.Ref != f.Person)) else fact_Valid_p0)))))
theorem z42p1ok (f : GFact) (K : KT) (h : W (fact_Valid_p1 f) (rE z42R K)) : EvL Tryz.prog 116 (List.drop 5 z42i0) K (z42p1S f) :=
  EvL.pD mixed (lookC_ok (l := []) trivial) [2] 5 1 6 (.nf (X := fun K => (bif (f.Kind == (4 : Int)) then wK K .ret (z42R (f.State != f.Seat)) else (bif (f.Kind == (11 : Int)) then (bif (f.Kind == (11 : Int)) then wK K .ret (z42R (f.Span.To == (w64 (f.Span.From + (1 : Int))))) else (bif (f.Kind == (10 : Int)) then (bif (f.Kind == (10 : Int)) then wK K .ret (z42R (f.Ref != f.Person)) else wK K .normal (z42p0S)) else (bif (f.Kind == (14 : Int)) then wK K .ret (z42R (f.Ref != f.Person)) else wK K .normal (z42p0S)))) else (bif (f.Kind == (12 : Int)) then wK K .ret (z42R (f.Span.To == (w64 (f.Span.From + (1 : Int))))) else (bif (f.Kind == (10 : Int)) then (bif (f.Kind == (10 : Int)) then wK K .ret (z42R (f.Ref != f.Person)) else wK K .normal (z42p0S)) else (bif (f.Kind == (14 : Int)) then wK K .ret (z42R (f.Ref != f.Person)) else wK K .normal (z42p0S))))))) (fun K => by kernel_rfl) (W_bif h (fun _ h => ⟨_, .refl _, h⟩) (fun _ h => (W_bif h (fun _ h => (W_bif h (fun _ h => ⟨_, .refl _, h⟩) (fun _ h => (W_bif h (fun _ h => (W_bif h (fun _ h => ⟨_, .refl _, h⟩) (fun _ h => ⟨_, .refl _, (z42p0ok _ h)⟩))) (fun _ h => (W_bif h (fun _ h => ⟨_, .refl _, h⟩) (fun _ h => ⟨_, .refl _, (z42p0ok _ h)⟩))))))) (fun _ h => (W_bif h (fun _ h => ⟨_, .refl _, h⟩) (fun _ h => (W_bif h (fun _ h => (W_bif h (fun _ h => ⟨_, .refl _, h⟩) (fun _ h => ⟨_, .refl _, (z42p0ok _ h)⟩))) (fun _ h => (W_bif h (fun _ h => ⟨_, .refl _, h⟩) (fun _ h => ⟨_, .refl _, (z42p0ok _ h)⟩)))))))))))
def z42p2S (f : GFact) (uses : ByteArray) : St := { tm := [sv 1 (.ptr 0 14 0 0), sv 3 (.ptr 1 1 0 0), sv 4 (.fn 59 [(.ptr 1 1 0 0)])], hp := [(0, some (.box [(i64 f.Issuer), (i64 f.Number), (i64 f.Version), (bl f.Withdrawn), (i64 f.Person), (i64 f.Kind), (i64 f.State), (i64 f.Span.From), (i64 f.Span.To), (i64 f.Seat), (i64 f.Share), (i64 f.Currency), (i64 f.Amount), (i64 f.Ref)])), (1, some (.box [(str uses)]))], nx := 2 }
noncomputable def fact_Valid_p2 (f : GFact) (uses : ByteArray) : Option (Bool) := gd (((!(uses.toList == (bstr []).toList)) && true) = true → (fact_within f.Issuer (0 : Int) (5 : Int)).isSome = true) (gd (((!(bif (uses.toList == (bstr []).toList) then true else (!((fact_within f.Issuer (0 : Int) (5 : Int)).getD false)))) && true) = true → (fact_within f.Number (1 : Int) (999 : Int)).isSome = true) (gd (((!(bif (bif (uses.toList == (bstr []).toList) then true else (!((fact_within f.Issuer (0 : Int) (5 : Int)).getD false))) then true else (!((fact_within f.Number (1 : Int) (999 : Int)).getD false)))) && true) = true → (fact_within f.Version (1 : Int) (99 : Int)).isSome = true) (gd (((!(bif (bif (bif (uses.toList == (bstr []).toList) then true else (!((fact_within f.Issuer (0 : Int) (5 : Int)).getD false))) then true else (!((fact_within f.Number (1 : Int) (999 : Int)).getD false))) then true else (!((fact_within f.Version (1 : Int) (99 : Int)).getD false)))) && true) = true → (fact_within f.Person (1 : Int) (99 : Int)).isSome = true) ((bif (bif (bif (bif (bif (uses.toList == (bstr []).toList) then true else (!((fact_within f.Issuer (0 : Int) (5 : Int)).getD false))) then true else (!((fact_within f.Number (1 : Int) (999 : Int)).getD false))) then true else (!((fact_within f.Version (1 : Int) (99 : Int)).getD false))) then true else (!((fact_within f.Person (1 : Int) (99 : Int)).getD false))) then (some false) else (fact_Valid_1 (bstr [83]) uses).bind fun r_2 => ((fact_field r_2 f.State (0 : Int) (5 : Int)).bind fun r_3 => (gd (((!(!r_3)) && true) = true → (fact_Valid_1 (bstr [84]) uses).isSome = true) (gd (((!(!r_3)) && true) = true → (fact_field ((fact_Valid_1 (bstr [84]) uses).getD false) f.Seat (0 : Int) (5 : Int)).isSome = true) (gd (((!(bif (!r_3) then true else (!((fact_field ((fact_Valid_1 (bstr [84]) uses).getD false) f.Seat (0 : Int) (5 : Int)).getD false)))) && true) = true → (fact_validSpan f.Span).isSome = true) ((bif (bif (bif (!r_3) then true else (!((fact_field ((fact_Valid_1 (bstr [84]) uses).getD false) f.Seat (0 : Int) (5 : Int)).getD false))) then true else (!((fact_validSpan f.Span).getD false))) then (some false) else (fact_Valid_1 (bstr [72]) uses).bind fun r_4 => ((fact_field r_4 f.Share (1 : Int) (100 : Int)).bind fun r_5 => (gd (((!(!r_5)) && true) = true → (fact_Valid_1 (bstr [67]) uses).isSome = true) (gd (((!(!r_5)) && true) = true → (fact_field ((fact_Valid_1 (bstr [67]) uses).getD false) f.Currency (1 : Int) (999 : Int)).isSome = true) (gd (((!(bif (!r_5) then true else (!((fact_field ((fact_Valid_1 (bstr [67]) uses).getD false) f.Currency (1 : Int) (999 : Int)).getD false)))) && true) = true → (fact_Valid_1 (bstr [65]) uses).isSome = true) (gd (((!(bif (!r_5) then true else (!((fact_field ((fact_Valid_1 (bstr [67]) uses).getD false) f.Currency (1 : Int) (999 : Int)).getD false)))) && true) = true → (fact_field ((fact_Valid_1 (bstr [65]) uses).getD false) f.Amount (0 : Int) (1000000000 : Int)).isSome = true) (gd (((!(bif (bif (!r_5) then true else (!((fact_field ((fact_Valid_1 (bstr [67]) uses).getD false) f.Currency (1 : Int) (999 : Int)).getD false))) then true else (!((fact_field ((fact_Valid_1 (bstr [65]) uses).getD false) f.Amount (0 : Int) (1000000000 : Int)).getD false)))) && true) = true → (fact_Valid_1 (bstr [82]) uses).isSome = true) (gd (((!(bif (bif (!r_5) then true else (!((fact_field ((fact_Valid_1 (bstr [67]) uses).getD false) f.Currency (1 : Int) (999 : Int)).getD false))) then true else (!((fact_field ((fact_Valid_1 (bstr [65]) uses).getD false) f.Amount (0 : Int) (1000000000 : Int)).getD false)))) && true) = true → (fact_field ((fact_Valid_1 (bstr [82]) uses).getD false) f.Ref (1 : Int) (99 : Int)).isSome = true) ((bif (bif (bif (bif (!r_5) then true else (!((fact_field ((fact_Valid_1 (bstr [67]) uses).getD false) f.Currency (1 : Int) (999 : Int)).getD false))) then true else (!((fact_field ((fact_Valid_1 (bstr [65]) uses).getD false) f.Amount (0 : Int) (1000000000 : Int)).getD false))) then true else (!((fact_field ((fact_Valid_1 (bstr [82]) uses).getD false) f.Ref (1 : Int) (99 : Int)).getD false))) then (some false) else (fact_Valid_p1 f)))))))))))))))))))))
theorem z42p2ok (f : GFact) (uses : ByteArray) (K : KT) (h : W (fact_Valid_p2 f uses) (rE z42R K)) : EvL Tryz.prog 116 (List.drop 3 z42i0) K (z42p2S f uses) :=
  EvL.pD mixed (lookC_ok (l := [(59, .pure fact_Valid_1_C), (61, .pure fact_within_C), (62, .pure fact_field_C), (63, .pure fact_validSpan_C)]) ⟨fact_Valid_1_ok, fact_within_ok, fact_field_ok, fact_validSpan_ok, trivial⟩) [1, 2, 89] 3 2 5 (.nf (X := fun K => (((!(uses.toList == (bstr []).toList)) && true) = true → (fact_within f.Issuer (0 : Int) (5 : Int)).isSome = true) ∧ (((!(bif (uses.toList == (bstr []).toList) then true else (!((fact_within f.Issuer (0 : Int) (5 : Int)).getD false)))) && true) = true → (fact_within f.Number (1 : Int) (999 : Int)).isSome = true) ∧ (((!(bif (bif (uses.toList == (bstr []).toList) then true else (!((fact_within f.Issuer (0 : Int) (5 : Int)).getD false))) then true else (!((fact_within f.Number (1 : Int) (999 : Int)).getD false)))) && true) = true → (fact_within f.Version (1 : Int) (99 : Int)).isSome = true) ∧ (((!(bif (bif (bif (uses.toList == (bstr []).toList) then true else (!((fact_within f.Issuer (0 : Int) (5 : Int)).getD false))) then true else (!((fact_within f.Number (1 : Int) (999 : Int)).getD false))) then true else (!((fact_within f.Version (1 : Int) (99 : Int)).getD false)))) && true) = true → (fact_within f.Person (1 : Int) (99 : Int)).isSome = true) ∧ ((bif (bif (bif (bif (bif (uses.toList == (bstr []).toList) then true else (!((fact_within f.Issuer (0 : Int) (5 : Int)).getD false))) then true else (!((fact_within f.Number (1 : Int) (999 : Int)).getD false))) then true else (!((fact_within f.Version (1 : Int) (99 : Int)).getD false))) then true else (!((fact_within f.Person (1 : Int) (99 : Int)).getD false))) then wK K .ret ({ tm := [sv 1 (.ptr 0 14 0 0), sv 2 (bl false)], hp := [(0, some (.box [(i64 f.Issuer), (i64 f.Number), (i64 f.Version), (bl f.Withdrawn), (i64 f.Person), (i64 f.Kind), (i64 f.State), (i64 f.Span.From), (i64 f.Span.To), (i64 f.Seat), (i64 f.Share), (i64 f.Currency), (i64 f.Amount), (i64 f.Ref)]))], nx := 1 }) else ((fact_Valid_1 (bstr [83]) uses).isSome = true) ∧ ((fact_field ((fact_Valid_1 (bstr [83]) uses).getD false) f.State (0 : Int) (5 : Int)).isSome = true) ∧ (((!(!((fact_field ((fact_Valid_1 (bstr [83]) uses).getD false) f.State (0 : Int) (5 : Int)).getD false))) && true) = true → (fact_Valid_1 (bstr [84]) uses).isSome = true) ∧ (((!(!((fact_field ((fact_Valid_1 (bstr [83]) uses).getD false) f.State (0 : Int) (5 : Int)).getD false))) && true) = true → (fact_field ((fact_Valid_1 (bstr [84]) uses).getD false) f.Seat (0 : Int) (5 : Int)).isSome = true) ∧ (((!(bif (!((fact_field ((fact_Valid_1 (bstr [83]) uses).getD false) f.State (0 : Int) (5 : Int)).getD false)) then true else (!((fact_field ((fact_Valid_1 (bstr [84]) uses).getD false) f.Seat (0 : Int) (5 : Int)).getD false)))) && true) = true → (fact_validSpan f.Span).isSome = true) ∧ ((bif (bif (bif (!((fact_field ((fact_Valid_1 (bstr [83]) uses).getD false) f.State (0 : Int) (5 : Int)).getD false)) then true else (!((fact_field ((fact_Valid_1 (bstr [84]) uses).getD false) f.Seat (0 : Int) (5 : Int)).getD false))) then true else (!((fact_validSpan f.Span).getD false))) then wK K .ret ({ tm := [sv 1 (.ptr 0 14 0 0), sv 2 (bl false)], hp := [(0, some (.box [(i64 f.Issuer), (i64 f.Number), (i64 f.Version), (bl f.Withdrawn), (i64 f.Person), (i64 f.Kind), (i64 f.State), (i64 f.Span.From), (i64 f.Span.To), (i64 f.Seat), (i64 f.Share), (i64 f.Currency), (i64 f.Amount), (i64 f.Ref)]))], nx := 1 }) else ((fact_Valid_1 (bstr [72]) uses).isSome = true) ∧ ((fact_field ((fact_Valid_1 (bstr [72]) uses).getD false) f.Share (1 : Int) (100 : Int)).isSome = true) ∧ (((!(!((fact_field ((fact_Valid_1 (bstr [72]) uses).getD false) f.Share (1 : Int) (100 : Int)).getD false))) && true) = true → (fact_Valid_1 (bstr [67]) uses).isSome = true) ∧ (((!(!((fact_field ((fact_Valid_1 (bstr [72]) uses).getD false) f.Share (1 : Int) (100 : Int)).getD false))) && true) = true → (fact_field ((fact_Valid_1 (bstr [67]) uses).getD false) f.Currency (1 : Int) (999 : Int)).isSome = true) ∧ (((!(bif (!((fact_field ((fact_Valid_1 (bstr [72]) uses).getD false) f.Share (1 : Int) (100 : Int)).getD false)) then true else (!((fact_field ((fact_Valid_1 (bstr [67]) uses).getD false) f.Currency (1 : Int) (999 : Int)).getD false)))) && true) = true → (fact_Valid_1 (bstr [65]) uses).isSome = true) ∧ (((!(bif (!((fact_field ((fact_Valid_1 (bstr [72]) uses).getD false) f.Share (1 : Int) (100 : Int)).getD false)) then true else (!((fact_field ((fact_Valid_1 (bstr [67]) uses).getD false) f.Currency (1 : Int) (999 : Int)).getD false)))) && true) = true → (fact_field ((fact_Valid_1 (bstr [65]) uses).getD false) f.Amount (0 : Int) (1000000000 : Int)).isSome = true) ∧ (((!(bif (bif (!((fact_field ((fact_Valid_1 (bstr [72]) uses).getD false) f.Share (1 : Int) (100 : Int)).getD false)) then true else (!((fact_field ((fact_Valid_1 (bstr [67]) uses).getD false) f.Currency (1 : Int) (999 : Int)).getD false))) then true else (!((fact_field ((fact_Valid_1 (bstr [65]) uses).getD false) f.Amount (0 : Int) (1000000000 : Int)).getD false)))) && true) = true → (fact_Valid_1 (bstr [82]) uses).isSome = true) ∧ (((!(bif (bif (!((fact_field ((fact_Valid_1 (bstr [72]) uses).getD false) f.Share (1 : Int) (100 : Int)).getD false)) then true else (!((fact_field ((fact_Valid_1 (bstr [67]) uses).getD false) f.Currency (1 : Int) (999 : Int)).getD false))) then true else (!((fact_field ((fact_Valid_1 (bstr [65]) uses).getD false) f.Amount (0 : Int) (1000000000 : Int)).getD false)))) && true) = true → (fact_field ((fact_Valid_1 (bstr [82]) uses).getD false) f.Ref (1 : Int) (99 : Int)).isSome = true) ∧ ((bif (bif (bif (bif (!((fact_field ((fact_Valid_1 (bstr [72]) uses).getD false) f.Share (1 : Int) (100 : Int)).getD false)) then true else (!((fact_field ((fact_Valid_1 (bstr [67]) uses).getD false) f.Currency (1 : Int) (999 : Int)).getD false))) then true else (!((fact_field ((fact_Valid_1 (bstr [65]) uses).getD false) f.Amount (0 : Int) (1000000000 : Int)).getD false))) then true else (!((fact_field ((fact_Valid_1 (bstr [82]) uses).getD false) f.Ref (1 : Int) (99 : Int)).getD false))) then wK K .ret ({ tm := [sv 1 (.ptr 0 14 0 0), sv 2 (bl false)], hp := [(0, some (.box [(i64 f.Issuer), (i64 f.Number), (i64 f.Version), (bl f.Withdrawn), (i64 f.Person), (i64 f.Kind), (i64 f.State), (i64 f.Span.From), (i64 f.Span.To), (i64 f.Seat), (i64 f.Share), (i64 f.Currency), (i64 f.Amount), (i64 f.Ref)]))], nx := 1 }) else wK K .normal (z42p1S f)))))))) (fun K => by kernel_rfl) (W_gd h fun hp0 h => (W_gd h fun hp1 h => (W_gd h fun hp2 h => (W_gd h fun hp3 h => (W_bif h (fun _ h => ⟨(z42R false), (.cn [2]), h⟩) (fun _ h => (W_bind false h fun hp4 h => (W_bind false h fun hp5 h => (W_gd h fun hp6 h => (W_gd h fun hp7 h => (W_gd h fun hp8 h => (W_bif h (fun _ h => ⟨(z42R false), (.cn [2]), h⟩) (fun _ h => (W_bind false h fun hp9 h => (W_bind false h fun hp10 h => (W_gd h fun hp11 h => (W_gd h fun hp12 h => (W_gd h fun hp13 h => (W_gd h fun hp14 h => (W_gd h fun hp15 h => (W_gd h fun hp16 h => (W_bif h (fun _ h => ⟨(z42R false), (.cn [2]), h⟩) (fun _ h => ⟨_, .refl _, (z42p1ok f _ h)⟩))))))))))))))))))))))))
def z42p3S (f : GFact) : St := { tm := [sv 0 (.ag (eGFact f))], hp := [], nx := 0 }
noncomputable def fact_Valid_p3 (f : GFact) : Option (Bool) := (fact_Uses f.Kind).bind fun r_1 => ((fact_Valid_p2 f r_1))
theorem z42p3ok (f : GFact) (K : KT) (h : W (fact_Valid_p3 f) (rE z42R K)) : EvL Tryz.prog 116 (List.drop 0 z42i0) K (z42p3S f) :=
  EvL.pD mixed (lookC_ok (l := [(58, .pure fact_Uses_C)]) ⟨fact_Uses_ok, trivial⟩) [1, 3, 4, 13, 14, 15, 16, 19, 20, 21, 22, 25, 26, 27, 28, 31, 32, 33, 34, 44, 45, 46, 47, 48, 49, 52, 53, 54, 55, 65, 66, 67, 68, 69, 70, 73, 74, 75, 76, 77, 78, 81, 82, 83, 84, 85, 86] 0 3 3 (.nf (X := fun K => ((fact_Uses f.Kind).isSome = true) ∧ (wK K .normal (z42p2S f ((fact_Uses f.Kind).getD (bstr []))))) (fun K => by kernel_rfl) (W_bind (bstr []) h fun hp0 h => ⟨_, .refl _, (z42p2ok f ((fact_Uses f.Kind).getD (bstr [])) _ h)⟩))
noncomputable def fact_Valid (f : GFact) : Option (Bool) := fact_Valid_p3 f
theorem z42run (f : GFact) (y_ : Bool) (h : fact_Valid f = some y_) : EvL Tryz.prog 116 (items (bodyOf Tryz.f42)) (retK Tryz.prog [.tmp 2] (OutOk (fact_Valid_out y_))) (z42p3S f) :=
  z42p3ok f _ (W_iff.2 ⟨y_, h, z42Rok y_⟩)
noncomputable def fact_Valid_C : Con
  | [(.agg [(.c (.lit (.int .i64 a1))), (.c (.lit (.int .i64 a2))), (.c (.lit (.int .i64 a3))), (.c (.lit (.bool a4))), (.c (.lit (.int .i64 a5))), (.c (.lit (.int .i64 a6))), (.c (.lit (.int .i64 a7))), (.c (.lit (.int .i64 a8))), (.c (.lit (.int .i64 a9))), (.c (.lit (.int .i64 a10))), (.c (.lit (.int .i64 a11))), (.c (.lit (.int .i64 a12))), (.c (.lit (.int .i64 a13))), (.c (.lit (.int .i64 a14)))])] => some ([(fact_Valid (GFact.mk a1 a2 a3 a4 a5 a6 a7 (GSpan.mk a8 a9) a10 a11 a12 a13 a14)).isSome = true], (fact_Valid_out ((fact_Valid (GFact.mk a1 a2 a3 a4 a5 a6 a7 (GSpan.mk a8 a9) a10 a11 a12 a13 a14)).getD false)))
  | _ => none
theorem fact_Valid_ok : Meets Tryz.prog 42 fact_Valid_C := by
  refine meets_fun (fn := Tryz.f42) (c := bodyOf Tryz.f42) (by kernel_rfl) (by kernel_rfl) (by kernel_rfl) (rs := [.tmp 2]) (by kernel_rfl) (nt := 116) (by kernel_rfl) fun vs p out h hp => ?_
  unfold fact_Valid_C at h
  split at h
  · next a1 a2 a3 a4 a5 a6 a7 a8 a9 a10 a11 a12 a13 a14 =>
    cases h
    obtain ⟨g, hp⟩ := allq hp
    obtain ⟨x, hx⟩ := Option.isSome_iff_exists.1 g
    rw [hx]
    exact ⟨[(.agg [(i64 (GFact.mk a1 a2 a3 a4 a5 a6 a7 (GSpan.mk a8 a9) a10 a11 a12 a13 a14).Issuer), (i64 (GFact.mk a1 a2 a3 a4 a5 a6 a7 (GSpan.mk a8 a9) a10 a11 a12 a13 a14).Number), (i64 (GFact.mk a1 a2 a3 a4 a5 a6 a7 (GSpan.mk a8 a9) a10 a11 a12 a13 a14).Version), (bl (GFact.mk a1 a2 a3 a4 a5 a6 a7 (GSpan.mk a8 a9) a10 a11 a12 a13 a14).Withdrawn), (i64 (GFact.mk a1 a2 a3 a4 a5 a6 a7 (GSpan.mk a8 a9) a10 a11 a12 a13 a14).Person), (i64 (GFact.mk a1 a2 a3 a4 a5 a6 a7 (GSpan.mk a8 a9) a10 a11 a12 a13 a14).Kind), (i64 (GFact.mk a1 a2 a3 a4 a5 a6 a7 (GSpan.mk a8 a9) a10 a11 a12 a13 a14).State), (i64 ((GFact.mk a1 a2 a3 a4 a5 a6 a7 (GSpan.mk a8 a9) a10 a11 a12 a13 a14).Span).From), (i64 ((GFact.mk a1 a2 a3 a4 a5 a6 a7 (GSpan.mk a8 a9) a10 a11 a12 a13 a14).Span).To), (i64 (GFact.mk a1 a2 a3 a4 a5 a6 a7 (GSpan.mk a8 a9) a10 a11 a12 a13 a14).Seat), (i64 (GFact.mk a1 a2 a3 a4 a5 a6 a7 (GSpan.mk a8 a9) a10 a11 a12 a13 a14).Share), (i64 (GFact.mk a1 a2 a3 a4 a5 a6 a7 (GSpan.mk a8 a9) a10 a11 a12 a13 a14).Currency), (i64 (GFact.mk a1 a2 a3 a4 a5 a6 a7 (GSpan.mk a8 a9) a10 a11 a12 a13 a14).Amount), (i64 (GFact.mk a1 a2 a3 a4 a5 a6 a7 (GSpan.mk a8 a9) a10 a11 a12 a13 a14).Ref)])], (VLes.cons (VLe.rfl' _) VLes.nil), rfl, z42run (GFact.mk a1 a2 a3 a4 a5 a6 a7 (GSpan.mk a8 a9) a10 a11 a12 a13 a14) x hx⟩
  · cases h

noncomputable def z22i0 : List Code := items (bodyOf Tryz.f22)
def career_current_out (x_1 : Bool) : Out := .data (bl x_1)
def z22R (x_1 : Bool) : St := { tm := [sv 2 (bl x_1)], hp := [], nx := 0 }
theorem z22Rok (x_1 : Bool) : retK Tryz.prog [.tmp 2] (OutOk (career_current_out x_1)) .ret (z22R x_1) :=
  retK.intro (v := (bl x_1)) (by kernel_rfl) ((VLe.rfl' _))
def z22p0S (f : GFact) : St := { tm := [sv 0 (.ag (eGFact f))], hp := [], nx := 0 }
noncomputable def career_current_p0 (f : GFact) : Option (Bool) := (fact_Valid f).bind fun r_1 => ((some (bif r_1 then (!f.Withdrawn) else false)))
theorem z22p0ok (f : GFact) (K : KT) (h : W (career_current_p0 f) (rE z22R K)) : EvL Tryz.prog 10 (List.drop 0 z22i0) K (z22p0S f) :=
  EvL.pE mixed (lookC_ok (l := [(42, .pure fact_Valid_C)]) ⟨fact_Valid_ok, trivial⟩) [2] 0 3 (.nf (X := fun K => ((fact_Valid f).isSome = true) ∧ (wK K .ret (z22R (bif ((fact_Valid f).getD false) then (!f.Withdrawn) else false)))) (fun K => by kernel_rfl) (W_bind false h fun hp0 h => ⟨_, .refl _, h⟩))
noncomputable def career_current (f : GFact) : Option (Bool) := career_current_p0 f
theorem z22run (f : GFact) (y_ : Bool) (h : career_current f = some y_) : EvL Tryz.prog 10 (items (bodyOf Tryz.f22)) (retK Tryz.prog [.tmp 2] (OutOk (career_current_out y_))) (z22p0S f) :=
  z22p0ok f _ (W_iff.2 ⟨y_, h, z22Rok y_⟩)
noncomputable def career_current_C : Con
  | [(.agg [(.c (.lit (.int .i64 a1))), (.c (.lit (.int .i64 a2))), (.c (.lit (.int .i64 a3))), (.c (.lit (.bool a4))), (.c (.lit (.int .i64 a5))), (.c (.lit (.int .i64 a6))), (.c (.lit (.int .i64 a7))), (.c (.lit (.int .i64 a8))), (.c (.lit (.int .i64 a9))), (.c (.lit (.int .i64 a10))), (.c (.lit (.int .i64 a11))), (.c (.lit (.int .i64 a12))), (.c (.lit (.int .i64 a13))), (.c (.lit (.int .i64 a14)))])] => some ([(career_current (GFact.mk a1 a2 a3 a4 a5 a6 a7 (GSpan.mk a8 a9) a10 a11 a12 a13 a14)).isSome = true], (career_current_out ((career_current (GFact.mk a1 a2 a3 a4 a5 a6 a7 (GSpan.mk a8 a9) a10 a11 a12 a13 a14)).getD false)))
  | _ => none
theorem career_current_ok : Meets Tryz.prog 22 career_current_C := by
  refine meets_fun (fn := Tryz.f22) (c := bodyOf Tryz.f22) (by kernel_rfl) (by kernel_rfl) (by kernel_rfl) (rs := [.tmp 2]) (by kernel_rfl) (nt := 10) (by kernel_rfl) fun vs p out h hp => ?_
  unfold career_current_C at h
  split at h
  · next a1 a2 a3 a4 a5 a6 a7 a8 a9 a10 a11 a12 a13 a14 =>
    cases h
    obtain ⟨g, hp⟩ := allq hp
    obtain ⟨x, hx⟩ := Option.isSome_iff_exists.1 g
    rw [hx]
    exact ⟨[(.agg [(i64 (GFact.mk a1 a2 a3 a4 a5 a6 a7 (GSpan.mk a8 a9) a10 a11 a12 a13 a14).Issuer), (i64 (GFact.mk a1 a2 a3 a4 a5 a6 a7 (GSpan.mk a8 a9) a10 a11 a12 a13 a14).Number), (i64 (GFact.mk a1 a2 a3 a4 a5 a6 a7 (GSpan.mk a8 a9) a10 a11 a12 a13 a14).Version), (bl (GFact.mk a1 a2 a3 a4 a5 a6 a7 (GSpan.mk a8 a9) a10 a11 a12 a13 a14).Withdrawn), (i64 (GFact.mk a1 a2 a3 a4 a5 a6 a7 (GSpan.mk a8 a9) a10 a11 a12 a13 a14).Person), (i64 (GFact.mk a1 a2 a3 a4 a5 a6 a7 (GSpan.mk a8 a9) a10 a11 a12 a13 a14).Kind), (i64 (GFact.mk a1 a2 a3 a4 a5 a6 a7 (GSpan.mk a8 a9) a10 a11 a12 a13 a14).State), (i64 ((GFact.mk a1 a2 a3 a4 a5 a6 a7 (GSpan.mk a8 a9) a10 a11 a12 a13 a14).Span).From), (i64 ((GFact.mk a1 a2 a3 a4 a5 a6 a7 (GSpan.mk a8 a9) a10 a11 a12 a13 a14).Span).To), (i64 (GFact.mk a1 a2 a3 a4 a5 a6 a7 (GSpan.mk a8 a9) a10 a11 a12 a13 a14).Seat), (i64 (GFact.mk a1 a2 a3 a4 a5 a6 a7 (GSpan.mk a8 a9) a10 a11 a12 a13 a14).Share), (i64 (GFact.mk a1 a2 a3 a4 a5 a6 a7 (GSpan.mk a8 a9) a10 a11 a12 a13 a14).Currency), (i64 (GFact.mk a1 a2 a3 a4 a5 a6 a7 (GSpan.mk a8 a9) a10 a11 a12 a13 a14).Amount), (i64 (GFact.mk a1 a2 a3 a4 a5 a6 a7 (GSpan.mk a8 a9) a10 a11 a12 a13 a14).Ref)])], (VLes.cons (VLe.rfl' _) VLes.nil), rfl, z22run (GFact.mk a1 a2 a3 a4 a5 a6 a7 (GSpan.mk a8 a9) a10 a11 a12 a13 a14) x hx⟩
  · cases h

noncomputable def z53i0 : List Code := items (bodyOf Tryz.f53)
noncomputable def z53i1 : List Code := items (inside (inside (nthI z53i0 3)))
def career_first_out (x_1 : (Int × Bool)) : Out := .data (.tup [(i64 x_1.1), (bl x_1.2)])
def z53R (x_1 : (Int × Bool)) : St := { tm := [sv 4 (i64 x_1.1), sv 5 (bl x_1.2)], hp := [], nx := 0 }
theorem z53Rok (x_1 : (Int × Bool)) : retK Tryz.prog [.tmp 4, .tmp 5] (OutOk (career_first_out x_1)) .ret (z53R x_1) :=
  retK.intro (v := (.tup [(i64 x_1.1), (bl x_1.2)])) (by kernel_rfl) (VLe.tup (VLes.cons (VLe.rfl' _) (VLes.cons (VLe.rfl' _) (VLes.nil))))
def z53l1S (kind : Int) (l : (List GFact)) (s : (Int × Bool × Int)) : St := match s with | (day, ok, t12) => { tm := [sv 1 (i64 kind), sv 6 (i64 day), sv 7 (bl ok), sv 10 (.c (.sl 14 l.length (lsEl eGFact zGFact l))), sv 11 (i64 ((l.length : Nat) : Int)), sv 12 (i64 t12)], hp := [], nx := 0 }
def z53l1C0 (kind : Int) (l : (List GFact)) (s : Int × Bool) : St := match s with | (day_1, ok_1) => { tm := [sv 6 (i64 day_1), sv 7 (bl ok_1)], hp := [], nx := 0 }
def z53l1E (kind : Int) (l : (List GFact)) (r : ((Int × Bool))) (K : KT) : Prop := match r with | s => K (.exit 0) (z53l1C0 kind l s)
def z53p0S (kind day : Int) (ok : Bool) (l : (List GFact)) (t12 : Int) : St := { tm := [sv 1 (i64 kind), sv 6 (i64 day), sv 7 (bl ok), sv 10 (.c (.sl 14 l.length (lsEl eGFact zGFact l))), sv 11 (i64 ((l.length : Nat) : Int)), sv 12 (i64 t12)], hp := [], nx := 0 }
noncomputable def career_first_p0 (kind day : Int) (ok : Bool) (l : (List GFact)) (t12 : Int) : Option ((Int × Bool × Int) ⊕ ((Int × Bool))) := (bif (decide (t12 < ((l.length : Nat) : Int))) then gd ((0 : Int) ≤ t12 ∧ t12 < ((l.length : Nat) : Int)) ((career_current (l.getD (Int.toNat t12) zGFact)).bind fun r_1 => ((bif (bif (bif r_1 then ((l.getD (Int.toNat t12) zGFact).Kind == kind) else false) then (bif (!ok) then true else (decide (((l.getD (Int.toNat t12) zGFact).Span).From < day))) else false) then (some (Sum.inl (((l.getD (Int.toNat t12) zGFact).Span).From, true, (w64 (t12 + (1 : Int)))))) else (some (Sum.inl (day, ok, (w64 (t12 + (1 : Int))))))))) else (some (Sum.inr (day, ok))))
theorem z53p0ok (kind day : Int) (ok : Bool) (l : (List GFact)) (t12 : Int) (K : KT) (h : W (career_first_p0 kind day ok l t12) (nE (z53l1S kind l) (z53l1E kind l) K)) : EvL Tryz.prog 41 (List.drop 0 z53i1) K (z53p0S kind day ok l t12) :=
  EvL.pE mixed (lookC_ok (l := [(22, .pure career_current_C)]) ⟨career_current_ok, trivial⟩) [1, 6, 7, 10, 11, 12, 19, 20, 21, 22, 25, 26, 27, 28, 29, 30, 31, 32, 33] 0 4 (.nf (X := fun K => (bif (decide (t12 < ((l.length : Nat) : Int))) then ((0 : Int) ≤ t12) ∧ (t12 < ((l.length : Nat) : Int)) ∧ (((career_current (l.getD (Int.toNat t12) zGFact)).isSome = true) ∧ ((bif (bif (bif ((career_current (l.getD (Int.toNat t12) zGFact)).getD false) then ((l.getD (Int.toNat t12) zGFact).Kind == kind) else false) then (bif (!ok) then true else (decide (((l.getD (Int.toNat t12) zGFact).Span).From < day))) else false) then wK K .normal ({ tm := [sv 1 (i64 kind), sv 6 (i64 ((l.getD (Int.toNat t12) zGFact).Span).From), sv 7 (bl true), sv 10 (.c (.sl 14 l.length (lsEl eGFact zGFact l))), sv 11 (i64 ((l.length : Nat) : Int)), sv 12 (i64 (w64 (t12 + (1 : Int)))), sv 19 (.c .unk), sv 20 (.c .unk), sv 21 (.c .unk), sv 22 (.c .unk), sv 25 (.c .unk), sv 26 (.c .unk), sv 27 (.c .unk), sv 28 (.c .unk), sv 29 (.c .unk), sv 30 (.c .unk), sv 31 (.c .unk), sv 32 (.c .unk), sv 33 (.c .unk)], hp := [], nx := 0 }) else wK K .normal ({ tm := [sv 1 (i64 kind), sv 6 (i64 day), sv 7 (bl ok), sv 10 (.c (.sl 14 l.length (lsEl eGFact zGFact l))), sv 11 (i64 ((l.length : Nat) : Int)), sv 12 (i64 (w64 (t12 + (1 : Int)))), sv 19 (.c .unk), sv 20 (.c .unk), sv 21 (.c .unk), sv 22 (.c .unk), sv 25 (.c .unk), sv 26 (.c .unk), sv 27 (.c .unk), sv 28 (.c .unk), sv 29 (.c .unk), sv 30 (.c .unk), sv 31 (.c .unk), sv 32 (.c .unk), sv 33 (.c .unk)], hp := [], nx := 0 })))) else wK K (.exit 0) ({ tm := [sv 1 (i64 kind), sv 6 (i64 day), sv 7 (bl ok), sv 10 (.c (.sl 14 l.length (lsEl eGFact zGFact l))), sv 11 (i64 ((l.length : Nat) : Int)), sv 12 (i64 t12)], hp := [], nx := 0 }))) (fun K => by kernel_rfl) (W_bif h (fun _ h => (W_gd2 h fun hp0 h => (W_bind false h fun hp1 h => (W_bif h (fun _ h => ⟨(z53l1S kind l (((l.getD (Int.toNat t12) zGFact).Span).From, true, (w64 (t12 + (1 : Int))))), (.of (.q rfl (.q rfl (.q rfl (.q rfl (.q rfl (.q rfl .nil)))))) .nil rfl), h⟩) (fun _ h => ⟨(z53l1S kind l (day, ok, (w64 (t12 + (1 : Int))))), (.of (.q rfl (.q rfl (.q rfl (.q rfl (.q rfl (.q rfl .nil)))))) .nil rfl), h⟩))))) (fun _ h => ⟨(z53l1C0 kind l (day, ok)), (.of (.q rfl (.q rfl .nil)) .nil rfl), h⟩)))
noncomputable def career_first_l1 (kind : Int) (l : (List GFact)) (s : (Int × Bool × Int)) : Option ((Int × Bool × Int) ⊕ ((Int × Bool))) := match s with | (day, ok, t12) => career_first_p0 kind day ok l t12
theorem z53l1ok (kind : Int) (l : (List GFact)) (s : (Int × Bool × Int)) : Pp Tryz.prog 41 (List.drop 0 z53i1) (z53l1S kind l s) (career_first_l1 kind l s) (nextE (z53l1S kind l) (z53l1E kind l)) := fun K h => match s, h with | (day, ok, t12), h => (z53p0ok kind day ok l t12 _ h)
theorem z53l1Ethen (kind : Int) (l : (List GFact)) : ∀ (r : ((Int × Bool))) (J : St → Prop) (K : KT), z53l1E kind l r K → z53l1E kind l r (thenK J K)
  | s, _, _, h => h
def z53p1S (day_2 : Int) (ok_2 : Bool) : St := { tm := [sv 6 (i64 day_2), sv 7 (bl ok_2)], hp := [], nx := 0 }
noncomputable def career_first_p1 (day_2 : Int) (ok_2 : Bool) : Option ((Int × Bool)) := (some (day_2, ok_2))
theorem z53p1ok (day_2 : Int) (ok_2 : Bool) (K : KT) (h : W (career_first_p1 day_2 ok_2) (rE z53R K)) : EvL Tryz.prog 41 (List.drop 4 z53i0) K (z53p1S day_2 ok_2) :=
  EvL.pE mixed (lookC_ok (l := []) trivial) [4, 5] 4 2 (.nf (X := fun K => wK K .ret (z53R (day_2, ok_2))) (fun K => by kernel_rfl) (⟨_, .refl _, h⟩))
def z53p2S (kind : Int) (l : (List GFact)) : St := { tm := [sv 1 (i64 kind), sv 6 (i64 (0 : Int)), sv 7 (bl false), sv 10 (.c (.sl 14 l.length (lsEl eGFact zGFact l))), sv 11 (i64 ((l.length : Nat) : Int)), sv 12 (i64 (0 : Int))], hp := [], nx := 0 }
noncomputable def career_first_p2_g (kind : Int) (l : (List GFact)) (r : ((Int × Bool))) : Option ((Int × Bool)) := match r with | (day_1, ok_1) => (career_first_p1 day_1 ok_1)
noncomputable def career_first_p2 (kind : Int) (l : (List GFact)) : Option ((Int × Bool)) := (fixL (career_first_l1 kind l) ((0 : Int), false, (0 : Int))).bind (career_first_p2_g kind l)
theorem z53p2at : List.drop 3 z53i0 = .block 0 (.loop (inside (inside (nthI z53i0 3)))) :: List.drop 4 z53i0 := by kernel_rfl
theorem z53p2k (kind : Int) (l : (List GFact)) (K : KT) : ∀ r : ((Int × Bool)), W (career_first_p2_g kind l r) (rE z53R K) → z53l1E kind l r (wK (blockK 0 (thenK (EvL Tryz.prog 41 (List.drop 4 z53i0) K) K)))
  | (day_1, ok_1), h => ⟨(z53p1S day_1 ok_1), (.refl _), (z53p1ok day_1 ok_1 _ h)⟩
theorem z53p2ok (kind : Int) (l : (List GFact)) (K : KT) (h : W (career_first_p2 kind l) (rE z53R K)) : EvL Tryz.prog 41 (List.drop 3 z53i0) K (z53p2S kind l) :=
  EvL.at_ z53p2at (EvL.cons_loop (EvOk.weak (EvOk.ent (.refl _) (EvOk.loopF (x := inside (inside (nthI z53i0 3))) (f := career_first_l1 kind l) (emb := z53l1S kind l) (E := z53l1E kind l) (z53l1ok kind l) (z53l1Ethen kind l) (W_loop h (z53p2k kind l K))))))
def z53p3S (l : (List GFact)) (kind : Int) : St := { tm := [sv 0 (.c (.sl 14 l.length (lsEl eGFact zGFact l))), sv 1 (i64 kind)], hp := [], nx := 0 }
noncomputable def career_first_p3 (l : (List GFact)) (kind : Int) : Option ((Int × Bool)) := (career_first_p2 kind l)
theorem z53p3ok (l : (List GFact)) (kind : Int) (K : KT) (h : W (career_first_p3 l kind) (rE z53R K)) : EvL Tryz.prog 41 (List.drop 0 z53i0) K (z53p3S l kind) :=
  EvL.pD mixed (lookC_ok (l := []) trivial) [1, 6, 7, 10, 11, 12, 19, 20, 21, 22, 25, 26, 27, 28, 29, 30, 31, 32, 33] 0 3 3 (.nf (X := fun K => wK K .normal (z53p2S kind l)) (fun K => by kernel_rfl) (⟨_, .refl _, (z53p2ok kind l _ h)⟩))
noncomputable def career_first (l : (List GFact)) (kind : Int) : Option ((Int × Bool)) := career_first_p3 l kind
theorem z53run (l : (List GFact)) (kind : Int) (y_ : (Int × Bool)) (h : career_first l kind = some y_) : EvL Tryz.prog 41 (items (bodyOf Tryz.f53)) (retK Tryz.prog [.tmp 4, .tmp 5] (OutOk (career_first_out y_))) (z53p3S l kind) :=
  z53p3ok l kind _ (W_iff.2 ⟨y_, h, z53Rok y_⟩)
noncomputable def career_first_C : Con
  | [(.c (.sl k1 n2 e3)), (.c (.lit (.int .i64 a4)))] => some ([LstOk eGFact dGFact 14 k1 n2 e3, (career_first (lst dGFact n2 e3) a4).isSome = true], (career_first_out ((career_first (lst dGFact n2 e3) a4).getD ((0 : Int), false))))
  | _ => none
theorem career_first_ok : Meets Tryz.prog 53 career_first_C := by
  refine meets_fun (fn := Tryz.f53) (c := bodyOf Tryz.f53) (by kernel_rfl) (by kernel_rfl) (by kernel_rfl) (rs := [.tmp 4, .tmp 5]) (by kernel_rfl) (nt := 41) (by kernel_rfl) fun vs p out h hp => ?_
  unfold career_first_C at h
  split at h
  · next k1 n2 e3 a4 =>
    cases h
    obtain ⟨g0, hp⟩ := allq hp
    obtain ⟨g, hp⟩ := allq hp
    obtain ⟨x, hx⟩ := Option.isSome_iff_exists.1 g
    rw [hx]
    exact ⟨[(.c (.sl 14 ((lst dGFact n2 e3)).length (lsEl eGFact zGFact (lst dGFact n2 e3)))), (i64 a4)], (VLes.cons (VLe.slk g0.1 (RowIs.of_ok g0)) (VLes.cons (VLe.rfl' _) VLes.nil)), rfl, z53run (lst dGFact n2 e3) a4 x hx⟩
  · cases h

noncomputable def z30i0 : List Code := items (bodyOf Tryz.f30)
def career_Birth_out (x_1 : (Int × Bool)) : Out := .data (.tup [(i64 x_1.1), (bl x_1.2)])
def z30R (x_1 : (Int × Bool)) : St := { tm := [sv 2 (i64 x_1.1), sv 3 (bl x_1.2)], hp := [], nx := 0 }
theorem z30Rok (x_1 : (Int × Bool)) : retK Tryz.prog [.tmp 2, .tmp 3] (OutOk (career_Birth_out x_1)) .ret (z30R x_1) :=
  retK.intro (v := (.tup [(i64 x_1.1), (bl x_1.2)])) (by kernel_rfl) (VLe.tup (VLes.cons (VLe.rfl' _) (VLes.cons (VLe.rfl' _) (VLes.nil))))
def z30p0S (l : (List GFact)) : St := { tm := [sv 0 (.c (.sl 14 l.length (lsEl eGFact zGFact l)))], hp := [], nx := 0 }
noncomputable def career_Birth_p0 (l : (List GFact)) : Option ((Int × Bool)) := (career_first l (11 : Int)).bind fun r_1 => ((some (r_1.1, r_1.2)))
theorem z30p0nf (l : (List GFact)) (K : KT) (L1_ : List GFact) (hL1_ : lst dGFact l.length (lsEl eGFact zGFact l) = L1_) :
    ev Tryz.prog (lookC [(53, .pure career_first_C)]) 8 (ofItems ((List.drop 0 z30i0).take 3)) (cN [2, 3] K) (z30p0S l) =
    ((LstOk eGFact dGFact 14 14 l.length (lsEl eGFact zGFact l)) ∧ ((career_first L1_ (11 : Int)).isSome = true) ∧ (wK K .ret (z30R (((career_first L1_ (11 : Int)).getD ((0 : Int), false)).1, ((career_first L1_ (11 : Int)).getD ((0 : Int), false)).2)))) := by subst hL1_; kernel_rfl
theorem z30p0ok (l : (List GFact)) (K : KT) (h : W (career_Birth_p0 l) (rE z30R K)) : EvL Tryz.prog 8 (List.drop 0 z30i0) K (z30p0S l) :=
  EvL.pE mixed (lookC_ok (l := [(53, .pure career_first_C)]) ⟨career_first_ok, trivial⟩) [2, 3] 0 3 (.of (z30p0nf l _ _ (RowIs.lst dGFact_eGFact (RowIs.ls eGFact zGFact l))) (⟨RowIs.ok dGFact_eGFact (RowIs.ls eGFact zGFact l), (W_bind ((0 : Int), false) h fun hp0 h => ⟨_, .refl _, h⟩)⟩))
noncomputable def career_Birth (l : (List GFact)) : Option ((Int × Bool)) := career_Birth_p0 l
theorem z30run (l : (List GFact)) (y_ : (Int × Bool)) (h : career_Birth l = some y_) : EvL Tryz.prog 8 (items (bodyOf Tryz.f30)) (retK Tryz.prog [.tmp 2, .tmp 3] (OutOk (career_Birth_out y_))) (z30p0S l) :=
  z30p0ok l _ (W_iff.2 ⟨y_, h, z30Rok y_⟩)
noncomputable def career_Birth_C : Con
  | [(.c (.sl k1 n2 e3))] => some ([LstOk eGFact dGFact 14 k1 n2 e3, (career_Birth (lst dGFact n2 e3)).isSome = true], (career_Birth_out ((career_Birth (lst dGFact n2 e3)).getD ((0 : Int), false))))
  | _ => none
theorem career_Birth_ok : Meets Tryz.prog 30 career_Birth_C := by
  refine meets_fun (fn := Tryz.f30) (c := bodyOf Tryz.f30) (by kernel_rfl) (by kernel_rfl) (by kernel_rfl) (rs := [.tmp 2, .tmp 3]) (by kernel_rfl) (nt := 8) (by kernel_rfl) fun vs p out h hp => ?_
  unfold career_Birth_C at h
  split at h
  · next k1 n2 e3 =>
    cases h
    obtain ⟨g0, hp⟩ := allq hp
    obtain ⟨g, hp⟩ := allq hp
    obtain ⟨x, hx⟩ := Option.isSome_iff_exists.1 g
    rw [hx]
    exact ⟨[(.c (.sl 14 ((lst dGFact n2 e3)).length (lsEl eGFact zGFact (lst dGFact n2 e3))))], (VLes.cons (VLe.slk g0.1 (RowIs.of_ok g0)) VLes.nil), rfl, z30run (lst dGFact n2 e3) x hx⟩
  · cases h

noncomputable def z31i0 : List Code := items (bodyOf Tryz.f31)
def career_Death_out (x_1 : (Int × Bool)) : Out := .data (.tup [(i64 x_1.1), (bl x_1.2)])
def z31R (x_1 : (Int × Bool)) : St := { tm := [sv 2 (i64 x_1.1), sv 3 (bl x_1.2)], hp := [], nx := 0 }
theorem z31Rok (x_1 : (Int × Bool)) : retK Tryz.prog [.tmp 2, .tmp 3] (OutOk (career_Death_out x_1)) .ret (z31R x_1) :=
  retK.intro (v := (.tup [(i64 x_1.1), (bl x_1.2)])) (by kernel_rfl) (VLe.tup (VLes.cons (VLe.rfl' _) (VLes.cons (VLe.rfl' _) (VLes.nil))))
def z31p0S (l : (List GFact)) : St := { tm := [sv 0 (.c (.sl 14 l.length (lsEl eGFact zGFact l)))], hp := [], nx := 0 }
noncomputable def career_Death_p0 (l : (List GFact)) : Option ((Int × Bool)) := (career_first l (12 : Int)).bind fun r_1 => ((some (r_1.1, r_1.2)))
theorem z31p0nf (l : (List GFact)) (K : KT) (L1_ : List GFact) (hL1_ : lst dGFact l.length (lsEl eGFact zGFact l) = L1_) :
    ev Tryz.prog (lookC [(53, .pure career_first_C)]) 8 (ofItems ((List.drop 0 z31i0).take 3)) (cN [2, 3] K) (z31p0S l) =
    ((LstOk eGFact dGFact 14 14 l.length (lsEl eGFact zGFact l)) ∧ ((career_first L1_ (12 : Int)).isSome = true) ∧ (wK K .ret (z31R (((career_first L1_ (12 : Int)).getD ((0 : Int), false)).1, ((career_first L1_ (12 : Int)).getD ((0 : Int), false)).2)))) := by subst hL1_; kernel_rfl
theorem z31p0ok (l : (List GFact)) (K : KT) (h : W (career_Death_p0 l) (rE z31R K)) : EvL Tryz.prog 8 (List.drop 0 z31i0) K (z31p0S l) :=
  EvL.pE mixed (lookC_ok (l := [(53, .pure career_first_C)]) ⟨career_first_ok, trivial⟩) [2, 3] 0 3 (.of (z31p0nf l _ _ (RowIs.lst dGFact_eGFact (RowIs.ls eGFact zGFact l))) (⟨RowIs.ok dGFact_eGFact (RowIs.ls eGFact zGFact l), (W_bind ((0 : Int), false) h fun hp0 h => ⟨_, .refl _, h⟩)⟩))
noncomputable def career_Death (l : (List GFact)) : Option ((Int × Bool)) := career_Death_p0 l
theorem z31run (l : (List GFact)) (y_ : (Int × Bool)) (h : career_Death l = some y_) : EvL Tryz.prog 8 (items (bodyOf Tryz.f31)) (retK Tryz.prog [.tmp 2, .tmp 3] (OutOk (career_Death_out y_))) (z31p0S l) :=
  z31p0ok l _ (W_iff.2 ⟨y_, h, z31Rok y_⟩)
noncomputable def career_Death_C : Con
  | [(.c (.sl k1 n2 e3))] => some ([LstOk eGFact dGFact 14 k1 n2 e3, (career_Death (lst dGFact n2 e3)).isSome = true], (career_Death_out ((career_Death (lst dGFact n2 e3)).getD ((0 : Int), false))))
  | _ => none
theorem career_Death_ok : Meets Tryz.prog 31 career_Death_C := by
  refine meets_fun (fn := Tryz.f31) (c := bodyOf Tryz.f31) (by kernel_rfl) (by kernel_rfl) (by kernel_rfl) (rs := [.tmp 2, .tmp 3]) (by kernel_rfl) (nt := 8) (by kernel_rfl) fun vs p out h hp => ?_
  unfold career_Death_C at h
  split at h
  · next k1 n2 e3 =>
    cases h
    obtain ⟨g0, hp⟩ := allq hp
    obtain ⟨g, hp⟩ := allq hp
    obtain ⟨x, hx⟩ := Option.isSome_iff_exists.1 g
    rw [hx]
    exact ⟨[(.c (.sl 14 ((lst dGFact n2 e3)).length (lsEl eGFact zGFact (lst dGFact n2 e3))))], (VLes.cons (VLe.slk g0.1 (RowIs.of_ok g0)) VLes.nil), rfl, z31run (lst dGFact n2 e3) x hx⟩
  · cases h

noncomputable def z13i0 : List Code := items (bodyOf Tryz.f13)
def career_Life_out (x_1 : GSpan) : Out := .data (.agg [(i64 x_1.From), (i64 x_1.To)])
def z13R (x_1 : GSpan) : St := { tm := [sv 2 (.ptr 0 2 0 0)], hp := [(0, some (.box [(i64 x_1.From), (i64 x_1.To)]))], nx := 1 }
theorem z13Rok (x_1 : GSpan) : retK Tryz.prog [.cell 2 34] (OutOk (career_Life_out x_1)) .ret (z13R x_1) :=
  retK.intro (v := (.agg [(i64 x_1.From), (i64 x_1.To)])) (by kernel_rfl) ((VLe.rfl' _))
def z13p0S (birth death : Int) : St := { tm := [sv 2 (.ptr 0 2 0 0), sv 3 (i64 birth), sv 5 (i64 death)], hp := [(0, some (.box [(i64 (0 : Int)), (i64 (0 : Int))]))], nx := 1 }
noncomputable def career_Life_p0 (birth death : Int) : Option (GSpan) := (bif (decide (death < birth)) then (some (GSpan.mk (0 : Int) (0 : Int))) else (some (GSpan.mk birth (w64 (death + (1 : Int))))))
theorem z13p0ok (birth death : Int) (K : KT) (h : W (career_Life_p0 birth death) (rE z13R K)) : EvL Tryz.prog 27 (List.drop 5 z13i0) K (z13p0S birth death) :=
  EvL.pE mixed (lookC_ok (l := []) trivial) [2] 5 4 (.nf (X := fun K => (bif (decide (death < birth)) then wK K .ret (z13R (GSpan.mk (0 : Int) (0 : Int))) else wK K .ret (z13R (GSpan.mk birth (w64 (death + (1 : Int))))))) (fun K => by kernel_rfl) (W_bif h (fun _ h => ⟨_, .refl _, h⟩) (fun _ h => ⟨_, .refl _, h⟩)))
def z13p1S (l : (List GFact)) : St := { tm := [sv 0 (.c (.sl 14 l.length (lsEl eGFact zGFact l)))], hp := [], nx := 0 }
noncomputable def career_Life_p1 (l : (List GFact)) : Option (GSpan) := (career_Birth l).bind fun r_1 => ((career_Death l).bind fun r_2 => ((bif (!r_2.2) then (career_Life_p0 r_1.1 (73048 : Int)) else (career_Life_p0 r_1.1 r_2.1))))
theorem z13p1nf (l : (List GFact)) (K : KT) (L1_ : List GFact) (hL1_ : lst dGFact l.length (lsEl eGFact zGFact l) = L1_) (L2_ : List GFact) (hL2_ : lst dGFact l.length (lsEl eGFact zGFact l) = L2_) :
    ev Tryz.prog (lookC [(30, .pure career_Birth_C), (31, .pure career_Death_C)]) 27 (ofItems ((List.drop 0 z13i0).take 5)) (cN [2, 3, 5] K) (z13p1S l) =
    ((LstOk eGFact dGFact 14 14 l.length (lsEl eGFact zGFact l)) ∧ ((career_Birth L1_).isSome = true) ∧ ((LstOk eGFact dGFact 14 14 l.length (lsEl eGFact zGFact l)) ∧ ((career_Death L2_).isSome = true) ∧ ((bif (!((career_Death L2_).getD ((0 : Int), false)).2) then wK K .normal (z13p0S (((career_Birth L1_).getD ((0 : Int), false)).1) (73048 : Int)) else wK K .normal (z13p0S (((career_Birth L1_).getD ((0 : Int), false)).1) (((career_Death L2_).getD ((0 : Int), false)).1)))))) := by subst hL1_ hL2_; kernel_rfl
theorem z13p1ok (l : (List GFact)) (K : KT) (h : W (career_Life_p1 l) (rE z13R K)) : EvL Tryz.prog 27 (List.drop 0 z13i0) K (z13p1S l) :=
  EvL.pD mixed (lookC_ok (l := [(30, .pure career_Birth_C), (31, .pure career_Death_C)]) ⟨career_Birth_ok, career_Death_ok, trivial⟩) [2, 3, 5] 0 5 5 (.of (z13p1nf l _ _ (RowIs.lst dGFact_eGFact (RowIs.ls eGFact zGFact l)) _ (RowIs.lst dGFact_eGFact (RowIs.ls eGFact zGFact l))) (⟨RowIs.ok dGFact_eGFact (RowIs.ls eGFact zGFact l), (W_bind ((0 : Int), false) h fun hp0 h => ⟨RowIs.ok dGFact_eGFact (RowIs.ls eGFact zGFact l), (W_bind ((0 : Int), false) h fun hp1 h => (W_bif h (fun _ h => ⟨_, .refl _, (z13p0ok (((career_Birth l).getD ((0 : Int), false)).1) (73048 : Int) _ h)⟩) (fun _ h => ⟨_, .refl _, (z13p0ok (((career_Birth l).getD ((0 : Int), false)).1) (((career_Death l).getD ((0 : Int), false)).1) _ h)⟩)))⟩)⟩))
noncomputable def career_Life (l : (List GFact)) : Option (GSpan) := career_Life_p1 l
theorem z13run (l : (List GFact)) (y_ : GSpan) (h : career_Life l = some y_) : EvL Tryz.prog 27 (items (bodyOf Tryz.f13)) (retK Tryz.prog [.cell 2 34] (OutOk (career_Life_out y_))) (z13p1S l) :=
  z13p1ok l _ (W_iff.2 ⟨y_, h, z13Rok y_⟩)
noncomputable def career_Life_C : Con
  | [(.c (.sl k1 n2 e3))] => some ([LstOk eGFact dGFact 14 k1 n2 e3, (career_Life (lst dGFact n2 e3)).isSome = true], (career_Life_out ((career_Life (lst dGFact n2 e3)).getD zGSpan)))
  | _ => none
theorem career_Life_ok : Meets Tryz.prog 13 career_Life_C := by
  refine meets_fun (fn := Tryz.f13) (c := bodyOf Tryz.f13) (by kernel_rfl) (by kernel_rfl) (by kernel_rfl) (rs := [.cell 2 34]) (by kernel_rfl) (nt := 27) (by kernel_rfl) fun vs p out h hp => ?_
  unfold career_Life_C at h
  split at h
  · next k1 n2 e3 =>
    cases h
    obtain ⟨g0, hp⟩ := allq hp
    obtain ⟨g, hp⟩ := allq hp
    obtain ⟨x, hx⟩ := Option.isSome_iff_exists.1 g
    rw [hx]
    exact ⟨[(.c (.sl 14 ((lst dGFact n2 e3)).length (lsEl eGFact zGFact (lst dGFact n2 e3))))], (VLes.cons (VLe.slk g0.1 (RowIs.of_ok g0)) VLes.nil), rfl, z13run (lst dGFact n2 e3) x hx⟩
  · cases h

noncomputable def z87i0 : List Code := items (bodyOf Tryz.f87)
def spans_clamp_out (x_1 : GSpan) : Out := .data (.agg [(i64 x_1.From), (i64 x_1.To)])
def z87R (x_1 : GSpan) : St := { tm := [sv 2 (.ptr 0 2 0 0)], hp := [(0, some (.box [(i64 x_1.From), (i64 x_1.To)]))], nx := 1 }
theorem z87Rok (x_1 : GSpan) : retK Tryz.prog [.cell 2 34] (OutOk (spans_clamp_out x_1)) .ret (z87R x_1) :=
  retK.intro (v := (.agg [(i64 x_1.From), (i64 x_1.To)])) (by kernel_rfl) ((VLe.rfl' _))
def z87p0S (s_1 : GSpan) : St := { tm := [sv 0 (.ag (eGSpan s_1))], hp := [], nx := 0 }
noncomputable def spans_clamp_p0 (s_1 : GSpan) : Option (GSpan) := (some (GSpan.mk (if s_1.From < (0 : Int) then (0 : Int) else s_1.From) (if (73049 : Int) < s_1.To then (73049 : Int) else s_1.To)))
theorem z87p0ok (s_1 : GSpan) (K : KT) (h : W (spans_clamp_p0 s_1) (rE z87R K)) : EvL Tryz.prog 10 (List.drop 0 z87i0) K (z87p0S s_1) :=
  EvL.pE mixed (lookC_ok (l := []) trivial) [2] 0 3 (.nf (X := fun K => wK K .ret (z87R (GSpan.mk (if s_1.From < (0 : Int) then (0 : Int) else s_1.From) (if (73049 : Int) < s_1.To then (73049 : Int) else s_1.To)))) (fun K => by kernel_rfl) (⟨_, .refl _, h⟩))
noncomputable def spans_clamp (s_1 : GSpan) : Option (GSpan) := spans_clamp_p0 s_1
theorem z87run (s_1 : GSpan) (y_ : GSpan) (h : spans_clamp s_1 = some y_) : EvL Tryz.prog 10 (items (bodyOf Tryz.f87)) (retK Tryz.prog [.cell 2 34] (OutOk (spans_clamp_out y_))) (z87p0S s_1) :=
  z87p0ok s_1 _ (W_iff.2 ⟨y_, h, z87Rok y_⟩)
noncomputable def spans_clamp_C : Con
  | [(.agg [(.c (.lit (.int .i64 a1))), (.c (.lit (.int .i64 a2)))])] => some ([(spans_clamp (GSpan.mk a1 a2)).isSome = true], (spans_clamp_out ((spans_clamp (GSpan.mk a1 a2)).getD zGSpan)))
  | _ => none
theorem spans_clamp_ok : Meets Tryz.prog 87 spans_clamp_C := by
  refine meets_fun (fn := Tryz.f87) (c := bodyOf Tryz.f87) (by kernel_rfl) (by kernel_rfl) (by kernel_rfl) (rs := [.cell 2 34]) (by kernel_rfl) (nt := 10) (by kernel_rfl) fun vs p out h hp => ?_
  unfold spans_clamp_C at h
  split at h
  · next a1 a2 =>
    cases h
    obtain ⟨g, hp⟩ := allq hp
    obtain ⟨x, hx⟩ := Option.isSome_iff_exists.1 g
    rw [hx]
    exact ⟨[(.agg [(i64 (GSpan.mk a1 a2).From), (i64 (GSpan.mk a1 a2).To)])], (VLes.cons (VLe.rfl' _) VLes.nil), rfl, z87run (GSpan.mk a1 a2) x hx⟩
  · cases h


instance : Inhabited GSpan := ⟨zGSpan⟩
/-- Which of two stands first. -/
def sort_Slice_lt (a b : GSpan) : Bool := decide (a.From < b.From)
theorem sort_Slice_swo : Go.Sort.SWO sort_Slice_lt := ⟨fun x => by simp [sort_Slice_lt], fun x y z h1 h2 => by simp [sort_Slice_lt] at *; omega, fun x y z h1 h2 => by simp [sort_Slice_lt] at *; omega⟩
/-- An element's words. -/
def sort_Slice_enc (x : GSpan) : List Value := [.int .i64 x.From, .int .i64 x.To]
theorem sort_Slice_one (x : GSpan) (v : Value) (hv : v ∈ sort_Slice_enc x) : v.oneCell' = true := by
  unfold sort_Slice_enc at hv
  simp only [List.mem_cons, List.not_mem_nil, or_false] at hv
  rcases hv with rfl | rfl <;> rfl
/-- sort.Slice, in the order in which it leaves the list. -/
noncomputable def sort_Slice (l : List GSpan) : Option (List GSpan) := gd (l.length < 4611686018427387904) (some (sortL sort_Slice_lt l))
noncomputable def sort_Slice_C : Heap → Nat → List V → Option Res := sortC eGSpan dGSpan zGSpan 27 34 2 89 sort_Slice
section
open Go.Shelf Go.RowKit Go.Lib Go.Sort
set_option maxHeartbeats 2000000 in
theorem sort_Slice_walk (W : World) (blk off c Bs size : Nat) (G : Nat → Int) (hs : W.cell? ⟨Bs, 0, none⟩ = some (.slice (some ⟨blk, off, none⟩) size c))
    (hc : ∀ t, t < size → W.cell? ⟨blk, off + t * 2, none⟩ = some (.int .i64 (G t))) (i j : Nat) (hi : i < size) (hj : j < size) (_hsz : size < 4611686018427387904) :
    Calls Tryz.prog 89 #[.int .i64 i, .int .i64 j, .pointer (some ⟨Bs, 0, none⟩)] W fun e w' => e = .returned (.bool (decide (G i < G j))) ∧ ∃ q, w' = W.drewN q := by
  have ci := hc i hi
  have cj := hc j hj
  go_enter Tryz.func89, Tryz.ntmps89
  go_wp2
  go_quiet (fail)
  go_wp2
  go_ret
  exact ⟨rfl, nq, rfl⟩
theorem sort_Slice_less (W : World) (blk c Bs : Nat) (d : Array GSpan) (hH : HoldsK sort_Slice_enc 2 W blk 0 d) (hsz : d.size < 4611686018427387904) (hs : W.cell? ⟨Bs, 0, none⟩ = some (.slice (some ⟨blk, 0, none⟩) d.size c)) (i j : Nat) (hi : i < d.size) (hj : j < d.size) :
    Calls Tryz.prog 89 #[.int .i64 i, .int .i64 j, .pointer (some ⟨Bs, 0, none⟩)] W fun e w' => e = .returned (.bool (sort_Slice_lt d[i]! d[j]!)) ∧ ∃ q, w' = W.drewN q :=
  sort_Slice_walk W blk 0 c Bs d.size (fun t => d[t]!.From) hs (fun t ht => (hH.cell (i := t) (c := 0) ht (by omega)).1) i j hi hj hsz
noncomputable def sort_Slice_ti : TypeInfo := (Tryz.prog.info? 27).get (by kernel_rfl)
noncomputable def sort_Slice_ei : TypeInfo := (Tryz.prog.info? 34).get (by kernel_rfl)
theorem sort_Slice_run : SortRun Tryz.prog 88 27 89 2 sort_Slice_enc sort_Slice_lt := by
  have hp : sort_Slice_ei.hasPointers = false := by kernel_rfl
  have hb : sort_Slice_ei.bytes = 16 := by kernel_rfl
  exact sortRun_of (T := GSpan) (enc := sort_Slice_enc) (k := 2) (lt := sort_Slice_lt) (t := 27) (e := 34) (g := 89) (i := sort_Slice_ti) (ie := sort_Slice_ei) (s := 9) (f2 := 121) Tryz.sl (by kernel_rfl) (by kernel_rfl) (by kernel_rfl) (by kernel_rfl) (ke := 25) (fun _ => by kernel_rfl) (fun _ => rfl) (by kernel_rfl) (fun _ => by kernel_rfl) sort_Slice_one sort_Slice_swo
    (enters_of (c := bodyOf Tryz.f89) Tryz.func89 (by kernel_rfl) (by kernel_rfl)) (by kernel_rfl) (enters_of (c := bodyOf Tryz.f88) Tryz.func88 (by kernel_rfl) (by kernel_rfl)) (f0 := 113) (by kernel_rfl) (f1 := 114) (by kernel_rfl)
    (fun n h2 => by
      have c : (n == 0) = false := by simp; omega
      have d : (n == 1) = false := by simp; omega
      simp [Lib.swapperK, hp, hb, c, d]) (by kernel_rfl) (gS := false) (fun args W => run_callFunc_extern Tryz.func121 (by kernel_rfl) (by kernel_rfl) (by kernel_rfl) (e := Extern.ReflectliteSwapper.swap false) (by kernel_rfl) args W)
    sort_Slice_less
end
theorem sort_Slice_ok : MeetsC Tryz.prog 88 (.mut sort_Slice_C) :=
  sortC_meets sort_Slice_swo (by decide) (by kernel_rfl) (fun _ => rfl) (fun _ => rfl) sort_Slice_one (fun l x h => ⟨(gd_some.1 h).1, (Option.some.inj (gd_some.1 h).2).symm⟩) sort_Slice_run

noncomputable def z64i0 : List Code := items (bodyOf Tryz.f64)
noncomputable def z64i1 : List Code := items (inside (inside (nthI z64i0 3)))
noncomputable def z64i2 : List Code := items (inside (inside (nthI z64i0 7)))
def spans_Make_out (x_1 : (List GSpan)) : Out := .own true 34 2 (x_1).length (lsEl eGSpan zGSpan x_1)
def z64R (x_1 : (List GSpan)) : St := { tm := [sv 2 (.row 0 2 0 x_1.length)], hp := [(0, some (.row 34 2 x_1.length (lsEl eGSpan zGSpan x_1)))], nx := 1 }
theorem z64Rok (x_1 : (List GSpan)) : retK Tryz.prog [.tmp 2] (OutOk (spans_Make_out x_1)) .ret (z64R x_1) :=
  retK.intro (v := (.row 0 2 0 x_1.length)) (by kernel_rfl) (⟨_, _, _, rfl, rfl, rfl, fun _ _ => rfl, fun _ i hi d hd => scal_GSpan _ d hd⟩)
def z64l1S (l : (List GSpan)) (s : (Int × (List GSpan))) : St := match s with | (t12, sorted) => { tm := [sv 3 (.ptr 0 1 0 0), sv 10 (.c (.sl 2 l.length (lsEl eGSpan zGSpan l))), sv 11 (i64 ((l.length : Nat) : Int)), sv 12 (i64 t12)], hp := [(0, some (.box [(.row 1 2 0 sorted.length)])), (1, some (.row 34 2 sorted.length (lsEl eGSpan zGSpan sorted)))], nx := 2 }
def z64l1C0 (l : (List GSpan)) (s : (List GSpan)) : St := match s with | sorted_1 => { tm := [sv 3 (.ptr 0 1 0 0)], hp := [(0, some (.box [(.row 1 2 0 sorted_1.length)])), (1, some (.row 34 2 sorted_1.length (lsEl eGSpan zGSpan sorted_1)))], nx := 2 }
def z64l1E (l : (List GSpan)) (r : (((List GSpan)))) (K : KT) : Prop := match r with | s => K (.exit 0) (z64l1C0 l s)
def z64p0S (l : (List GSpan)) (t12 : Int) (sorted : (List GSpan)) : St := { tm := [sv 3 (.ptr 0 1 0 0), sv 10 (.c (.sl 2 l.length (lsEl eGSpan zGSpan l))), sv 11 (i64 ((l.length : Nat) : Int)), sv 12 (i64 t12)], hp := [(0, some (.box [(.row 1 2 0 sorted.length)])), (1, some (.row 34 2 sorted.length (lsEl eGSpan zGSpan sorted)))], nx := 2 }
noncomputable def spans_Make_p0 (l : (List GSpan)) (t12 : Int) (sorted : (List GSpan)) : Option ((Int × (List GSpan)) ⊕ (((List GSpan)))) := (bif (decide (t12 < ((l.length : Nat) : Int))) then gd ((0 : Int) ≤ t12 ∧ t12 < ((l.length : Nat) : Int)) ((spans_clamp (l.getD (Int.toNat t12) zGSpan)).bind fun r_1 => ((bif (decide (r_1.From < r_1.To)) then gd (capB (sorted.length + 1) 16) ((some (Sum.inl ((w64 (t12 + (1 : Int))), (sorted ++ ([r_1] : List GSpan)))))) else (some (Sum.inl ((w64 (t12 + (1 : Int))), sorted)))))) else (some (Sum.inr sorted)))
theorem z64p0ok (l : (List GSpan)) (t12 : Int) (sorted : (List GSpan)) (K : KT) (h : W (spans_Make_p0 l t12 sorted) (nE (z64l1S l) (z64l1E l) K)) : EvL Tryz.prog 73 (List.drop 0 z64i1) K (z64p0S l t12 sorted) :=
  EvL.pE mixed (lookC_ok (l := [(87, .pure spans_clamp_C)]) ⟨spans_clamp_ok, trivial⟩) [3, 10, 11, 12, 43, 44, 45, 46, 47, 48, 49, 50, 51] 0 4 (.nf (X := fun K => (bif (decide (t12 < ((l.length : Nat) : Int))) then ((0 : Int) ≤ t12) ∧ (t12 < ((l.length : Nat) : Int)) ∧ (((spans_clamp (l.getD (Int.toNat t12) zGSpan)).isSome = true) ∧ ((bif (decide (((spans_clamp (l.getD (Int.toNat t12) zGSpan)).getD zGSpan).From < ((spans_clamp (l.getD (Int.toNat t12) zGSpan)).getD zGSpan).To)) then (sorted.length = sorted.length) ∧ ((sorted.length + 1) * 16 ≤ 140737488355328) ∧ ((sorted.length + 1) ≤ 140737488355328) ∧ (wK K .normal ({ tm := [sv 3 (.ptr 0 1 0 0), sv 10 (.c (.sl 2 l.length (lsEl eGSpan zGSpan l))), sv 11 (i64 ((l.length : Nat) : Int)), sv 12 (i64 (w64 (t12 + (1 : Int))))], hp := [(0, some (.box [(.row 1 2 0 (sorted.length + 1))])), (1, some (.row 34 2 (sorted.length + 1) (fun i => bif Nat.blt i sorted.length then (lsEl eGSpan zGSpan sorted) i else (fun i => (litE 2 (eGSpan ((spans_clamp (l.getD (Int.toNat t12) zGSpan)).getD zGSpan))) (0 + i)) (i - sorted.length))))], nx := 2 })) else wK K .normal (z64l1S l ((w64 (t12 + (1 : Int))), sorted))))) else wK K (.exit 0) ({ tm := [sv 3 (.ptr 0 1 0 0), sv 10 (.c (.sl 2 l.length (lsEl eGSpan zGSpan l))), sv 11 (i64 ((l.length : Nat) : Int)), sv 12 (i64 t12)], hp := [(0, some (.box [(.row 1 2 0 sorted.length)])), (1, some (.row 34 2 sorted.length (lsEl eGSpan zGSpan sorted)))], nx := 2 }))) (fun K => by kernel_rfl) (W_bif h (fun _ h => (W_gd2 h fun hp0 h => (W_bind zGSpan h fun hp1 h => (W_bif h (fun _ h => ⟨rfl, (W_gd2 h fun hp2 h => ⟨(z64l1S l ((w64 (t12 + (1 : Int))), (sorted ++ ([((spans_clamp (l.getD (Int.toNat t12) zGSpan)).getD zGSpan)] : List GSpan)))), (.of (.q rfl (.q rfl (.q rfl (.q rfl .nil)))) (.box rfl (.cons (.rown (len_app rfl rfl)) .nil) (.row rfl (RowIs.app (RowIs.ls eGSpan zGSpan sorted) (RowIs.zero (RowIs.l1 (enc := eGSpan) (z := zGSpan) 2 ((spans_clamp (l.getD (Int.toNat t12) zGSpan)).getD zGSpan) rfl))) .nil rfl)) rfl), h⟩)⟩) (fun _ h => ⟨_, .refl _, h⟩))))) (fun _ h => ⟨(z64l1C0 l sorted), (.of (.q rfl .nil) (.same rfl (.same rfl .nil)) rfl), h⟩)))
noncomputable def spans_Make_l1 (l : (List GSpan)) (s : (Int × (List GSpan))) : Option ((Int × (List GSpan)) ⊕ (((List GSpan)))) := match s with | (t12, sorted) => spans_Make_p0 l t12 sorted
theorem z64l1ok (l : (List GSpan)) (s : (Int × (List GSpan))) : Pp Tryz.prog 73 (List.drop 0 z64i1) (z64l1S l s) (spans_Make_l1 l s) (nextE (z64l1S l) (z64l1E l)) := fun K h => match s, h with | (t12, sorted), h => (z64p0ok l t12 sorted _ h)
theorem z64l1Ethen (l : (List GSpan)) : ∀ (r : (((List GSpan)))) (J : St → Prop) (K : KT), z64l1E l r K → z64l1E l r (thenK J K)
  | s, _, _, h => h
def z64l2S (t32 : (List GSpan)) (t33 : Int) (s : ((List GSpan) × (List GSpan) × Int × Int)) : St := match s with | (out_1, t32_1, t33_1, t34) => { tm := [sv 6 (.row 0 2 0 out_1.length), sv 32 (.row 1 2 0 t32_1.length), sv 33 (i64 t33_1), sv 34 (i64 t34)], hp := [(0, some (.row 34 2 out_1.length (lsEl eGSpan zGSpan out_1))), (1, some (.row 34 2 t32_1.length (lsEl eGSpan zGSpan t32_1)))], nx := 2 }
def z64l2C0 (t32 : (List GSpan)) (t33 : Int) (s : (List GSpan)) : St := match s with | out_2 => { tm := [sv 6 (.row 0 2 0 out_2.length)], hp := [(0, some (.row 34 2 out_2.length (lsEl eGSpan zGSpan out_2)))], nx := 1 }
def z64l2E (t32 : (List GSpan)) (t33 : Int) (r : (((List GSpan)))) (K : KT) : Prop := match r with | s => K (.exit 2) (z64l2C0 t32 t33 s)
def z64p1S (out_1 t32_1 : (List GSpan)) (t33_1 t34 : Int) : St := { tm := [sv 6 (.row 0 2 0 out_1.length), sv 32 (.row 1 2 0 t32_1.length), sv 33 (i64 t33_1), sv 34 (i64 t34)], hp := [(0, some (.row 34 2 out_1.length (lsEl eGSpan zGSpan out_1))), (1, some (.row 34 2 t32_1.length (lsEl eGSpan zGSpan t32_1)))], nx := 2 }
noncomputable def spans_Make_p1 (out_1 t32_1 : (List GSpan)) (t33_1 t34 : Int) : Option (((List GSpan) × (List GSpan) × Int × Int) ⊕ (((List GSpan)))) := (bif (decide (t34 < t33_1)) then gd ((0 : Int) ≤ t34 ∧ t34 < ((t32_1.length : Nat) : Int)) (gd (((decide ((0 : Int) < ((out_1.length : Nat) : Int))) && true) = true → (0 : Int) ≤ (w64 (((out_1.length : Nat) : Int) - (1 : Int)))) (gd (((decide ((0 : Int) < ((out_1.length : Nat) : Int))) && true) = true → (w64 (((out_1.length : Nat) : Int) - (1 : Int))) < ((out_1.length : Nat) : Int)) ((bif (bif (decide ((0 : Int) < ((out_1.length : Nat) : Int))) then (decide ((t32_1.getD (0 + (Int.toNat t34)) zGSpan).From ≤ (out_1.getD (0 + (Int.toNat (w64 (((out_1.length : Nat) : Int) - (1 : Int))))) zGSpan).To)) else false) then gd ((0 : Int) ≤ (w64 (((out_1.length : Nat) : Int) - (1 : Int))) ∧ (w64 (((out_1.length : Nat) : Int) - (1 : Int))) < ((out_1.length : Nat) : Int)) (gd ((0 : Int) ≤ (w64 (((out_1.length : Nat) : Int) - (1 : Int))) ∧ (w64 (((out_1.length : Nat) : Int) - (1 : Int))) < ((out_1.length : Nat) : Int)) ((some (Sum.inl ((out_1.set (0 + (Int.toNat (w64 (((out_1.length : Nat) : Int) - (1 : Int))))) (GSpan.mk (out_1.getD (0 + (Int.toNat (w64 (((out_1.length : Nat) : Int) - (1 : Int))))) zGSpan).From (if (out_1.getD (0 + (Int.toNat (w64 (((out_1.length : Nat) : Int) - (1 : Int))))) zGSpan).To < (t32_1.getD (0 + (Int.toNat t34)) zGSpan).To then (t32_1.getD (0 + (Int.toNat t34)) zGSpan).To else (out_1.getD (0 + (Int.toNat (w64 (((out_1.length : Nat) : Int) - (1 : Int))))) zGSpan).To))), t32_1, t33_1, (w64 (t34 + (1 : Int)))))))) else gd (capB (out_1.length + 1) 16) ((some (Sum.inl ((out_1 ++ ([(t32_1.getD (0 + (Int.toNat t34)) zGSpan)] : List GSpan)), t32_1, t33_1, (w64 (t34 + (1 : Int))))))))))) else (some (Sum.inr out_1)))
theorem z64p1ok (out_1 t32_1 : (List GSpan)) (t33_1 t34 : Int) (t32 : (List GSpan)) (t33 : Int) (K : KT) (h : W (spans_Make_p1 out_1 t32_1 t33_1 t34) (nE (z64l2S t32 t33) (z64l2E t32 t33) K)) : EvL Tryz.prog 73 (List.drop 0 z64i2) K (z64p1S out_1 t32_1 t33_1 t34) :=
  EvL.pE mixed (lookC_ok (l := []) trivial) [6, 32, 33, 34, 43, 44, 45, 46, 47, 48, 49, 50, 51] 0 4 (.nf (X := fun K => (bif (decide (t34 < t33_1)) then ((0 : Int) ≤ t34) ∧ (t34 < ((t32_1.length : Nat) : Int)) ∧ ((((decide ((0 : Int) < ((out_1.length : Nat) : Int))) && true) = true → (0 : Int) ≤ (w64 (((out_1.length : Nat) : Int) - (1 : Int)))) ∧ (((decide ((0 : Int) < ((out_1.length : Nat) : Int))) && true) = true → (w64 (((out_1.length : Nat) : Int) - (1 : Int))) < ((out_1.length : Nat) : Int)) ∧ ((bif (bif (decide ((0 : Int) < ((out_1.length : Nat) : Int))) then (decide ((t32_1.getD (0 + (Int.toNat t34)) zGSpan).From ≤ (out_1.getD (0 + (Int.toNat (w64 (((out_1.length : Nat) : Int) - (1 : Int))))) zGSpan).To)) else false) then ((0 : Int) ≤ (w64 (((out_1.length : Nat) : Int) - (1 : Int)))) ∧ ((w64 (((out_1.length : Nat) : Int) - (1 : Int))) < ((out_1.length : Nat) : Int)) ∧ ((0 : Int) ≤ (w64 (((out_1.length : Nat) : Int) - (1 : Int)))) ∧ ((w64 (((out_1.length : Nat) : Int) - (1 : Int))) < ((out_1.length : Nat) : Int)) ∧ (wK K .normal ({ tm := [sv 6 (.row 0 2 0 out_1.length), sv 32 (.row 1 2 0 t32_1.length), sv 33 (i64 t33_1), sv 34 (i64 (w64 (t34 + (1 : Int)))), sv 43 (.c .unk), sv 44 (.c .unk), sv 45 (.c .unk), sv 46 (.c .unk), sv 47 (.c .unk), sv 48 (.c .unk), sv 49 (.c .unk), sv 50 (.c .unk), sv 51 (.c .unk)], hp := [(0, some (.row 34 2 out_1.length (fun q => bif Nat.beq q (0 + (Int.toNat (w64 (((out_1.length : Nat) : Int) - (1 : Int))))) then (eGSpan (GSpan.s_To (out_1.getD (0 + (Int.toNat (w64 (((out_1.length : Nat) : Int) - (1 : Int))))) zGSpan) (if (out_1.getD (0 + (Int.toNat (w64 (((out_1.length : Nat) : Int) - (1 : Int))))) zGSpan).To < (t32_1.getD (0 + (Int.toNat t34)) zGSpan).To then (t32_1.getD (0 + (Int.toNat t34)) zGSpan).To else (out_1.getD (0 + (Int.toNat (w64 (((out_1.length : Nat) : Int) - (1 : Int))))) zGSpan).To))) else (lsEl eGSpan zGSpan out_1) q))), (1, some (.row 34 2 t32_1.length (lsEl eGSpan zGSpan t32_1)))], nx := 2 })) else (out_1.length = out_1.length) ∧ ((out_1.length + 1) * 16 ≤ 140737488355328) ∧ ((out_1.length + 1) ≤ 140737488355328) ∧ (wK K .normal ({ tm := [sv 6 (.row 0 2 0 (out_1.length + 1)), sv 32 (.row 1 2 0 t32_1.length), sv 33 (i64 t33_1), sv 34 (i64 (w64 (t34 + (1 : Int)))), sv 43 (.c .unk), sv 44 (.c .unk), sv 45 (.c .unk), sv 46 (.c .unk), sv 47 (.c .unk), sv 48 (.c .unk), sv 49 (.c .unk), sv 50 (.c .unk), sv 51 (.c .unk)], hp := [(0, some (.row 34 2 (out_1.length + 1) (fun i => bif Nat.blt i out_1.length then (lsEl eGSpan zGSpan out_1) i else (fun i => (litE 2 (eGSpan (t32_1.getD (0 + (Int.toNat t34)) zGSpan))) (0 + i)) (i - out_1.length)))), (1, some (.row 34 2 t32_1.length (lsEl eGSpan zGSpan t32_1)))], nx := 2 }))))) else wK K (.exit 2) ({ tm := [sv 6 (.row 0 2 0 out_1.length), sv 32 (.row 1 2 0 t32_1.length), sv 33 (i64 t33_1), sv 34 (i64 t34)], hp := [(0, some (.row 34 2 out_1.length (lsEl eGSpan zGSpan out_1))), (1, some (.row 34 2 t32_1.length (lsEl eGSpan zGSpan t32_1)))], nx := 2 }))) (fun K => by kernel_rfl) (W_bif h (fun _ h => (W_gd2 h fun hp0 h => (W_gd h fun hp1 h => (W_gd h fun hp2 h => (W_bif h (fun _ h => (W_gd2 h fun hp3 h => (W_gd2 h fun hp4 h => ⟨(z64l2S t32 t33 ((out_1.set (0 + (Int.toNat (w64 (((out_1.length : Nat) : Int) - (1 : Int))))) (GSpan.s_To (out_1.getD (0 + (Int.toNat (w64 (((out_1.length : Nat) : Int) - (1 : Int))))) zGSpan) (if (out_1.getD (0 + (Int.toNat (w64 (((out_1.length : Nat) : Int) - (1 : Int))))) zGSpan).To < (t32_1.getD (0 + (Int.toNat t34)) zGSpan).To then (t32_1.getD (0 + (Int.toNat t34)) zGSpan).To else (out_1.getD (0 + (Int.toNat (w64 (((out_1.length : Nat) : Int) - (1 : Int))))) zGSpan).To))), t32_1, t33_1, (w64 (t34 + (1 : Int))))), (.of (.cons rfl (.rown (len_set rfl)) (.q rfl (.q rfl (.q rfl .nil)))) (.row rfl (RowIs.set (RowIs.ls eGSpan zGSpan out_1) (0 + (Int.toNat (w64 (((out_1.length : Nat) : Int) - (1 : Int))))) (GSpan.s_To (out_1.getD (0 + (Int.toNat (w64 (((out_1.length : Nat) : Int) - (1 : Int))))) zGSpan) (if (out_1.getD (0 + (Int.toNat (w64 (((out_1.length : Nat) : Int) - (1 : Int))))) zGSpan).To < (t32_1.getD (0 + (Int.toNat t34)) zGSpan).To then (t32_1.getD (0 + (Int.toNat t34)) zGSpan).To else (out_1.getD (0 + (Int.toNat (w64 (((out_1.length : Nat) : Int) - (1 : Int))))) zGSpan).To)) rfl) (.same rfl .nil) rfl) rfl), h⟩))) (fun _ h => ⟨rfl, (W_gd2 h fun hp5 h => ⟨(z64l2S t32 t33 ((out_1 ++ ([(t32_1.getD (0 + (Int.toNat t34)) zGSpan)] : List GSpan)), t32_1, t33_1, (w64 (t34 + (1 : Int))))), (.of (.cons rfl (.rown (len_app rfl rfl)) (.q rfl (.q rfl (.q rfl .nil)))) (.row rfl (RowIs.app (RowIs.ls eGSpan zGSpan out_1) (RowIs.zero (RowIs.l1 (enc := eGSpan) (z := zGSpan) 2 (t32_1.getD (0 + (Int.toNat t34)) zGSpan) rfl))) (.same rfl .nil) rfl) rfl), h⟩)⟩)))))) (fun _ h => ⟨(z64l2C0 t32 t33 out_1), (.cn [6]), h⟩)))
noncomputable def spans_Make_l2 (t32 : (List GSpan)) (t33 : Int) (s : ((List GSpan) × (List GSpan) × Int × Int)) : Option (((List GSpan) × (List GSpan) × Int × Int) ⊕ (((List GSpan)))) := match s with | (out_1, t32_1, t33_1, t34) => spans_Make_p1 out_1 t32_1 t33_1 t34
theorem z64l2ok (t32 : (List GSpan)) (t33 : Int) (s : ((List GSpan) × (List GSpan) × Int × Int)) : Pp Tryz.prog 73 (List.drop 0 z64i2) (z64l2S t32 t33 s) (spans_Make_l2 t32 t33 s) (nextE (z64l2S t32 t33) (z64l2E t32 t33)) := fun K h => match s, h with | (out_1, t32_1, t33_1, t34), h => (z64p1ok out_1 t32_1 t33_1 t34 t32 t33 _ h)
theorem z64l2Ethen (t32 : (List GSpan)) (t33 : Int) : ∀ (r : (((List GSpan)))) (J : St → Prop) (K : KT), z64l2E t32 t33 r K → z64l2E t32 t33 r (thenK J K)
  | s, _, _, h => h
def z64p2S (out_3 : (List GSpan)) : St := { tm := [sv 6 (.row 0 2 0 out_3.length)], hp := [(0, some (.row 34 2 out_3.length (lsEl eGSpan zGSpan out_3)))], nx := 1 }
noncomputable def spans_Make_p2 (out_3 : (List GSpan)) : Option ((List GSpan)) := (some out_3)
theorem z64p2ok (out_3 : (List GSpan)) (K : KT) (h : W (spans_Make_p2 out_3) (rE z64R K)) : EvL Tryz.prog 73 (List.drop 8 z64i0) K (z64p2S out_3) :=
  EvL.pE mixed (lookC_ok (l := []) trivial) [2] 8 2 (.nf (X := fun K => wK K .ret (z64R out_3)) (fun K => by kernel_rfl) (⟨_, .refl _, h⟩))
def z64p3S (t32 : (List GSpan)) (t33 : Int) : St := { tm := [sv 6 (.c .nil), sv 32 (.row 0 2 0 t32.length), sv 33 (i64 t33), sv 34 (i64 (0 : Int))], hp := [(0, some (.row 34 2 t32.length (lsEl eGSpan zGSpan t32)))], nx := 1 }
noncomputable def spans_Make_p3_g (t32 : (List GSpan)) (t33 : Int) (r : (((List GSpan)))) : Option ((List GSpan)) := match r with | out_2 => (spans_Make_p2 out_2)
noncomputable def spans_Make_p3 (t32 : (List GSpan)) (t33 : Int) : Option ((List GSpan)) := (fixL (spans_Make_l2 t32 t33) (([] : List GSpan), t32, t33, (0 : Int))).bind (spans_Make_p3_g t32 t33)
theorem z64p3at : List.drop 7 z64i0 = .block 2 (.loop (inside (inside (nthI z64i0 7)))) :: List.drop 8 z64i0 := by kernel_rfl
theorem z64p3k (t32 : (List GSpan)) (t33 : Int) (K : KT) : ∀ r : (((List GSpan))), W (spans_Make_p3_g t32 t33 r) (rE z64R K) → z64l2E t32 t33 r (wK (blockK 2 (thenK (EvL Tryz.prog 73 (List.drop 8 z64i0) K) K)))
  | out_2, h => ⟨(z64p2S out_2), (.refl _), (z64p2ok out_2 _ h)⟩
theorem z64p3ok (t32 : (List GSpan)) (t33 : Int) (K : KT) (h : W (spans_Make_p3 t32 t33) (rE z64R K)) : EvL Tryz.prog 73 (List.drop 7 z64i0) K (z64p3S t32 t33) :=
  EvL.at_ z64p3at (EvL.cons_loop (EvOk.weak (EvOk.ent (.trans (.nilrow 6 1 34 2 (lsEl eGSpan zGSpan []) (Nat.le_of_ble_eq_true rfl) rfl) (.cn [6, 32, 33, 34])) (EvOk.loopF (x := inside (inside (nthI z64i0 7))) (f := spans_Make_l2 t32 t33) (emb := z64l2S t32 t33) (E := z64l2E t32 t33) (z64l2ok t32 t33) (z64l2Ethen t32 t33) (W_loop h (z64p3k t32 t33 K))))))
def z64p4S (sorted_2 : (List GSpan)) : St := { tm := [sv 3 (.ptr 0 1 0 0)], hp := [(0, some (.box [(.row 1 2 0 sorted_2.length)])), (1, some (.row 34 2 sorted_2.length (lsEl eGSpan zGSpan sorted_2)))], nx := 2 }
noncomputable def spans_Make_p4 (sorted_2 : (List GSpan)) : Option ((List GSpan)) := (sort_Slice sorted_2).bind fun r_2 => ((spans_Make_p3 r_2 ((r_2.length : Nat) : Int)))
theorem z64p4nf (sorted_2 : (List GSpan)) (K : KT) (L1_ : List GSpan) (hL1_ : lst dGSpan sorted_2.length (lsEl eGSpan zGSpan sorted_2) = L1_) :
    ev Tryz.prog (lookC [(88, .mut sort_Slice_C)]) 73 (ofItems ((List.drop 4 z64i0).take 3)) (cN [6, 32, 33, 34, 43, 44, 45, 46, 47, 48, 49, 50, 51] K) (z64p4S sorted_2) =
    ((sorted_2.length = sorted_2.length) ∧ (sorted_2.length = sorted_2.length) ∧ (LstOk eGSpan dGSpan 2 2 sorted_2.length (lsEl eGSpan zGSpan sorted_2)) ∧ ((sort_Slice L1_).isSome = true) ∧ (wK K .normal (z64p3S ((sort_Slice L1_).getD ([] : List GSpan)) (((((sort_Slice L1_).getD ([] : List GSpan))).length : Nat) : Int)))) := by subst hL1_; kernel_rfl
theorem z64p4ok (sorted_2 : (List GSpan)) (K : KT) (h : W (spans_Make_p4 sorted_2) (rE z64R K)) : EvL Tryz.prog 73 (List.drop 4 z64i0) K (z64p4S sorted_2) :=
  EvL.pD mixed (lookC_ok (l := [(88, .mut sort_Slice_C)]) ⟨sort_Slice_ok, trivial⟩) [6, 32, 33, 34, 43, 44, 45, 46, 47, 48, 49, 50, 51] 4 3 7 (.of (z64p4nf sorted_2 _ _ (RowIs.lst dGSpan_eGSpan (RowIs.ls eGSpan zGSpan sorted_2))) (⟨(rfl), ⟨(rfl), ⟨RowIs.ok dGSpan_eGSpan (RowIs.ls eGSpan zGSpan sorted_2), (W_bind ([] : List GSpan) h fun hp0 h => ⟨_, .refl _, (z64p3ok ((sort_Slice sorted_2).getD ([] : List GSpan)) (((((sort_Slice sorted_2).getD ([] : List GSpan))).length : Nat) : Int) _ h)⟩)⟩⟩⟩))
def z64p5S (l : (List GSpan)) : St := { tm := [sv 3 (.ptr 0 1 0 0), sv 10 (.c (.sl 2 l.length (lsEl eGSpan zGSpan l))), sv 11 (i64 ((l.length : Nat) : Int)), sv 12 (i64 (0 : Int))], hp := [(0, some (.box [(.c .nil)]))], nx := 1 }
noncomputable def spans_Make_p5_g (l : (List GSpan)) (r : (((List GSpan)))) : Option ((List GSpan)) := match r with | sorted_1 => (spans_Make_p4 sorted_1)
noncomputable def spans_Make_p5 (l : (List GSpan)) : Option ((List GSpan)) := (fixL (spans_Make_l1 l) ((0 : Int), ([] : List GSpan))).bind (spans_Make_p5_g l)
theorem z64p5at : List.drop 3 z64i0 = .block 0 (.loop (inside (inside (nthI z64i0 3)))) :: List.drop 4 z64i0 := by kernel_rfl
theorem z64p5k (l : (List GSpan)) (K : KT) : ∀ r : (((List GSpan))), W (spans_Make_p5_g l r) (rE z64R K) → z64l1E l r (wK (blockK 0 (thenK (EvL Tryz.prog 73 (List.drop 4 z64i0) K) K)))
  | sorted_1, h => ⟨(z64p4S sorted_1), (.refl _), (z64p4ok sorted_1 _ h)⟩
theorem z64p5ok (l : (List GSpan)) (K : KT) (h : W (spans_Make_p5 l) (rE z64R K)) : EvL Tryz.prog 73 (List.drop 3 z64i0) K (z64p5S l) :=
  EvL.at_ z64p5at (EvL.cons_loop (EvOk.weak (EvOk.ent (.trans (.nilbox 0 0 1 34 2 (lsEl eGSpan zGSpan []) [(.c .nil)] (Nat.le_of_ble_eq_true rfl) rfl rfl) (.cn [3, 10, 11, 12])) (EvOk.loopF (x := inside (inside (nthI z64i0 3))) (f := spans_Make_l1 l) (emb := z64l1S l) (E := z64l1E l) (z64l1ok l) (z64l1Ethen l) (W_loop h (z64p5k l K))))))
def z64p6S (l : (List GSpan)) : St := { tm := [sv 0 (.c (.sl 2 l.length (lsEl eGSpan zGSpan l)))], hp := [], nx := 0 }
noncomputable def spans_Make_p6 (l : (List GSpan)) : Option ((List GSpan)) := (spans_Make_p5 l)
theorem z64p6ok (l : (List GSpan)) (K : KT) (h : W (spans_Make_p6 l) (rE z64R K)) : EvL Tryz.prog 73 (List.drop 0 z64i0) K (z64p6S l) :=
  EvL.pD mixed (lookC_ok (l := []) trivial) [3, 10, 11, 12, 43, 44, 45, 46, 47, 48, 49, 50, 51] 0 3 3 (.nf (X := fun K => wK K .normal (z64p5S l)) (fun K => by kernel_rfl) (⟨_, .refl _, (z64p5ok l _ h)⟩))
noncomputable def spans_Make (l : (List GSpan)) : Option ((List GSpan)) := spans_Make_p6 l
theorem z64run (l : (List GSpan)) (y_ : (List GSpan)) (h : spans_Make l = some y_) : EvL Tryz.prog 73 (items (bodyOf Tryz.f64)) (retK Tryz.prog [.tmp 2] (OutOk (spans_Make_out y_))) (z64p6S l) :=
  z64p6ok l _ (W_iff.2 ⟨y_, h, z64Rok y_⟩)
noncomputable def spans_Make_C : Con
  | [(.c (.sl k1 n2 e3))] => some ([LstOk eGSpan dGSpan 2 k1 n2 e3, (spans_Make (lst dGSpan n2 e3)).isSome = true], (spans_Make_out ((spans_Make (lst dGSpan n2 e3)).getD ([] : List GSpan))))
  | _ => none
theorem spans_Make_ok : Meets Tryz.prog 64 spans_Make_C := by
  refine meets_fun (fn := Tryz.f64) (c := bodyOf Tryz.f64) (by kernel_rfl) (by kernel_rfl) (by kernel_rfl) (rs := [.tmp 2]) (by kernel_rfl) (nt := 73) (by kernel_rfl) fun vs p out h hp => ?_
  unfold spans_Make_C at h
  split at h
  · next k1 n2 e3 =>
    cases h
    obtain ⟨g0, hp⟩ := allq hp
    obtain ⟨g, hp⟩ := allq hp
    obtain ⟨x, hx⟩ := Option.isSome_iff_exists.1 g
    rw [hx]
    exact ⟨[(.c (.sl 2 ((lst dGSpan n2 e3)).length (lsEl eGSpan zGSpan (lst dGSpan n2 e3))))], (VLes.cons (VLe.slk g0.1 (RowIs.of_ok g0)) VLes.nil), rfl, z64run (lst dGSpan n2 e3) x hx⟩
  · cases h

end Go.Ax
