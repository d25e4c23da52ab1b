import Derived.Test.YtefjkielgagknaaGreatF2
import Derived.Test.YtefjkielgagknaaGreatLay
import Derived.Test.YtefjkielgagknaaGreatRows
/- Types of the program, and functions of it: printed by a program, checked by the kernel. -/
set_option linter.all false
set_option maxRecDepth 100000
namespace Go.Ax
open Go.Proofs Go.Proofs.YtefjkielgagknaaGreat
noncomputable def z58i0 : List Code := items (bodyOf Tryz.f58)
def fact_Uses_out (x_1 : ByteArray) : Out := .data (str x_1)
def z58R (x_1 : ByteArray) : St := { tm := [sv 2 (str x_1)], hp := [], nx := 0 }
theorem z58Rok (x_1 : ByteArray) : retK Tryz.prog [.tmp 2] (OutOk (fact_Uses_out x_1)) .ret (z58R x_1) :=
  retK.intro (v := (str x_1)) (by kernel_rfl) ((VLe.rfl' _))
def z58p0S : St := { tm := [], hp := [], nx := 0 }
noncomputable def fact_Uses_p0 : Option (ByteArray) := (some (bstr []))
theorem z58p0ok (K : KT) (h : W (fact_Uses_p0) (rE z58R K)) : EvL Tryz.prog 26 (List.drop 3 z58i0) K (z58p0S) :=
  EvL.pE mixed (lookC_ok (l := []) trivial) [2] 3 2 (.nf (X := fun K => wK K .ret (z58R (bstr []))) (fun K => by kernel_rfl) (⟨_, .refl _, h⟩))
def z58p1S (kind : Int) : St := { tm := [sv 0 (i64 kind)], hp := [], nx := 0 }
noncomputable def fact_Uses_p1 (kind : Int) : Option (ByteArray) := (bif (kind == (1 : Int)) then (some (bstr [83, 80, 84, 72, 67, 65])) else (bif (kind == (2 : Int)) then (bif (kind == (2 : Int)) then (some (bstr [83, 80, 72, 67, 65])) else (bif (kind == (4 : Int)) then (some (bstr [83, 80, 84])) else (bif (kind == (5 : Int)) then (bif (kind == (5 : Int)) then (some (bstr [83, 80])) else (bif (kind == (6 : Int)) then (some (bstr [83, 80, 67, 65])) else (bif (kind == (10 : Int)) then (some (bstr [83, 80, 82])) else (bif (kind == (11 : Int)) then (bif (kind == (11 : Int)) then (some (bstr [80])) else (bif (kind == (14 : Int)) then (some (bstr [80, 82])) else fact_Uses_p0)) else (bif (kind == (12 : Int)) then (bif (kind == (12 : Int)) then (some (bstr [80])) else (bif (kind == (14 : Int)) then (some (bstr [80, 82])) else fact_Uses_p0)) else (bif (kind == (13 : Int)) then (some (bstr [80])) else (bif (kind == (14 : Int)) then (some (bstr [80, 82])) else fact_Uses_p0))))))) else (bif (kind == (7 : Int)) then (bif (kind == (7 : Int)) then (some (bstr [83, 80])) else (bif (kind == (6 : Int)) then (some (bstr [83, 80, 67, 65])) else (bif (kind == (10 : Int)) then (some (bstr [83, 80, 82])) else (bif (kind == (11 : Int)) then (bif (kind == (11 : Int)) then (some (bstr [80])) else (bif (kind == (14 : Int)) then (some (bstr [80, 82])) else fact_Uses_p0)) else (bif (kind == (12 : Int)) then (bif (kind == (12 : Int)) then (some (bstr [80])) else (bif (kind == (14 : Int)) then (some (bstr [80, 82])) else fact_Uses_p0)) else (bif (kind == (13 : Int)) then (some (bstr [80])) else (bif (kind == (14 : Int)) then (some (bstr [80, 82])) else fact_Uses_p0))))))) else (bif (kind == (8 : Int)) then (bif (kind == (8 : Int)) then (some (bstr [83, 80])) else (bif (kind == (6 : Int)) then (some (bstr [83, 80, 67, 65])) else (bif (kind == (10 : Int)) then (some (bstr [83, 80, 82])) else (bif (kind == (11 : Int)) then (bif (kind == (11 : Int)) then (some (bstr [80])) else (bif (kind == (14 : Int)) then (some (bstr [80, 82])) else fact_Uses_p0)) else (bif (kind == (12 : Int)) then (bif (kind == (12 : Int)) then (some (bstr [80])) else (bif (kind == (14 : Int)) then (some (bstr [80, 82])) else fact_Uses_p0)) else (bif (kind == (13 : Int)) then (some (bstr [80])) else (bif (kind == (14 : Int)) then (some (bstr [80, 82])) else fact_Uses_p0))))))) else (bif (kind == (9 : Int)) then (some (bstr [83, 80])) else (bif (kind == (6 : Int)) then (some (bstr [83, 80, 67, 65])) else (bif (kind == (10 : Int)) then (some (bstr [83, 80, 82])) else (bif (kind == (11 : Int)) then (bif (kind == (11 : Int)) then (some (bstr [80])) else (bif (kind == (14 : Int)) then (some (bstr [80, 82])) else fact_Uses_p0)) else (bif (kind == (12 : Int)) then (bif (kind == (12 : Int)) then (some (bstr [80])) else (bif (kind == (14 : Int)) then (some (bstr [80, 82])) else fact_Uses_p0)) else (bif (kind == (13 : Int)) then (some (bstr [80])) else (bif (kind == (14 : Int)) then (some (bstr [80, 82])) else fact_Uses_p0)))))))))))) else (bif (kind == (3 : Int)) then (some (bstr [83, 80, 72, 67, 65])) else (bif (kind == (4 : Int)) then (some (bstr [83, 80, 84])) else (bif (kind == (5 : Int)) then (bif (kind == (5 : Int)) then (some (bstr [83, 80])) else (bif (kind == (6 : Int)) then (some (bstr [83, 80, 67, 65])) else (bif (kind == (10 : Int)) then (some (bstr [83, 80, 82])) else (bif (kind == (11 : Int)) then (bif (kind == (11 : Int)) then (some (bstr [80])) else (bif (kind == (14 : Int)) then (some (bstr [80, 82])) else fact_Uses_p0)) else (bif (kind == (12 : Int)) then (bif (kind == (12 : Int)) then (some (bstr [80])) else (bif (kind == (14 : Int)) then (some (bstr [80, 82])) else fact_Uses_p0)) else (bif (kind == (13 : Int)) then (some (bstr [80])) else (bif (kind == (14 : Int)) then (some (bstr [80, 82])) else fact_Uses_p0))))))) else (bif (kind == (7 : Int)) then (bif (kind == (7 : Int)) then (some (bstr [83, 80])) else (bif (kind == (6 : Int)) then (some (bstr [83, 80, 67, 65])) else (bif (kind == (10 : Int)) then (some (bstr [83, 80, 82])) else (bif (kind == (11 : Int)) then (bif (kind == (11 : Int)) then (some (bstr [80])) else (bif (kind == (14 : Int)) then (some (bstr [80, 82])) else fact_Uses_p0)) else (bif (kind == (12 : Int)) then (bif (kind == (12 : Int)) then (some (bstr [80])) else (bif (kind == (14 : Int)) then (some (bstr [80, 82])) else fact_Uses_p0)) else (bif (kind == (13 : Int)) then (some (bstr [80])) else (bif (kind == (14 : Int)) then (some (bstr [80, 82])) else fact_Uses_p0))))))) else (bif (kind == (8 : Int)) then (bif (kind == (8 : Int)) then (some (bstr [83, 80])) else (bif (kind == (6 : Int)) then (some (bstr [83, 80, 67, 65])) else (bif (kind == (10 : Int)) then (some (bstr [83, 80, 82])) else (bif (kind == (11 : Int)) then (bif (kind == (11 : Int)) then (some (bstr [80])) else (bif (kind == (14 : Int)) then (some (bstr [80, 82])) else fact_Uses_p0)) else (bif (kind == (12 : Int)) then (bif (kind == (12 : Int)) then (some (bstr [80])) else (bif (kind == (14 : Int)) then (some (bstr [80, 82])) else fact_Uses_p0)) else (bif (kind == (13 : Int)) then (some (bstr [80])) else (bif (kind == (14 : Int)) then (some (bstr [80, 82])) else fact_Uses_p0))))))) else (bif (kind == (9 : Int)) then (some (bstr [83, 80])) else (bif (kind == (6 : Int)) then (some (bstr [83, 80, 67, 65])) else (bif (kind == (10 : Int)) then (some (bstr [83, 80, 82])) else (bif (kind == (11 : Int)) then (bif (kind == (11 : Int)) then (some (bstr [80])) else (bif (kind == (14 : Int)) then (some (bstr [80, 82])) else fact_Uses_p0)) else (bif (kind == (12 : Int)) then (bif (kind == (12 : Int)) then (some (bstr [80])) else (bif (kind == (14 : Int)) then (some (bstr [80, 82])) else fact_Uses_p0)) else (bif (kind == (13 : Int)) then (some (bstr [80])) else (bif (kind == (14 : Int)) then (some (bstr [80, 82])) else fact_Uses_p0))))))))))))))
theorem z58p1ok (kind : Int) (K : KT) (h : W (fact_Uses_p1 kind) (rE z58R K)) : EvL Tryz.prog 26 (List.drop 0 z58i0) K (z58p1S kind) :=
  EvL.pD mixed (lookC_ok (l := []) trivial) [2] 0 3 3 (.nf (X := fun K => (bif (kind == (1 : Int)) then wK K .ret (z58R (bstr [83, 80, 84, 72, 67, 65])) else (bif (kind == (2 : Int)) then (bif (kind == (2 : Int)) then wK K .ret (z58R (bstr [83, 80, 72, 67, 65])) else (bif (kind == (4 : Int)) then wK K .ret (z58R (bstr [83, 80, 84])) else (bif (kind == (5 : Int)) then (bif (kind == (5 : Int)) then wK K .ret (z58R (bstr [83, 80])) else (bif (kind == (6 : Int)) then wK K .ret (z58R (bstr [83, 80, 67, 65])) else (bif (kind == (10 : Int)) then wK K .ret (z58R (bstr [83, 80, 82])) else (bif (kind == (11 : Int)) then (bif (kind == (11 : Int)) then wK K .ret (z58R (bstr [80])) else (bif (kind == (14 : Int)) then wK K .ret (z58R (bstr [80, 82])) else wK K .normal ({ tm := [sv 2 (str (bstr []))], hp := [], nx := 0 }))) else (bif (kind == (12 : Int)) then (bif (kind == (12 : Int)) then wK K .ret (z58R (bstr [80])) else (bif (kind == (14 : Int)) then wK K .ret (z58R (bstr [80, 82])) else wK K .normal ({ tm := [sv 2 (str (bstr []))], hp := [], nx := 0 }))) else (bif (kind == (13 : Int)) then wK K .ret (z58R (bstr [80])) else (bif (kind == (14 : Int)) then wK K .ret (z58R (bstr [80, 82])) else wK K .normal ({ tm := [sv 2 (str (bstr []))], hp := [], nx := 0 })))))))) else (bif (kind == (7 : Int)) then (bif (kind == (7 : Int)) then wK K .ret (z58R (bstr [83, 80])) else (bif (kind == (6 : Int)) then wK K .ret (z58R (bstr [83, 80, 67, 65])) else (bif (kind == (10 : Int)) then wK K .ret (z58R (bstr [83, 80, 82])) else (bif (kind == (11 : Int)) then (bif (kind == (11 : Int)) then wK K .ret (z58R (bstr [80])) else (bif (kind == (14 : Int)) then wK K .ret (z58R (bstr [80, 82])) else wK K .normal ({ tm := [sv 2 (str (bstr []))], hp := [], nx := 0 }))) else (bif (kind == (12 : Int)) then (bif (kind == (12 : Int)) then wK K .ret (z58R (bstr [80])) else (bif (kind == (14 : Int)) then wK K .ret (z58R (bstr [80, 82])) else wK K .normal ({ tm := [sv 2 (str (bstr []))], hp := [], nx := 0 }))) else (bif (kind == (13 : Int)) then wK K .ret (z58R (bstr [80])) else (bif (kind == (14 : Int)) then wK K .ret (z58R (bstr [80, 82])) else wK K .normal ({ tm := [sv 2 (str (bstr []))], hp := [], nx := 0 })))))))) else (bif (kind == (8 : Int)) then (bif (kind == (8 : Int)) then wK K .ret (z58R (bstr [83, 80])) else (bif (kind == (6 : Int)) then wK K .ret (z58R (bstr [83, 80, 67, 65])) else (bif (kind == (10 : Int)) then wK K .ret (z58R (bstr [83, 80, 82])) else (bif (kind == (11 : Int)) then (bif (kind == (11 : Int)) then wK K .ret (z58R (bstr [80])) else (bif (kind == (14 : Int)) then wK K .ret (z58R (bstr [80, 82])) else wK K .normal ({ tm := [sv 2 (str (bstr []))], hp := [], nx := 0 }))) else (bif (kind == (12 : Int)) then (bif (kind == (12 : Int)) then wK K .ret (z58R (bstr [80])) else (bif (kind == (14 : Int)) then wK K .ret (z58R (bstr [80, 82])) else wK K .normal ({ tm := [sv 2 (str (bstr []))], hp := [], nx := 0 }))) else (bif (kind == (13 : Int)) then wK K .ret (z58R (bstr [80])) else (bif (kind == (14 : Int)) then wK K .ret (z58R (bstr [80, 82])) else wK K .normal ({ tm := [sv 2 (str (bstr []))], hp := [], nx := 0 })))))))) else (bif (kind == (9 : Int)) then wK K .ret (z58R (bstr [83, 80])) else (bif (kind == (6 : Int)) then wK K .ret (z58R (bstr [83, 80, 67, 65])) else (bif (kind == (10 : Int)) then wK K .ret (z58R (bstr [83, 80, 82])) else (bif (kind == (11 : Int)) then (bif (kind == (11 : Int)) then wK K .ret (z58R (bstr [80])) else (bif (kind == (14 : Int)) then wK K .ret (z58R (bstr [80, 82])) else wK K .normal ({ tm := [sv 2 (str (bstr []))], hp := [], nx := 0 }))) else (bif (kind == (12 : Int)) then (bif (kind == (12 : Int)) then wK K .ret (z58R (bstr [80])) else (bif (kind == (14 : Int)) then wK K .ret (z58R (bstr [80, 82])) else wK K .normal ({ tm := [sv 2 (str (bstr []))], hp := [], nx := 0 }))) else (bif (kind == (13 : Int)) then wK K .ret (z58R (bstr [80])) else (bif (kind == (14 : Int)) then wK K .ret (z58R (bstr [80, 82])) else wK K .normal ({ tm := [sv 2 (str (bstr []))], hp := [], nx := 0 }))))))))))))) else (bif (kind == (3 : Int)) then wK K .ret (z58R (bstr [83, 80, 72, 67, 65])) else (bif (kind == (4 : Int)) then wK K .ret (z58R (bstr [83, 80, 84])) else (bif (kind == (5 : Int)) then (bif (kind == (5 : Int)) then wK K .ret (z58R (bstr [83, 80])) else (bif (kind == (6 : Int)) then wK K .ret (z58R (bstr [83, 80, 67, 65])) else (bif (kind == (10 : Int)) then wK K .ret (z58R (bstr [83, 80, 82])) else (bif (kind == (11 : Int)) then (bif (kind == (11 : Int)) then wK K .ret (z58R (bstr [80])) else (bif (kind == (14 : Int)) then wK K .ret (z58R (bstr [80, 82])) else wK K .normal ({ tm := [sv 2 (str (bstr []))], hp := [], nx := 0 }))) else (bif (kind == (12 : Int)) then (bif (kind == (12 : Int)) then wK K .ret (z58R (bstr [80])) else (bif (kind == (14 : Int)) then wK K .ret (z58R (bstr [80, 82])) else wK K .normal ({ tm := [sv 2 (str (bstr []))], hp := [], nx := 0 }))) else (bif (kind == (13 : Int)) then wK K .ret (z58R (bstr [80])) else (bif (kind == (14 : Int)) then wK K .ret (z58R (bstr [80, 82])) else wK K .normal ({ tm := [sv 2 (str (bstr []))], hp := [], nx := 0 })))))))) else (bif (kind == (7 : Int)) then (bif (kind == (7 : Int)) then wK K .ret (z58R (bstr [83, 80])) else (bif (kind == (6 : Int)) then wK K .ret (z58R (bstr [83, 80, 67, 65])) else (bif (kind == (10 : Int)) then wK K .ret (z58R (bstr [83, 80, 82])) else (bif (kind == (11 : Int)) then (bif (kind == (11 : Int)) then wK K .ret (z58R (bstr [80])) else (bif (kind == (14 : Int)) then wK K .ret (z58R (bstr [80, 82])) else wK K .normal ({ tm := [sv 2 (str (bstr []))], hp := [], nx := 0 }))) else (bif (kind == (12 : Int)) then (bif (kind == (12 : Int)) then wK K .ret (z58R (bstr [80])) else (bif (kind == (14 : Int)) then wK K .ret (z58R (bstr [80, 82])) else wK K .normal ({ tm := [sv 2 (str (bstr []))], hp := [], nx := 0 }))) else (bif (kind == (13 : Int)) then wK K .ret (z58R (bstr [80])) else (bif (kind == (14 : Int)) then wK K .ret (z58R (bstr [80, 82])) else wK K .normal ({ tm := [sv 2 (str (bstr []))], hp := [], nx := 0 })))))))) else (bif (kind == (8 : Int)) then (bif (kind == (8 : Int)) then wK K .ret (z58R (bstr [83, 80])) else (bif (kind == (6 : Int)) then wK K .ret (z58R (bstr [83, 80, 67, 65])) else (bif (kind == (10 : Int)) then wK K .ret (z58R (bstr [83, 80, 82])) else (bif (kind == (11 : Int)) then (bif (kind == (11 : Int)) then wK K .ret (z58R (bstr [80])) else (bif (kind == (14 : Int)) then wK K .ret (z58R (bstr [80, 82])) else wK K .normal ({ tm := [sv 2 (str (bstr []))], hp := [], nx := 0 }))) else (bif (kind == (12 : Int)) then (bif (kind == (12 : Int)) then wK K .ret (z58R (bstr [80])) else (bif (kind == (14 : Int)) then wK K .ret (z58R (bstr [80, 82])) else wK K .normal ({ tm := [sv 2 (str (bstr []))], hp := [], nx := 0 }))) else (bif (kind == (13 : Int)) then wK K .ret (z58R (bstr [80])) else (bif (kind == (14 : Int)) then wK K .ret (z58R (bstr [80, 82])) else wK K .normal ({ tm := [sv 2 (str (bstr []))], hp := [], nx := 0 })))))))) else (bif (kind == (9 : Int)) then wK K .ret (z58R (bstr [83, 80])) else (bif (kind == (6 : Int)) then wK K .ret (z58R (bstr [83, 80, 67, 65])) else (bif (kind == (10 : Int)) then wK K .ret (z58R (bstr [83, 80, 82])) else (bif (kind == (11 : Int)) then (bif (kind == (11 : Int)) then wK K .ret (z58R (bstr [80])) else (bif (kind == (14 : Int)) then wK K .ret (z58R (bstr [80, 82])) else wK K .normal ({ tm := [sv 2 (str (bstr []))], hp := [], nx := 0 }))) else (bif (kind == (12 : Int)) then (bif (kind == (12 : Int)) then wK K .ret (z58R (bstr [80])) else (bif (kind == (14 : Int)) then wK K .ret (z58R (bstr [80, 82])) else wK K .normal ({ tm := [sv 2 (str (bstr []))], hp := [], nx := 0 }))) else (bif (kind == (13 : Int)) then wK K .ret (z58R (bstr [80])) else (bif (kind == (14 : Int)) then wK K .ret (z58R (bstr [80, 82])) else wK K .normal ({ tm := [sv 2 (str (bstr []))], hp := [], nx := 0 })))))))))))))))) (fun K => by kernel_rfl) (W_bif h (fun _ h => ⟨_, .refl _, h⟩) (fun _ h => (W_bif h (fun _ h => (W_bif h (fun _ h => ⟨_, .refl _, h⟩) (fun _ h => (W_bif h (fun _ h => ⟨_, .refl _, h⟩) (fun _ h => (W_bif h (fun _ h => (W_bif h (fun _ h => ⟨_, .refl _, h⟩) (fun _ h => (W_bif h (fun _ h => ⟨_, .refl _, h⟩) (fun _ h => (W_bif h (fun _ h => ⟨_, .refl _, h⟩) (fun _ h => (W_bif h (fun _ h => (W_bif h (fun _ h => ⟨_, .refl _, h⟩) (fun _ h => (W_bif h (fun _ h => ⟨_, .refl _, h⟩) (fun _ h => ⟨(z58p0S), (.of .nil .nil rfl), (z58p0ok _ h)⟩))))) (fun _ h => (W_bif h (fun _ h => (W_bif h (fun _ h => ⟨_, .refl _, h⟩) (fun _ h => (W_bif h (fun _ h => ⟨_, .refl _, h⟩) (fun _ h => ⟨(z58p0S), (.of .nil .nil rfl), (z58p0ok _ h)⟩))))) (fun _ h => (W_bif h (fun _ h => ⟨_, .refl _, h⟩) (fun _ h => (W_bif h (fun _ h => ⟨_, .refl _, h⟩) (fun _ h => ⟨(z58p0S), (.of .nil .nil rfl), (z58p0ok _ h)⟩))))))))))))))) (fun _ h => (W_bif h (fun _ h => (W_bif h (fun _ h => ⟨_, .refl _, h⟩) (fun _ h => (W_bif h (fun _ h => ⟨_, .refl _, h⟩) (fun _ h => (W_bif h (fun _ h => ⟨_, .refl _, h⟩) (fun _ h => (W_bif h (fun _ h => (W_bif h (fun _ h => ⟨_, .refl _, h⟩) (fun _ h => (W_bif h (fun _ h => ⟨_, .refl _, h⟩) (fun _ h => ⟨(z58p0S), (.of .nil .nil rfl), (z58p0ok _ h)⟩))))) (fun _ h => (W_bif h (fun _ h => (W_bif h (fun _ h => ⟨_, .refl _, h⟩) (fun _ h => (W_bif h (fun _ h => ⟨_, .refl _, h⟩) (fun _ h => ⟨(z58p0S), (.of .nil .nil rfl), (z58p0ok _ h)⟩))))) (fun _ h => (W_bif h (fun _ h => ⟨_, .refl _, h⟩) (fun _ h => (W_bif h (fun _ h => ⟨_, .refl _, h⟩) (fun _ h => ⟨(z58p0S), (.of .nil .nil rfl), (z58p0ok _ h)⟩))))))))))))))) (fun _ h => (W_bif h (fun _ h => (W_bif h (fun _ h => ⟨_, .refl _, h⟩) (fun _ h => (W_bif h (fun _ h => ⟨_, .refl _, h⟩) (fun _ h => (W_bif h (fun _ h => ⟨_, .refl _, h⟩) (fun _ h => (W_bif h (fun _ h => (W_bif h (fun _ h => ⟨_, .refl _, h⟩) (fun _ h => (W_bif h (fun _ h => ⟨_, .refl _, h⟩) (fun _ h => ⟨(z58p0S), (.of .nil .nil rfl), (z58p0ok _ h)⟩))))) (fun _ h => (W_bif h (fun _ h => (W_bif h (fun _ h => ⟨_, .refl _, h⟩) (fun _ h => (W_bif h (fun _ h => ⟨_, .refl _, h⟩) (fun _ h => ⟨(z58p0S), (.of .nil .nil rfl), (z58p0ok _ h)⟩))))) (fun _ h => (W_bif h (fun _ h => ⟨_, .refl _, h⟩) (fun _ h => (W_bif h (fun _ h => ⟨_, .refl _, h⟩) (fun _ h => ⟨(z58p0S), (.of .nil .nil rfl), (z58p0ok _ h)⟩))))))))))))))) (fun _ h => (W_bif h (fun _ h => ⟨_, .refl _, h⟩) (fun _ h => (W_bif h (fun _ h => ⟨_, .refl _, h⟩) (fun _ h => (W_bif h (fun _ h => ⟨_, .refl _, h⟩) (fun _ h => (W_bif h (fun _ h => (W_bif h (fun _ h => ⟨_, .refl _, h⟩) (fun _ h => (W_bif h (fun _ h => ⟨_, .refl _, h⟩) (fun _ h => ⟨(z58p0S), (.of .nil .nil rfl), (z58p0ok _ h)⟩))))) (fun _ h => (W_bif h (fun _ h => (W_bif h (fun _ h => ⟨_, .refl _, h⟩) (fun _ h => (W_bif h (fun _ h => ⟨_, .refl _, h⟩) (fun _ h => ⟨(z58p0S), (.of .nil .nil rfl), (z58p0ok _ h)⟩))))) (fun _ h => (W_bif h (fun _ h => ⟨_, .refl _, h⟩) (fun _ h => (W_bif h (fun _ h => ⟨_, .refl _, h⟩) (fun _ h => ⟨(z58p0S), (.of .nil .nil rfl), (z58p0ok _ h)⟩))))))))))))))))))))))))) (fun _ h => (W_bif h (fun _ h => ⟨_, .refl _, h⟩) (fun _ h => (W_bif h (fun _ h => ⟨_, .refl _, h⟩) (fun _ h => (W_bif h (fun _ h => (W_bif h (fun _ h => ⟨_, .refl _, h⟩) (fun _ h => (W_bif h (fun _ h => ⟨_, .refl _, h⟩) (fun _ h => (W_bif h (fun _ h => ⟨_, .refl _, h⟩) (fun _ h => (W_bif h (fun _ h => (W_bif h (fun _ h => ⟨_, .refl _, h⟩) (fun _ h => (W_bif h (fun _ h => ⟨_, .refl _, h⟩) (fun _ h => ⟨(z58p0S), (.of .nil .nil rfl), (z58p0ok _ h)⟩))))) (fun _ h => (W_bif h (fun _ h => (W_bif h (fun _ h => ⟨_, .refl _, h⟩) (fun _ h => (W_bif h (fun _ h => ⟨_, .refl _, h⟩) (fun _ h => ⟨(z58p0S), (.of .nil .nil rfl), (z58p0ok _ h)⟩))))) (fun _ h => (W_bif h (fun _ h => ⟨_, .refl _, h⟩) (fun _ h => (W_bif h (fun _ h => ⟨_, .refl _, h⟩) (fun _ h => ⟨(z58p0S), (.of .nil .nil rfl), (z58p0ok _ h)⟩))))))))))))))) (fun _ h => (W_bif h (fun _ h => (W_bif h (fun _ h => ⟨_, .refl _, h⟩) (fun _ h => (W_bif h (fun _ h => ⟨_, .refl _, h⟩) (fun _ h => (W_bif h (fun _ h => ⟨_, .refl _, h⟩) (fun _ h => (W_bif h (fun _ h => (W_bif h (fun _ h => ⟨_, .refl _, h⟩) (fun _ h => (W_bif h (fun _ h => ⟨_, .refl _, h⟩) (fun _ h => ⟨(z58p0S), (.of .nil .nil rfl), (z58p0ok _ h)⟩))))) (fun _ h => (W_bif h (fun _ h => (W_bif h (fun _ h => ⟨_, .refl _, h⟩) (fun _ h => (W_bif h (fun _ h => ⟨_, .refl _, h⟩) (fun _ h => ⟨(z58p0S), (.of .nil .nil rfl), (z58p0ok _ h)⟩))))) (fun _ h => (W_bif h (fun _ h => ⟨_, .refl _, h⟩) (fun _ h => (W_bif h (fun _ h => ⟨_, .refl _, h⟩) (fun _ h => ⟨(z58p0S), (.of .nil .nil rfl), (z58p0ok _ h)⟩))))))))))))))) (fun _ h => (W_bif h (fun _ h => (W_bif h (fun _ h => ⟨_, .refl _, h⟩) (fun _ h => (W_bif h (fun _ h => ⟨_, .refl _, h⟩) (fun _ h => (W_bif h (fun _ h => ⟨_, .refl _, h⟩) (fun _ h => (W_bif h (fun _ h => (W_bif h (fun _ h => ⟨_, .refl _, h⟩) (fun _ h => (W_bif h (fun _ h => ⟨_, .refl _, h⟩) (fun _ h => ⟨(z58p0S), (.of .nil .nil rfl), (z58p0ok _ h)⟩))))) (fun _ h => (W_bif h (fun _ h => (W_bif h (fun _ h => ⟨_, .refl _, h⟩) (fun _ h => (W_bif h (fun _ h => ⟨_, .refl _, h⟩) (fun _ h => ⟨(z58p0S), (.of .nil .nil rfl), (z58p0ok _ h)⟩))))) (fun _ h => (W_bif h (fun _ h => ⟨_, .refl _, h⟩) (fun _ h => (W_bif h (fun _ h => ⟨_, .refl _, h⟩) (fun _ h => ⟨(z58p0S), (.of .nil .nil rfl), (z58p0ok _ h)⟩))))))))))))))) (fun _ h => (W_bif h (fun _ h => ⟨_, .refl _, h⟩) (fun _ h => (W_bif h (fun _ h => ⟨_, .refl _, h⟩) (fun _ h => (W_bif h (fun _ h => ⟨_, .refl _, h⟩) (fun _ h => (W_bif h (fun _ h => (W_bif h (fun _ h => ⟨_, .refl _, h⟩) (fun _ h => (W_bif h (fun _ h => ⟨_, .refl _, h⟩) (fun _ h => ⟨(z58p0S), (.of .nil .nil rfl), (z58p0ok _ h)⟩))))) (fun _ h => (W_bif h (fun _ h => (W_bif h (fun _ h => ⟨_, .refl _, h⟩) (fun _ h => (W_bif h (fun _ h => ⟨_, .refl _, h⟩) (fun _ h => ⟨(z58p0S), (.of .nil .nil rfl), (z58p0ok _ h)⟩))))) (fun _ h => (W_bif h (fun _ h => ⟨_, .refl _, h⟩) (fun _ h => (W_bif h (fun _ h => ⟨_, .refl _, h⟩) (fun _ h => ⟨(z58p0S), (.of .nil .nil rfl), (z58p0ok _ h)⟩)))))))))))))))))))))))))))))
noncomputable def fact_Uses (kind : Int) : Option (ByteArray) := fact_Uses_p1 kind
theorem z58run (kind : Int) (y_ : ByteArray) (h : fact_Uses kind = some y_) : EvL Tryz.prog 26 (items (bodyOf Tryz.f58)) (retK Tryz.prog [.tmp 2] (OutOk (fact_Uses_out y_))) (z58p1S kind) :=
  z58p1ok kind _ (W_iff.2 ⟨y_, h, z58Rok y_⟩)
noncomputable def fact_Uses_C : Con
  | [(.c (.lit (.int .i64 a1)))] => some ([(fact_Uses a1).isSome = true], (fact_Uses_out ((fact_Uses a1).getD (bstr []))))
  | _ => none
theorem fact_Uses_ok : Meets Tryz.prog 58 fact_Uses_C := by
  refine meets_fun (fn := Tryz.f58) (c := bodyOf Tryz.f58) (by kernel_rfl) (by kernel_rfl) (by kernel_rfl) (rs := [.tmp 2]) (by kernel_rfl) (nt := 26) (by kernel_rfl) fun vs p out h hp => ?_
  unfold fact_Uses_C at h
  split at h
  · next a1 =>
    cases h
    obtain ⟨g, hp⟩ := allq hp
    obtain ⟨x, hx⟩ := Option.isSome_iff_exists.1 g
    rw [hx]
    exact ⟨[(i64 a1)], (VLes.cons (VLe.rfl' _) VLes.nil), rfl, z58run a1 x hx⟩
  · cases h

noncomputable def z61i0 : List Code := items (bodyOf Tryz.f61)
def fact_within_out (x_2 : Bool) : Out := .data (bl x_2)
def z61R (x_2 : Bool) : St := { tm := [sv 6 (bl x_2)], hp := [], nx := 0 }
theorem z61Rok (x_2 : Bool) : retK Tryz.prog [.tmp 6] (OutOk (fact_within_out x_2)) .ret (z61R x_2) :=
  retK.intro (v := (bl x_2)) (by kernel_rfl) ((VLe.rfl' _))
def z61p0S (x_1 low high : Int) : St := { tm := [sv 0 (i64 x_1), sv 1 (i64 low), sv 2 (i64 high)], hp := [], nx := 0 }
noncomputable def fact_within_p0 (x_1 low high : Int) : Option (Bool) := (some (bif (decide (low ≤ x_1)) then (decide (x_1 ≤ high)) else false))
theorem z61p0ok (x_1 low high : Int) (K : KT) (h : W (fact_within_p0 x_1 low high) (rE z61R K)) : EvL Tryz.prog 15 (List.drop 0 z61i0) K (z61p0S x_1 low high) :=
  EvL.pE mixed (lookC_ok (l := []) trivial) [6] 0 3 (.nf (X := fun K => wK K .ret (z61R (bif (decide (low ≤ x_1)) then (decide (x_1 ≤ high)) else false))) (fun K => by kernel_rfl) (⟨_, .refl _, h⟩))
noncomputable def fact_within (x_1 low high : Int) : Option (Bool) := fact_within_p0 x_1 low high
theorem z61run (x_1 low high : Int) (y_ : Bool) (h : fact_within x_1 low high = some y_) : EvL Tryz.prog 15 (items (bodyOf Tryz.f61)) (retK Tryz.prog [.tmp 6] (OutOk (fact_within_out y_))) (z61p0S x_1 low high) :=
  z61p0ok x_1 low high _ (W_iff.2 ⟨y_, h, z61Rok y_⟩)
noncomputable def fact_within_C : Con
  | [(.c (.lit (.int .i64 a1))), (.c (.lit (.int .i64 a2))), (.c (.lit (.int .i64 a3)))] => some ([(fact_within a1 a2 a3).isSome = true], (fact_within_out ((fact_within a1 a2 a3).getD false)))
  | _ => none
theorem fact_within_ok : Meets Tryz.prog 61 fact_within_C := by
  refine meets_fun (fn := Tryz.f61) (c := bodyOf Tryz.f61) (by kernel_rfl) (by kernel_rfl) (by kernel_rfl) (rs := [.tmp 6]) (by kernel_rfl) (nt := 15) (by kernel_rfl) fun vs p out h hp => ?_
  unfold fact_within_C at h
  split at h
  · next a1 a2 a3 =>
    cases h
    obtain ⟨g, hp⟩ := allq hp
    obtain ⟨x, hx⟩ := Option.isSome_iff_exists.1 g
    rw [hx]
    exact ⟨[(i64 a1), (i64 a2), (i64 a3)], (VLes.cons (VLe.rfl' _) (VLes.cons (VLe.rfl' _) (VLes.cons (VLe.rfl' _) VLes.nil))), rfl, z61run a1 a2 a3 x hx⟩
  · cases h


/-- Where a byte stands first. -/
def bytealg_IndexByteString (s : ByteArray) (c : Int) : Option Int := some (firstIdx s c.toNat.toUInt8)
def bytealg_IndexByteString_C : Con
  | [.c (.lit (.string s)), .c (.lit (.int .u8 c))] => some ([(bytealg_IndexByteString s c).isSome = true], .data (i64 ((bytealg_IndexByteString s c).getD (0 : Int))))
  | _ => none
theorem bytealg_IndexByteString_ok : Meets Tryz.prog 130 bytealg_IndexByteString_C := by
  intro ok w xs vs p out hx hok hcon hp
  unfold bytealg_IndexByteString_C at hcon
  split at hcon
  · next s c =>
    cases hcon
    obtain ⟨x, y, rfl⟩ : ∃ x y, xs = [x, y] := by
      have := hx.1
      match xs, this with
      | [x, y], _ => exact ⟨x, y, rfl⟩
    have e1 := (hx.2 0 x _ rfl rfl).lit_inv
    have e2 := (hx.2 1 y _ rfl rfl).lit_inv
    subst e1 e2
    refine .inr ⟨.int .i64 (firstIdx s c.toNat.toUInt8), w, ?_, .refl _ _, .lit _⟩
    rw [run_callFunc_extern (fn := Tryz.f130) (e := Extern.BytealgIndexByte.indexByte) (by kernel_rfl) (by kernel_rfl) (by kernel_rfl) (by kernel_rfl) (by kernel_rfl)]
    have := run_indexByte_string (P := Tryz.prog) s c w
    rw [show [Value.string s, Value.int .u8 c].toArray = #[Value.string s, Value.int .u8 c] from rfl, this]
    rfl
  · cases hcon

noncomputable def z109i0 : List Code := items (bodyOf Tryz.f109)
def internal_stringslite_IndexByte_out (x_1 : Int) : Out := .data (i64 x_1)
def z109R (x_1 : Int) : St := { tm := [sv 4 (i64 x_1)], hp := [], nx := 0 }
theorem z109Rok (x_1 : Int) : retK Tryz.prog [.tmp 4] (OutOk (internal_stringslite_IndexByte_out x_1)) .ret (z109R x_1) :=
  retK.intro (v := (i64 x_1)) (by kernel_rfl) ((VLe.rfl' _))
def z109p0S (s_1 : ByteArray) (c : Int) : St := { tm := [sv 0 (str s_1), sv 1 (.c (.lit (.int .u8 c)))], hp := [], nx := 0 }
noncomputable def internal_stringslite_IndexByte_p0 (s_1 : ByteArray) (c : Int) : Option (Int) := (bytealg_IndexByteString s_1 c).bind fun r_1 => ((some r_1))
theorem z109p0ok (s_1 : ByteArray) (c : Int) (K : KT) (h : W (internal_stringslite_IndexByte_p0 s_1 c) (rE z109R K)) : EvL Tryz.prog 8 (List.drop 0 z109i0) K (z109p0S s_1 c) :=
  EvL.pE mixed (lookC_ok (l := [(130, .pure bytealg_IndexByteString_C)]) ⟨bytealg_IndexByteString_ok, trivial⟩) [4] 0 3 (.nf (X := fun K => ((bytealg_IndexByteString s_1 c).isSome = true) ∧ (wK K .ret (z109R ((bytealg_IndexByteString s_1 c).getD (0 : Int))))) (fun K => by kernel_rfl) (W_bind (0 : Int) h fun hp0 h => ⟨_, .refl _, h⟩))
noncomputable def internal_stringslite_IndexByte (s_1 : ByteArray) (c : Int) : Option (Int) := internal_stringslite_IndexByte_p0 s_1 c
theorem z109run (s_1 : ByteArray) (c : Int) (y_ : Int) (h : internal_stringslite_IndexByte s_1 c = some y_) : EvL Tryz.prog 8 (items (bodyOf Tryz.f109)) (retK Tryz.prog [.tmp 4] (OutOk (internal_stringslite_IndexByte_out y_))) (z109p0S s_1 c) :=
  z109p0ok s_1 c _ (W_iff.2 ⟨y_, h, z109Rok y_⟩)
noncomputable def internal_stringslite_IndexByte_C : Con
  | [(.c (.lit (.string a1))), (.c (.lit (.int .u8 a2)))] => some ([(internal_stringslite_IndexByte a1 a2).isSome = true], (internal_stringslite_IndexByte_out ((internal_stringslite_IndexByte a1 a2).getD (0 : Int))))
  | _ => none
theorem internal_stringslite_IndexByte_ok : Meets Tryz.prog 109 internal_stringslite_IndexByte_C := by
  refine meets_fun (fn := Tryz.f109) (c := bodyOf Tryz.f109) (by kernel_rfl) (by kernel_rfl) (by kernel_rfl) (rs := [.tmp 4]) (by kernel_rfl) (nt := 8) (by kernel_rfl) fun vs p out h hp => ?_
  unfold internal_stringslite_IndexByte_C at h
  split at h
  · next a1 a2 =>
    cases h
    obtain ⟨g, hp⟩ := allq hp
    obtain ⟨x, hx⟩ := Option.isSome_iff_exists.1 g
    rw [hx]
    exact ⟨[(str a1), (.c (.lit (.int .u8 a2)))], (VLes.cons (VLe.rfl' _) (VLes.cons (VLe.rfl' _) VLes.nil)), rfl, z109run a1 a2 x hx⟩
  · cases h

noncomputable def z101i0 : List Code := items (bodyOf Tryz.f101)
def internal_stringslite_Index_out (x_1 : Int) : Out := .data (i64 x_1)
def z101R (x_1 : Int) : St := { tm := [sv 4 (i64 x_1)], hp := [], nx := 0 }
theorem z101Rok (x_1 : Int) : retK Tryz.prog [.tmp 4] (OutOk (internal_stringslite_Index_out x_1)) .ret (z101R x_1) :=
  retK.intro (v := (i64 x_1)) (by kernel_rfl) ((VLe.rfl' _))
def z101p0S (s_1 substr : ByteArray) : St := { tm := [sv 0 (str s_1), sv 1 (str substr)], hp := [], nx := 0 }
noncomputable def internal_stringslite_Index_p0 (s_1 substr : ByteArray) : Option (Int) := (bif (bif (((substr.size : Nat) : Int) == (0 : Int)) then true else (substr.toList == s_1.toList)) then (some (0 : Int)) else (bif (((substr.size : Nat) : Int) == (1 : Int)) then gd ((0 : Int) ≤ (0 : Int) ∧ (0 : Int) < ((substr.size : Nat) : Int)) ((internal_stringslite_IndexByte s_1 ((substr.data.getD 0 0).toNat : Int)).bind fun r_1 => ((some r_1))) else (bif (decide (((s_1.size : Nat) : Int) ≤ ((substr.size : Nat) : Int))) then (some (-1 : Int)) else none)))
theorem z101p0ok (s_1 substr : ByteArray) (K : KT) (h : W (internal_stringslite_Index_p0 s_1 substr) (rE z101R K)) : EvL Tryz.prog 143 (List.drop 0 z101i0) K (z101p0S s_1 substr) :=
  EvL.pD mixed (lookC_ok (l := [(109, .pure internal_stringslite_IndexByte_C)]) ⟨internal_stringslite_IndexByte_ok, trivial⟩) [0, 1, 4, 5, 85, 86, 87, 88, 89, 90, 91, 92, 103, 104, 105, 106, 122, 123, 124, 125, 126, 129, 130, 131] 0 3 3 (.nf (X := fun K => (bif (bif (((substr.size : Nat) : Int) == (0 : Int)) then true else (substr.toList == s_1.toList)) then wK K .ret ({ tm := [sv 0 (str s_1), sv 1 (str substr), sv 4 (i64 (0 : Int)), sv 5 (i64 ((substr.size : Nat) : Int))], hp := [], nx := 0 }) else (bif (((substr.size : Nat) : Int) == (1 : Int)) then ((0 : Int) ≤ (0 : Int)) ∧ ((0 : Int) < ((substr.size : Nat) : Int)) ∧ ((internal_stringslite_IndexByte s_1 ((substr.data.getD 0 0).toNat : Int)).isSome = true) ∧ (wK K .ret ({ tm := [sv 0 (str s_1), sv 1 (str substr), sv 4 (i64 ((internal_stringslite_IndexByte s_1 ((substr.data.getD 0 0).toNat : Int)).getD (0 : Int))), sv 5 (i64 ((substr.size : Nat) : Int))], hp := [], nx := 0 })) else (bif (decide (((s_1.size : Nat) : Int) ≤ ((substr.size : Nat) : Int))) then wK K .ret ({ tm := [sv 0 (str s_1), sv 1 (str substr), sv 4 (i64 (-1 : Int)), sv 5 (i64 ((substr.size : Nat) : Int))], hp := [], nx := 0 }) else False)))) (fun K => by kernel_rfl) (W_bif h (fun _ h => ⟨(z101R (0 : Int)), (.of (.q rfl .nil) .nil rfl), h⟩) (fun _ h => (W_bif h (fun _ h => (W_gd2 h fun hp0 h => (W_bind (0 : Int) h fun hp1 h => ⟨(z101R ((internal_stringslite_IndexByte s_1 ((substr.data.getD 0 0).toNat : Int)).getD (0 : Int))), (.of (.q rfl .nil) .nil rfl), h⟩))) (fun _ h => (W_bif h (fun _ h => ⟨(z101R (-1 : Int)), (.of (.q rfl .nil) .nil rfl), h⟩) (fun _ h => h)))))))
noncomputable def internal_stringslite_Index (s_1 substr : ByteArray) : Option (Int) := internal_stringslite_Index_p0 s_1 substr
theorem z101run (s_1 substr : ByteArray) (y_ : Int) (h : internal_stringslite_Index s_1 substr = some y_) : EvL Tryz.prog 143 (items (bodyOf Tryz.f101)) (retK Tryz.prog [.tmp 4] (OutOk (internal_stringslite_Index_out y_))) (z101p0S s_1 substr) :=
  z101p0ok s_1 substr _ (W_iff.2 ⟨y_, h, z101Rok y_⟩)
noncomputable def internal_stringslite_Index_C : Con
  | [(.c (.lit (.string a1))), (.c (.lit (.string a2)))] => some ([(internal_stringslite_Index a1 a2).isSome = true], (internal_stringslite_Index_out ((internal_stringslite_Index a1 a2).getD (0 : Int))))
  | _ => none
theorem internal_stringslite_Index_ok : Meets Tryz.prog 101 internal_stringslite_Index_C := by
  refine meets_fun (fn := Tryz.f101) (c := bodyOf Tryz.f101) (by kernel_rfl) (by kernel_rfl) (by kernel_rfl) (rs := [.tmp 4]) (by kernel_rfl) (nt := 143) (by kernel_rfl) fun vs p out h hp => ?_
  unfold internal_stringslite_Index_C at h
  split at h
  · next a1 a2 =>
    cases h
    obtain ⟨g, hp⟩ := allq hp
    obtain ⟨x, hx⟩ := Option.isSome_iff_exists.1 g
    rw [hx]
    exact ⟨[(str a1), (str a2)], (VLes.cons (VLe.rfl' _) (VLes.cons (VLe.rfl' _) VLes.nil)), rfl, z101run a1 a2 x hx⟩
  · cases h

noncomputable def z86i0 : List Code := items (bodyOf Tryz.f86)
def strings_Index_out (x_1 : Int) : Out := .data (i64 x_1)
def z86R (x_1 : Int) : St := { tm := [sv 4 (i64 x_1)], hp := [], nx := 0 }
theorem z86Rok (x_1 : Int) : retK Tryz.prog [.tmp 4] (OutOk (strings_Index_out x_1)) .ret (z86R x_1) :=
  retK.intro (v := (i64 x_1)) (by kernel_rfl) ((VLe.rfl' _))
def z86p0S (s_1 substr : ByteArray) : St := { tm := [sv 0 (str s_1), sv 1 (str substr)], hp := [], nx := 0 }
noncomputable def strings_Index_p0 (s_1 substr : ByteArray) : Option (Int) := (internal_stringslite_Index s_1 substr).bind fun r_1 => ((some r_1))
theorem z86p0ok (s_1 substr : ByteArray) (K : KT) (h : W (strings_Index_p0 s_1 substr) (rE z86R K)) : EvL Tryz.prog 8 (List.drop 0 z86i0) K (z86p0S s_1 substr) :=
  EvL.pE mixed (lookC_ok (l := [(101, .pure internal_stringslite_Index_C)]) ⟨internal_stringslite_Index_ok, trivial⟩) [4] 0 3 (.nf (X := fun K => ((internal_stringslite_Index s_1 substr).isSome = true) ∧ (wK K .ret (z86R ((internal_stringslite_Index s_1 substr).getD (0 : Int))))) (fun K => by kernel_rfl) (W_bind (0 : Int) h fun hp0 h => ⟨_, .refl _, h⟩))
noncomputable def strings_Index (s_1 substr : ByteArray) : Option (Int) := strings_Index_p0 s_1 substr
theorem z86run (s_1 substr : ByteArray) (y_ : Int) (h : strings_Index s_1 substr = some y_) : EvL Tryz.prog 8 (items (bodyOf Tryz.f86)) (retK Tryz.prog [.tmp 4] (OutOk (strings_Index_out y_))) (z86p0S s_1 substr) :=
  z86p0ok s_1 substr _ (W_iff.2 ⟨y_, h, z86Rok y_⟩)
noncomputable def strings_Index_C : Con
  | [(.c (.lit (.string a1))), (.c (.lit (.string a2)))] => some ([(strings_Index a1 a2).isSome = true], (strings_Index_out ((strings_Index a1 a2).getD (0 : Int))))
  | _ => none
theorem strings_Index_ok : Meets Tryz.prog 86 strings_Index_C := by
  refine meets_fun (fn := Tryz.f86) (c := bodyOf Tryz.f86) (by kernel_rfl) (by kernel_rfl) (by kernel_rfl) (rs := [.tmp 4]) (by kernel_rfl) (nt := 8) (by kernel_rfl) fun vs p out h hp => ?_
  unfold strings_Index_C at h
  split at h
  · next a1 a2 =>
    cases h
    obtain ⟨g, hp⟩ := allq hp
    obtain ⟨x, hx⟩ := Option.isSome_iff_exists.1 g
    rw [hx]
    exact ⟨[(str a1), (str a2)], (VLes.cons (VLe.rfl' _) (VLes.cons (VLe.rfl' _) VLes.nil)), rfl, z86run a1 a2 x hx⟩
  · cases h

noncomputable def z60i0 : List Code := items (bodyOf Tryz.f60)
def strings_Contains_out (x_1 : Bool) : Out := .data (bl x_1)
def z60R (x_1 : Bool) : St := { tm := [sv 4 (bl x_1)], hp := [], nx := 0 }
theorem z60Rok (x_1 : Bool) : retK Tryz.prog [.tmp 4] (OutOk (strings_Contains_out x_1)) .ret (z60R x_1) :=
  retK.intro (v := (bl x_1)) (by kernel_rfl) ((VLe.rfl' _))
def z60p0S (s_1 substr : ByteArray) : St := { tm := [sv 0 (str s_1), sv 1 (str substr)], hp := [], nx := 0 }
noncomputable def strings_Contains_p0 (s_1 substr : ByteArray) : Option (Bool) := (strings_Index s_1 substr).bind fun r_1 => ((some (decide ((0 : Int) ≤ r_1))))
theorem z60p0ok (s_1 substr : ByteArray) (K : KT) (h : W (strings_Contains_p0 s_1 substr) (rE z60R K)) : EvL Tryz.prog 9 (List.drop 0 z60i0) K (z60p0S s_1 substr) :=
  EvL.pE mixed (lookC_ok (l := [(86, .pure strings_Index_C)]) ⟨strings_Index_ok, trivial⟩) [4] 0 3 (.nf (X := fun K => ((strings_Index s_1 substr).isSome = true) ∧ (wK K .ret (z60R (decide ((0 : Int) ≤ ((strings_Index s_1 substr).getD (0 : Int))))))) (fun K => by kernel_rfl) (W_bind (0 : Int) h fun hp0 h => ⟨_, .refl _, h⟩))
noncomputable def strings_Contains (s_1 substr : ByteArray) : Option (Bool) := strings_Contains_p0 s_1 substr
theorem z60run (s_1 substr : ByteArray) (y_ : Bool) (h : strings_Contains s_1 substr = some y_) : EvL Tryz.prog 9 (items (bodyOf Tryz.f60)) (retK Tryz.prog [.tmp 4] (OutOk (strings_Contains_out y_))) (z60p0S s_1 substr) :=
  z60p0ok s_1 substr _ (W_iff.2 ⟨y_, h, z60Rok y_⟩)
noncomputable def strings_Contains_C : Con
  | [(.c (.lit (.string a1))), (.c (.lit (.string a2)))] => some ([(strings_Contains a1 a2).isSome = true], (strings_Contains_out ((strings_Contains a1 a2).getD false)))
  | _ => none
theorem strings_Contains_ok : Meets Tryz.prog 60 strings_Contains_C := by
  refine meets_fun (fn := Tryz.f60) (c := bodyOf Tryz.f60) (by kernel_rfl) (by kernel_rfl) (by kernel_rfl) (rs := [.tmp 4]) (by kernel_rfl) (nt := 9) (by kernel_rfl) fun vs p out h hp => ?_
  unfold strings_Contains_C at h
  split at h
  · next a1 a2 =>
    cases h
    obtain ⟨g, hp⟩ := allq hp
    obtain ⟨x, hx⟩ := Option.isSome_iff_exists.1 g
    rw [hx]
    exact ⟨[(str a1), (str a2)], (VLes.cons (VLe.rfl' _) (VLes.cons (VLe.rfl' _) VLes.nil)), rfl, z60run a1 a2 x hx⟩
  · cases h

noncomputable def z59i0 : List Code := items (bodyOf Tryz.f59)
def fact_Valid_1_out (x_1 : Bool) : Out := .data (bl x_1)
def z59R (x_1 : Bool) : St := { tm := [sv 3 (bl x_1)], hp := [], nx := 0 }
theorem z59Rok (x_1 : Bool) : retK Tryz.prog [.tmp 3] (OutOk (fact_Valid_1_out x_1)) .ret (z59R x_1) :=
  retK.intro (v := (bl x_1)) (by kernel_rfl) ((VLe.rfl' _))
def z59p0S (letter t1 : ByteArray) : St := { tm := [sv 0 (str letter), sv 1 (.dptr 1 [(ds t1)] 0)], hp := [], nx := 0 }
noncomputable def fact_Valid_1_p0 (letter t1 : ByteArray) : Option (Bool) := (strings_Contains t1 letter).bind fun r_1 => ((some r_1))
theorem z59p0ok (letter t1 : ByteArray) (K : KT) (h : W (fact_Valid_1_p0 letter t1) (rE z59R K)) : EvL Tryz.prog 7 (List.drop 0 z59i0) K (z59p0S letter t1) :=
  EvL.pE mixed (lookC_ok (l := [(60, .pure strings_Contains_C)]) ⟨strings_Contains_ok, trivial⟩) [3] 0 3 (.nf (X := fun K => ((strings_Contains t1 letter).isSome = true) ∧ (wK K .ret (z59R ((strings_Contains t1 letter).getD false)))) (fun K => by kernel_rfl) (W_bind false h fun hp0 h => ⟨_, .refl _, h⟩))
noncomputable def fact_Valid_1 (letter t1 : ByteArray) : Option (Bool) := fact_Valid_1_p0 letter t1
theorem z59run (letter t1 : ByteArray) (y_ : Bool) (h : fact_Valid_1 letter t1 = some y_) : EvL Tryz.prog 7 (items (bodyOf Tryz.f59)) (retK Tryz.prog [.tmp 3] (OutOk (fact_Valid_1_out y_))) (z59p0S letter t1) :=
  z59p0ok letter t1 _ (W_iff.2 ⟨y_, h, z59Rok y_⟩)
noncomputable def fact_Valid_1_C : Con
  | [(.c (.lit (.string a1))), (.dptr 1 [(.lit (.string a2))] 0)] => some ([(fact_Valid_1 a1 a2).isSome = true], (fact_Valid_1_out ((fact_Valid_1 a1 a2).getD false)))
  | _ => none
theorem fact_Valid_1_ok : Meets Tryz.prog 59 fact_Valid_1_C := by
  refine meets_fun (fn := Tryz.f59) (c := bodyOf Tryz.f59) (by kernel_rfl) (by kernel_rfl) (by kernel_rfl) (rs := [.tmp 3]) (by kernel_rfl) (nt := 7) (by kernel_rfl) fun vs p out h hp => ?_
  unfold fact_Valid_1_C at h
  split at h
  · next a1 a2 =>
    cases h
    obtain ⟨g, hp⟩ := allq hp
    obtain ⟨x, hx⟩ := Option.isSome_iff_exists.1 g
    rw [hx]
    exact ⟨[(str a1), (.dptr 1 [(ds a2)] 0)], (VLes.cons (VLe.rfl' _) (VLes.cons (VLe.rfl' _) VLes.nil)), rfl, z59run a1 a2 x hx⟩
  · cases h

noncomputable def z62i0 : List Code := items (bodyOf Tryz.f62)
def fact_field_out (x_2 : Bool) : Out := .data (bl x_2)
def z62R (x_2 : Bool) : St := { tm := [sv 8 (bl x_2)], hp := [], nx := 0 }
theorem z62Rok (x_2 : Bool) : retK Tryz.prog [.tmp 8] (OutOk (fact_field_out x_2)) .ret (z62R x_2) :=
  retK.intro (v := (bl x_2)) (by kernel_rfl) ((VLe.rfl' _))
def z62p0S (used : Bool) (x_1 low high : Int) : St := { tm := [sv 0 (bl used), sv 1 (i64 x_1), sv 2 (i64 low), sv 3 (i64 high)], hp := [], nx := 0 }
noncomputable def fact_field_p0 (used : Bool) (x_1 low high : Int) : Option (Bool) := gd ((used && true) = true → (fact_within x_1 low high).isSome = true) ((some (bif (bif used then ((fact_within x_1 low high).getD false) else false) then true else (bif (!used) then (x_1 == (0 : Int)) else false))))
theorem z62p0ok (used : Bool) (x_1 low high : Int) (K : KT) (h : W (fact_field_p0 used x_1 low high) (rE z62R K)) : EvL Tryz.prog 24 (List.drop 0 z62i0) K (z62p0S used x_1 low high) :=
  EvL.pE mixed (lookC_ok (l := [(61, .pure fact_within_C)]) ⟨fact_within_ok, trivial⟩) [8] 0 3 (.nf (X := fun K => ((used && true) = true → (fact_within x_1 low high).isSome = true) ∧ (wK K .ret (z62R (bif (bif used then ((fact_within x_1 low high).getD false) else false) then true else (bif (!used) then (x_1 == (0 : Int)) else false))))) (fun K => by kernel_rfl) (W_gd h fun hp0 h => ⟨_, .refl _, h⟩))
noncomputable def fact_field (used : Bool) (x_1 low high : Int) : Option (Bool) := fact_field_p0 used x_1 low high
theorem z62run (used : Bool) (x_1 low high : Int) (y_ : Bool) (h : fact_field used x_1 low high = some y_) : EvL Tryz.prog 24 (items (bodyOf Tryz.f62)) (retK Tryz.prog [.tmp 8] (OutOk (fact_field_out y_))) (z62p0S used x_1 low high) :=
  z62p0ok used x_1 low high _ (W_iff.2 ⟨y_, h, z62Rok y_⟩)
noncomputable def fact_field_C : Con
  | [(.c (.lit (.bool a1))), (.c (.lit (.int .i64 a2))), (.c (.lit (.int .i64 a3))), (.c (.lit (.int .i64 a4)))] => some ([(fact_field a1 a2 a3 a4).isSome = true], (fact_field_out ((fact_field a1 a2 a3 a4).getD false)))
  | _ => none
theorem fact_field_ok : Meets Tryz.prog 62 fact_field_C := by
  refine meets_fun (fn := Tryz.f62) (c := bodyOf Tryz.f62) (by kernel_rfl) (by kernel_rfl) (by kernel_rfl) (rs := [.tmp 8]) (by kernel_rfl) (nt := 24) (by kernel_rfl) fun vs p out h hp => ?_
  unfold fact_field_C at h
  split at h
  · next a1 a2 a3 a4 =>
    cases h
    obtain ⟨g, hp⟩ := allq hp
    obtain ⟨x, hx⟩ := Option.isSome_iff_exists.1 g
    rw [hx]
    exact ⟨[(bl a1), (i64 a2), (i64 a3), (i64 a4)], (VLes.cons (VLe.rfl' _) (VLes.cons (VLe.rfl' _) (VLes.cons (VLe.rfl' _) (VLes.cons (VLe.rfl' _) VLes.nil)))), rfl, z62run a1 a2 a3 a4 x hx⟩
  · cases h

noncomputable def z63i0 : List Code := items (bodyOf Tryz.f63)
def fact_validSpan_out (x_1 : Bool) : Out := .data (bl x_1)
def z63R (x_1 : Bool) : St := { tm := [sv 2 (bl x_1)], hp := [], nx := 0 }
theorem z63Rok (x_1 : Bool) : retK Tryz.prog [.tmp 2] (OutOk (fact_validSpan_out x_1)) .ret (z63R x_1) :=
  retK.intro (v := (bl x_1)) (by kernel_rfl) ((VLe.rfl' _))
def z63p0S (s_1 : GSpan) : St := { tm := [sv 0 (.ag (eGSpan s_1))], hp := [], nx := 0 }
noncomputable def fact_validSpan_p0 (s_1 : GSpan) : Option (Bool) := (some (bif (bif (decide ((0 : Int) ≤ s_1.From)) then (decide (s_1.From < s_1.To)) else false) then (decide (s_1.To ≤ (73049 : Int))) else false))
theorem z63p0ok (s_1 : GSpan) (K : KT) (h : W (fact_validSpan_p0 s_1) (rE z63R K)) : EvL Tryz.prog 18 (List.drop 0 z63i0) K (z63p0S s_1) :=
  EvL.pE mixed (lookC_ok (l := []) trivial) [2] 0 3 (.nf (X := fun K => wK K .ret (z63R (bif (bif (decide ((0 : Int) ≤ s_1.From)) then (decide (s_1.From < s_1.To)) else false) then (decide (s_1.To ≤ (73049 : Int))) else false))) (fun K => by kernel_rfl) (⟨_, .refl _, h⟩))
noncomputable def fact_validSpan (s_1 : GSpan) : Option (Bool) := fact_validSpan_p0 s_1
theorem z63run (s_1 : GSpan) (y_ : Bool) (h : fact_validSpan s_1 = some y_) : EvL Tryz.prog 18 (items (bodyOf Tryz.f63)) (retK Tryz.prog [.tmp 2] (OutOk (fact_validSpan_out y_))) (z63p0S s_1) :=
  z63p0ok s_1 _ (W_iff.2 ⟨y_, h, z63Rok y_⟩)
noncomputable def fact_validSpan_C : Con
  | [(.agg [(.c (.lit (.int .i64 a1))), (.c (.lit (.int .i64 a2)))])] => some ([(fact_validSpan (GSpan.mk a1 a2)).isSome = true], (fact_validSpan_out ((fact_validSpan (GSpan.mk a1 a2)).getD false)))
  | _ => none
theorem fact_validSpan_ok : Meets Tryz.prog 63 fact_validSpan_C := by
  refine meets_fun (fn := Tryz.f63) (c := bodyOf Tryz.f63) (by kernel_rfl) (by kernel_rfl) (by kernel_rfl) (rs := [.tmp 2]) (by kernel_rfl) (nt := 18) (by kernel_rfl) fun vs p out h hp => ?_
  unfold fact_validSpan_C at h
  split at h
  · next a1 a2 =>
    cases h
    obtain ⟨g, hp⟩ := allq hp
    obtain ⟨x, hx⟩ := Option.isSome_iff_exists.1 g
    rw [hx]
    exact ⟨[(.agg [(i64 (GSpan.mk a1 a2).From), (i64 (GSpan.mk a1 a2).To)])], (VLes.cons (VLe.rfl' _) VLes.nil), rfl, z63run (GSpan.mk a1 a2) x hx⟩
  · cases h

noncomputable def z42i0 : List Code := items (bodyOf Tryz.f42)
def fact_Valid_out (x_1 : Bool) : Out := .data (bl x_1)
def z42R (x_1 : Bool) : St := { tm := [sv 2 (bl x_1)], hp := [], nx := 0 }
theorem z42Rok (x_1 : Bool) : retK Tryz.prog [.tmp 2] (OutOk (fact_Valid_out x_1)) .ret (z42R x_1) :=
  retK.intro (v := (bl x_1)) (by kernel_rfl) ((VLe.rfl' _))
def z42p0S : St := { tm := [], hp := [], nx := 0 }
noncomputable def fact_Valid_p0 : Option (Bool) := (some true)
theorem z42p0ok (K : KT) (h : W (fact_Valid_p0) (rE z42R K)) : EvL Tryz.prog 116 (List.drop 6 z42i0) K (z42p0S) :=
  EvL.pE mixed (lookC_ok (l := []) trivial) [2] 6 2 (.nf (X := fun K => wK K .ret (z42R true)) (fun K => by kernel_rfl) (⟨_, .refl _, h⟩))
def z42p1S (f : GFact) : St := { tm := [sv 1 (.ptr 0 14 0 0), sv 89 (i64 f.Kind)], hp := [(0, some (.box [(i64 f.Issuer), (i64 f.Number), (i64 f.Version), (bl f.Withdrawn), (i64 f.Person), (i64 f.Kind), (i64 f.State), (i64 f.Span.From), (i64 f.Span.To), (i64 f.Seat), (i64 f.Share), (i64 f.Currency), (i64 f.Amount), (i64 f.Ref)]))], nx := 1 }
noncomputable def fact_Valid_p1 (f : GFact) : Option (Bool) := (bif (f.Kind == (4 : Int)) then (some (f.State != f.Seat)) else (bif (f.Kind == (11 : Int)) then (bif (f.Kind == (11 : Int)) then (some (f.Span.To == (w64 (f.Span.From + (1 : Int))))) else (bif (f.Kind == (10 : Int)) then (bif (f.Kind == (10 : Int)) then (some (f.Ref != f.Person)) else fact_Valid_p0) else (bif (f.Kind == (14 : Int)) then (some (f.Ref != f.Person)) else fact_Valid_p0))) else (bif (f.Kind == (12 : Int)) then (some (f.Span.To == (w64 (f.Span.From + (1 : Int))))) else (bif (f.Kind == (10 : Int)) then (bif (f.Kind == (10 : Int)) then (some (f.Ref != f.Person)) else fact_Valid_p0) else (bif (f.Kind == (14 : Int)) then (some (f.Ref != f.Person)) else fact_Valid_p0)))))
theorem z42p1ok (f : GFact) (K : KT) (h : W (fact_Valid_p1 f) (rE z42R K)) : EvL Tryz.prog 116 (List.drop 5 z42i0) K (z42p1S f) :=
  EvL.pD mixed (lookC_ok (l := []) trivial) [2] 5 1 6 (.nf (X := fun K => (bif (f.Kind == (4 : Int)) then wK K .ret (z42R (f.State != f.Seat)) else (bif (f.Kind == (11 : Int)) then (bif (f.Kind == (11 : Int)) then wK K .ret (z42R (f.Span.To == (w64 (f.Span.From + (1 : Int))))) else (bif (f.Kind == (10 : Int)) then (bif (f.Kind == (10 : Int)) then wK K .ret (z42R (f.Ref != f.Person)) else wK K .normal (z42p0S)) else (bif (f.Kind == (14 : Int)) then wK K .ret (z42R (f.Ref != f.Person)) else wK K .normal (z42p0S)))) else (bif (f.Kind == (12 : Int)) then wK K .ret (z42R (f.Span.To == (w64 (f.Span.From + (1 : Int))))) else (bif (f.Kind == (10 : Int)) then (bif (f.Kind == (10 : Int)) then wK K .ret (z42R (f.Ref != f.Person)) else wK K .normal (z42p0S)) else (bif (f.Kind == (14 : Int)) then wK K .ret (z42R (f.Ref != f.Person)) else wK K .normal (z42p0S))))))) (fun K => by kernel_rfl) (W_bif h (fun _ h => ⟨_, .refl _, h⟩) (fun _ h => (W_bif h (fun _ h => (W_bif h (fun _ h => ⟨_, .refl _, h⟩) (fun _ h => (W_bif h (fun _ h => (W_bif h (fun _ h => ⟨_, .refl _, h⟩) (fun _ h => ⟨_, .refl _, (z42p0ok _ h)⟩))) (fun _ h => (W_bif h (fun _ h => ⟨_, .refl _, h⟩) (fun _ h => ⟨_, .refl _, (z42p0ok _ h)⟩))))))) (fun _ h => (W_bif h (fun _ h => ⟨_, .refl _, h⟩) (fun _ h => (W_bif h (fun _ h => (W_bif h (fun _ h => ⟨_, .refl _, h⟩) (fun _ h => ⟨_, .refl _, (z42p0ok _ h)⟩))) (fun _ h => (W_bif h (fun _ h => ⟨_, .refl _, h⟩) (fun _ h => ⟨_, .refl _, (z42p0ok _ h)⟩)))))))))))
def z42p2S (f : GFact) (uses : ByteArray) : St := { tm := [sv 1 (.ptr 0 14 0 0), sv 3 (.ptr 1 1 0 0), sv 4 (.fn 59 [(.ptr 1 1 0 0)])], hp := [(0, some (.box [(i64 f.Issuer), (i64 f.Number), (i64 f.Version), (bl f.Withdrawn), (i64 f.Person), (i64 f.Kind), (i64 f.State), (i64 f.Span.From), (i64 f.Span.To), (i64 f.Seat), (i64 f.Share), (i64 f.Currency), (i64 f.Amount), (i64 f.Ref)])), (1, some (.box [(str uses)]))], nx := 2 }
noncomputable def fact_Valid_p2 (f : GFact) (uses : ByteArray) : Option (Bool) := gd (((!(uses.toList == (bstr []).toList)) && true) = true → (fact_within f.Issuer (0 : Int) (5 : Int)).isSome = true) (gd (((!(bif (uses.toList == (bstr []).toList) then true else (!((fact_within f.Issuer (0 : Int) (5 : Int)).getD false)))) && true) = true → (fact_within f.Number (1 : Int) (999 : Int)).isSome = true) (gd (((!(bif (bif (uses.toList == (bstr []).toList) then true else (!((fact_within f.Issuer (0 : Int) (5 : Int)).getD false))) then true else (!((fact_within f.Number (1 : Int) (999 : Int)).getD false)))) && true) = true → (fact_within f.Version (1 : Int) (99 : Int)).isSome = true) (gd (((!(bif (bif (bif (uses.toList == (bstr []).toList) then true else (!((fact_within f.Issuer (0 : Int) (5 : Int)).getD false))) then true else (!((fact_within f.Number (1 : Int) (999 : Int)).getD false))) then true else (!((fact_within f.Version (1 : Int) (99 : Int)).getD false)))) && true) = true → (fact_within f.Person (1 : Int) (99 : Int)).isSome = true) ((bif (bif (bif (bif (bif (uses.toList == (bstr []).toList) then true else (!((fact_within f.Issuer (0 : Int) (5 : Int)).getD false))) then true else (!((fact_within f.Number (1 : Int) (999 : Int)).getD false))) then true else (!((fact_within f.Version (1 : Int) (99 : Int)).getD false))) then true else (!((fact_within f.Person (1 : Int) (99 : Int)).getD false))) then (some false) else (fact_Valid_1 (bstr [83]) uses).bind fun r_2 => ((fact_field r_2 f.State (0 : Int) (5 : Int)).bind fun r_3 => (gd (((!(!r_3)) && true) = true → (fact_Valid_1 (bstr [84]) uses).isSome = true) (gd (((!(!r_3)) && true) = true → (fact_field ((fact_Valid_1 (bstr [84]) uses).getD false) f.Seat (0 : Int) (5 : Int)).isSome = true) (gd (((!(bif (!r_3) then true else (!((fact_field ((fact_Valid_1 (bstr [84]) uses).getD false) f.Seat (0 : Int) (5 : Int)).getD false)))) && true) = true → (fact_validSpan f.Span).isSome = true) ((bif (bif (bif (!r_3) then true else (!((fact_field ((fact_Valid_1 (bstr [84]) uses).getD false) f.Seat (0 : Int) (5 : Int)).getD false))) then true else (!((fact_validSpan f.Span).getD false))) then (some false) else (fact_Valid_1 (bstr [72]) uses).bind fun r_4 => ((fact_field r_4 f.Share (1 : Int) (100 : Int)).bind fun r_5 => (gd (((!(!r_5)) && true) = true → (fact_Valid_1 (bstr [67]) uses).isSome = true) (gd (((!(!r_5)) && true) = true → (fact_field ((fact_Valid_1 (bstr [67]) uses).getD false) f.Currency (1 : Int) (999 : Int)).isSome = true) (gd (((!(bif (!r_5) then true else (!((fact_field ((fact_Valid_1 (bstr [67]) uses).getD false) f.Currency (1 : Int) (999 : Int)).getD false)))) && true) = true → (fact_Valid_1 (bstr [65]) uses).isSome = true) (gd (((!(bif (!r_5) then true else (!((fact_field ((fact_Valid_1 (bstr [67]) uses).getD false) f.Currency (1 : Int) (999 : Int)).getD false)))) && true) = true → (fact_field ((fact_Valid_1 (bstr [65]) uses).getD false) f.Amount (0 : Int) (1000000000 : Int)).isSome = true) (gd (((!(bif (bif (!r_5) then true else (!((fact_field ((fact_Valid_1 (bstr [67]) uses).getD false) f.Currency (1 : Int) (999 : Int)).getD false))) then true else (!((fact_field ((fact_Valid_1 (bstr [65]) uses).getD false) f.Amount (0 : Int) (1000000000 : Int)).getD false)))) && true) = true → (fact_Valid_1 (bstr [82]) uses).isSome = true) (gd (((!(bif (bif (!r_5) then true else (!((fact_field ((fact_Valid_1 (bstr [67]) uses).getD false) f.Currency (1 : Int) (999 : Int)).getD false))) then true else (!((fact_field ((fact_Valid_1 (bstr [65]) uses).getD false) f.Amount (0 : Int) (1000000000 : Int)).getD false)))) && true) = true → (fact_field ((fact_Valid_1 (bstr [82]) uses).getD false) f.Ref (1 : Int) (99 : Int)).isSome = true) ((bif (bif (bif (bif (!r_5) then true else (!((fact_field ((fact_Valid_1 (bstr [67]) uses).getD false) f.Currency (1 : Int) (999 : Int)).getD false))) then true else (!((fact_field ((fact_Valid_1 (bstr [65]) uses).getD false) f.Amount (0 : Int) (1000000000 : Int)).getD false))) then true else (!((fact_field ((fact_Valid_1 (bstr [82]) uses).getD false) f.Ref (1 : Int) (99 : Int)).getD false))) then (some false) else (fact_Valid_p1 f)))))))))))))))))))))
theorem z42p2ok (f : GFact) (uses : ByteArray) (K : KT) (h : W (fact_Valid_p2 f uses) (rE z42R K)) : EvL Tryz.prog 116 (List.drop 3 z42i0) K (z42p2S f uses) :=
  EvL.pD mixed (lookC_ok (l := [(59, .pure fact_Valid_1_C), (61, .pure fact_within_C), (62, .pure fact_field_C), (63, .pure fact_validSpan_C)]) ⟨fact_Valid_1_ok, fact_within_ok, fact_field_ok, fact_validSpan_ok, trivial⟩) [1, 2, 89] 3 2 5 (.nf (X := fun K => (((!(uses.toList == (bstr []).toList)) && true) = true → (fact_within f.Issuer (0 : Int) (5 : Int)).isSome = true) ∧ (((!(bif (uses.toList == (bstr []).toList) then true else (!((fact_within f.Issuer (0 : Int) (5 : Int)).getD false)))) && true) = true → (fact_within f.Number (1 : Int) (999 : Int)).isSome = true) ∧ (((!(bif (bif (uses.toList == (bstr []).toList) then true else (!((fact_within f.Issuer (0 : Int) (5 : Int)).getD false))) then true else (!((fact_within f.Number (1 : Int) (999 : Int)).getD false)))) && true) = true → (fact_within f.Version (1 : Int) (99 : Int)).isSome = true) ∧ (((!(bif (bif (bif (uses.toList == (bstr []).toList) then true else (!((fact_within f.Issuer (0 : Int) (5 : Int)).getD false))) then true else (!((fact_within f.Number (1 : Int) (999 : Int)).getD false))) then true else (!((fact_within f.Version (1 : Int) (99 : Int)).getD false)))) && true) = true → (fact_within f.Person (1 : Int) (99 : Int)).isSome = true) ∧ ((bif (bif (bif (bif (bif (uses.toList == (bstr []).toList) then true else (!((fact_within f.Issuer (0 : Int) (5 : Int)).getD false))) then true else (!((fact_within f.Number (1 : Int) (999 : Int)).getD false))) then true else (!((fact_within f.Version (1 : Int) (99 : Int)).getD false))) then true else (!((fact_within f.Person (1 : Int) (99 : Int)).getD false))) then wK K .ret ({ tm := [sv 1 (.ptr 0 14 0 0), sv 2 (bl false)], hp := [(0, some (.box [(i64 f.Issuer), (i64 f.Number), (i64 f.Version), (bl f.Withdrawn), (i64 f.Person), (i64 f.Kind), (i64 f.State), (i64 f.Span.From), (i64 f.Span.To), (i64 f.Seat), (i64 f.Share), (i64 f.Currency), (i64 f.Amount), (i64 f.Ref)]))], nx := 1 }) else ((fact_Valid_1 (bstr [83]) uses).isSome = true) ∧ ((fact_field ((fact_Valid_1 (bstr [83]) uses).getD false) f.State (0 : Int) (5 : Int)).isSome = true) ∧ (((!(!((fact_field ((fact_Valid_1 (bstr [83]) uses).getD false) f.State (0 : Int) (5 : Int)).getD false))) && true) = true → (fact_Valid_1 (bstr [84]) uses).isSome = true) ∧ (((!(!((fact_field ((fact_Valid_1 (bstr [83]) uses).getD false) f.State (0 : Int) (5 : Int)).getD false))) && true) = true → (fact_field ((fact_Valid_1 (bstr [84]) uses).getD false) f.Seat (0 : Int) (5 : Int)).isSome = true) ∧ (((!(bif (!((fact_field ((fact_Valid_1 (bstr [83]) uses).getD false) f.State (0 : Int) (5 : Int)).getD false)) then true else (!((fact_field ((fact_Valid_1 (bstr [84]) uses).getD false) f.Seat (0 : Int) (5 : Int)).getD false)))) && true) = true → (fact_validSpan f.Span).isSome = true) ∧ ((bif (bif (bif (!((fact_field ((fact_Valid_1 (bstr [83]) uses).getD false) f.State (0 : Int) (5 : Int)).getD false)) then true else (!((fact_field ((fact_Valid_1 (bstr [84]) uses).getD false) f.Seat (0 : Int) (5 : Int)).getD false))) then true else (!((fact_validSpan f.Span).getD false))) then wK K .ret ({ tm := [sv 1 (.ptr 0 14 0 0), sv 2 (bl false)], hp := [(0, some (.box [(i64 f.Issuer), (i64 f.Number), (i64 f.Version), (bl f.Withdrawn), (i64 f.Person), (i64 f.Kind), (i64 f.State), (i64 f.Span.From), (i64 f.Span.To), (i64 f.Seat), (i64 f.Share), (i64 f.Currency), (i64 f.Amount), (i64 f.Ref)]))], nx := 1 }) else ((fact_Valid_1 (bstr [72]) uses).isSome = true) ∧ ((fact_field ((fact_Valid_1 (bstr [72]) uses).getD false) f.Share (1 : Int) (100 : Int)).isSome = true) ∧ (((!(!((fact_field ((fact_Valid_1 (bstr [72]) uses).getD false) f.Share (1 : Int) (100 : Int)).getD false))) && true) = true → (fact_Valid_1 (bstr [67]) uses).isSome = true) ∧ (((!(!((fact_field ((fact_Valid_1 (bstr [72]) uses).getD false) f.Share (1 : Int) (100 : Int)).getD false))) && true) = true → (fact_field ((fact_Valid_1 (bstr [67]) uses).getD false) f.Currency (1 : Int) (999 : Int)).isSome = true) ∧ (((!(bif (!((fact_field ((fact_Valid_1 (bstr [72]) uses).getD false) f.Share (1 : Int) (100 : Int)).getD false)) then true else (!((fact_field ((fact_Valid_1 (bstr [67]) uses).getD false) f.Currency (1 : Int) (999 : Int)).getD false)))) && true) = true → (fact_Valid_1 (bstr [65]) uses).isSome = true) ∧ (((!(bif (!((fact_field ((fact_Valid_1 (bstr [72]) uses).getD false) f.Share (1 : Int) (100 : Int)).getD false)) then true else (!((fact_field ((fact_Valid_1 (bstr [67]) uses).getD false) f.Currency (1 : Int) (999 : Int)).getD false)))) && true) = true → (fact_field ((fact_Valid_1 (bstr [65]) uses).getD false) f.Amount (0 : Int) (1000000000 : Int)).isSome = true) ∧ (((!(bif (bif (!((fact_field ((fact_Valid_1 (bstr [72]) uses).getD false) f.Share (1 : Int) (100 : Int)).getD false)) then true else (!((fact_field ((fact_Valid_1 (bstr [67]) uses).getD false) f.Currency (1 : Int) (999 : Int)).getD false))) then true else (!((fact_field ((fact_Valid_1 (bstr [65]) uses).getD false) f.Amount (0 : Int) (1000000000 : Int)).getD false)))) && true) = true → (fact_Valid_1 (bstr [82]) uses).isSome = true) ∧ (((!(bif (bif (!((fact_field ((fact_Valid_1 (bstr [72]) uses).getD false) f.Share (1 : Int) (100 : Int)).getD false)) then true else (!((fact_field ((fact_Valid_1 (bstr [67]) uses).getD false) f.Currency (1 : Int) (999 : Int)).getD false))) then true else (!((fact_field ((fact_Valid_1 (bstr [65]) uses).getD false) f.Amount (0 : Int) (1000000000 : Int)).getD false)))) && true) = true → (fact_field ((fact_Valid_1 (bstr [82]) uses).getD false) f.Ref (1 : Int) (99 : Int)).isSome = true) ∧ ((bif (bif (bif (bif (!((fact_field ((fact_Valid_1 (bstr [72]) uses).getD false) f.Share (1 : Int) (100 : Int)).getD false)) then true else (!((fact_field ((fact_Valid_1 (bstr [67]) uses).getD false) f.Currency (1 : Int) (999 : Int)).getD false))) then true else (!((fact_field ((fact_Valid_1 (bstr [65]) uses).getD false) f.Amount (0 : Int) (1000000000 : Int)).getD false))) then true else (!((fact_field ((fact_Valid_1 (bstr [82]) uses).getD false) f.Ref (1 : Int) (99 : Int)).getD false))) then wK K .ret ({ tm := [sv 1 (.ptr 0 14 0 0), sv 2 (bl false)], hp := [(0, some (.box [(i64 f.Issuer), (i64 f.Number), (i64 f.Version), (bl f.Withdrawn), (i64 f.Person), (i64 f.Kind), (i64 f.State), (i64 f.Span.From), (i64 f.Span.To), (i64 f.Seat), (i64 f.Share), (i64 f.Currency), (i64 f.Amount), (i64 f.Ref)]))], nx := 1 }) else wK K .normal (z42p1S f)))))))) (fun K => by kernel_rfl) (W_gd h fun hp0 h => (W_gd h fun hp1 h => (W_gd h fun hp2 h => (W_gd h fun hp3 h => (W_bif h (fun _ h => ⟨(z42R false), (.cn [2]), h⟩) (fun _ h => (W_bind false h fun hp4 h => (W_bind false h fun hp5 h => (W_gd h fun hp6 h => (W_gd h fun hp7 h => (W_gd h fun hp8 h => (W_bif h (fun _ h => ⟨(z42R false), (.cn [2]), h⟩) (fun _ h => (W_bind false h fun hp9 h => (W_bind false h fun hp10 h => (W_gd h fun hp11 h => (W_gd h fun hp12 h => (W_gd h fun hp13 h => (W_gd h fun hp14 h => (W_gd h fun hp15 h => (W_gd h fun hp16 h => (W_bif h (fun _ h => ⟨(z42R false), (.cn [2]), h⟩) (fun _ h => ⟨_, .refl _, (z42p1ok f _ h)⟩))))))))))))))))))))))))
def z42p3S (f : GFact) : St := { tm := [sv 0 (.ag (eGFact f))], hp := [], nx := 0 }
noncomputable def fact_Valid_p3 (f : GFact) : Option (Bool) := (fact_Uses f.Kind).bind fun r_1 => ((fact_Valid_p2 f r_1))
theorem z42p3ok (f : GFact) (K : KT) (h : W (fact_Valid_p3 f) (rE z42R K)) : EvL Tryz.prog 116 (List.drop 0 z42i0) K (z42p3S f) :=
  EvL.pD mixed (lookC_ok (l := [(58, .pure fact_Uses_C)]) ⟨fact_Uses_ok, trivial⟩) [1, 3, 4, 13, 14, 15, 16, 19, 20, 21, 22, 25, 26, 27, 28, 31, 32, 33, 34, 44, 45, 46, 47, 48, 49, 52, 53, 54, 55, 65, 66, 67, 68, 69, 70, 73, 74, 75, 76, 77, 78, 81, 82, 83, 84, 85, 86] 0 3 3 (.nf (X := fun K => ((fact_Uses f.Kind).isSome = true) ∧ (wK K .normal (z42p2S f ((fact_Uses f.Kind).getD (bstr []))))) (fun K => by kernel_rfl) (W_bind (bstr []) h fun hp0 h => ⟨_, .refl _, (z42p2ok f ((fact_Uses f.Kind).getD (bstr [])) _ h)⟩))
noncomputable def fact_Valid (f : GFact) : Option (Bool) := fact_Valid_p3 f
theorem z42run (f : GFact) (y_ : Bool) (h : fact_Valid f = some y_) : EvL Tryz.prog 116 (items (bodyOf Tryz.f42)) (retK Tryz.prog [.tmp 2] (OutOk (fact_Valid_out y_))) (z42p3S f) :=
  z42p3ok f _ (W_iff.2 ⟨y_, h, z42Rok y_⟩)
noncomputable def fact_Valid_C : Con
  | [(.agg [(.c (.lit (.int .i64 a1))), (.c (.lit (.int .i64 a2))), (.c (.lit (.int .i64 a3))), (.c (.lit (.bool a4))), (.c (.lit (.int .i64 a5))), (.c (.lit (.int .i64 a6))), (.c (.lit (.int .i64 a7))), (.c (.lit (.int .i64 a8))), (.c (.lit (.int .i64 a9))), (.c (.lit (.int .i64 a10))), (.c (.lit (.int .i64 a11))), (.c (.lit (.int .i64 a12))), (.c (.lit (.int .i64 a13))), (.c (.lit (.int .i64 a14)))])] => some ([(fact_Valid (GFact.mk a1 a2 a3 a4 a5 a6 a7 (GSpan.mk a8 a9) a10 a11 a12 a13 a14)).isSome = true], (fact_Valid_out ((fact_Valid (GFact.mk a1 a2 a3 a4 a5 a6 a7 (GSpan.mk a8 a9) a10 a11 a12 a13 a14)).getD false)))
  | _ => none
theorem fact_Valid_ok : Meets Tryz.prog 42 fact_Valid_C := by
  refine meets_fun (fn := Tryz.f42) (c := bodyOf Tryz.f42) (by kernel_rfl) (by kernel_rfl) (by kernel_rfl) (rs := [.tmp 2]) (by kernel_rfl) (nt := 116) (by kernel_rfl) fun vs p out h hp => ?_
  unfold fact_Valid_C at h
  split at h
  · next a1 a2 a3 a4 a5 a6 a7 a8 a9 a10 a11 a12 a13 a14 =>
    cases h
    obtain ⟨g, hp⟩ := allq hp
    obtain ⟨x, hx⟩ := Option.isSome_iff_exists.1 g
    rw [hx]
    exact ⟨[(.agg [(i64 (GFact.mk a1 a2 a3 a4 a5 a6 a7 (GSpan.mk a8 a9) a10 a11 a12 a13 a14).Issuer), (i64 (GFact.mk a1 a2 a3 a4 a5 a6 a7 (GSpan.mk a8 a9) a10 a11 a12 a13 a14).Number), (i64 (GFact.mk a1 a2 a3 a4 a5 a6 a7 (GSpan.mk a8 a9) a10 a11 a12 a13 a14).Version), (bl (GFact.mk a1 a2 a3 a4 a5 a6 a7 (GSpan.mk a8 a9) a10 a11 a12 a13 a14).Withdrawn), (i64 (GFact.mk a1 a2 a3 a4 a5 a6 a7 (GSpan.mk a8 a9) a10 a11 a12 a13 a14).Person), (i64 (GFact.mk a1 a2 a3 a4 a5 a6 a7 (GSpan.mk a8 a9) a10 a11 a12 a13 a14).Kind), (i64 (GFact.mk a1 a2 a3 a4 a5 a6 a7 (GSpan.mk a8 a9) a10 a11 a12 a13 a14).State), (i64 ((GFact.mk a1 a2 a3 a4 a5 a6 a7 (GSpan.mk a8 a9) a10 a11 a12 a13 a14).Span).From), (i64 ((GFact.mk a1 a2 a3 a4 a5 a6 a7 (GSpan.mk a8 a9) a10 a11 a12 a13 a14).Span).To), (i64 (GFact.mk a1 a2 a3 a4 a5 a6 a7 (GSpan.mk a8 a9) a10 a11 a12 a13 a14).Seat), (i64 (GFact.mk a1 a2 a3 a4 a5 a6 a7 (GSpan.mk a8 a9) a10 a11 a12 a13 a14).Share), (i64 (GFact.mk a1 a2 a3 a4 a5 a6 a7 (GSpan.mk a8 a9) a10 a11 a12 a13 a14).Currency), (i64 (GFact.mk a1 a2 a3 a4 a5 a6 a7 (GSpan.mk a8 a9) a10 a11 a12 a13 a14).Amount), (i64 (GFact.mk a1 a2 a3 a4 a5 a6 a7 (GSpan.mk a8 a9) a10 a11 a12 a13 a14).Ref)])], (VLes.cons (VLe.rfl' _) VLes.nil), rfl, z42run (GFact.mk a1 a2 a3 a4 a5 a6 a7 (GSpan.mk a8 a9) a10 a11 a12 a13 a14) x hx⟩
  · cases h

noncomputable def z90i0 : List Code := items (bodyOf Tryz.f90)
def cmp_isNaN_int_out (x_2 : Bool) : Out := .data (bl x_2)
def z90R (x_2 : Bool) : St := { tm := [sv 2 (bl x_2)], hp := [], nx := 0 }
theorem z90Rok (x_2 : Bool) : retK Tryz.prog [.tmp 2] (OutOk (cmp_isNaN_int_out x_2)) .ret (z90R x_2) :=
  retK.intro (v := (bl x_2)) (by kernel_rfl) ((VLe.rfl' _))
def z90p0S (x_1 : Int) : St := { tm := [sv 0 (i64 x_1)], hp := [], nx := 0 }
noncomputable def cmp_isNaN_int_p0 (x_1 : Int) : Option (Bool) := (some (x_1 != x_1))
theorem z90p0ok (x_1 : Int) (K : KT) (h : W (cmp_isNaN_int_p0 x_1) (rE z90R K)) : EvL Tryz.prog 6 (List.drop 0 z90i0) K (z90p0S x_1) :=
  EvL.pE mixed (lookC_ok (l := []) trivial) [2] 0 3 (.nf (X := fun K => wK K .ret (z90R (x_1 != x_1))) (fun K => by kernel_rfl) (⟨_, .refl _, h⟩))
noncomputable def cmp_isNaN_int (x_1 : Int) : Option (Bool) := cmp_isNaN_int_p0 x_1
theorem z90run (x_1 : Int) (y_ : Bool) (h : cmp_isNaN_int x_1 = some y_) : EvL Tryz.prog 6 (items (bodyOf Tryz.f90)) (retK Tryz.prog [.tmp 2] (OutOk (cmp_isNaN_int_out y_))) (z90p0S x_1) :=
  z90p0ok x_1 _ (W_iff.2 ⟨y_, h, z90Rok y_⟩)
noncomputable def cmp_isNaN_int_C : Con
  | [(.c (.lit (.int .i64 a1)))] => some ([(cmp_isNaN_int a1).isSome = true], (cmp_isNaN_int_out ((cmp_isNaN_int a1).getD false)))
  | _ => none
theorem cmp_isNaN_int_ok : Meets Tryz.prog 90 cmp_isNaN_int_C := by
  refine meets_fun (fn := Tryz.f90) (c := bodyOf Tryz.f90) (by kernel_rfl) (by kernel_rfl) (by kernel_rfl) (rs := [.tmp 2]) (by kernel_rfl) (nt := 6) (by kernel_rfl) fun vs p out h hp => ?_
  unfold cmp_isNaN_int_C at h
  split at h
  · next a1 =>
    cases h
    obtain ⟨g, hp⟩ := allq hp
    obtain ⟨x, hx⟩ := Option.isSome_iff_exists.1 g
    rw [hx]
    exact ⟨[(i64 a1)], (VLes.cons (VLe.rfl' _) VLes.nil), rfl, z90run a1 x hx⟩
  · cases h

noncomputable def z66i0 : List Code := items (bodyOf Tryz.f66)
def cmp_Compare_int_out (x_2 : Int) : Out := .data (i64 x_2)
def z66R (x_2 : Int) : St := { tm := [sv 4 (i64 x_2)], hp := [], nx := 0 }
theorem z66Rok (x_2 : Int) : retK Tryz.prog [.tmp 4] (OutOk (cmp_Compare_int_out x_2)) .ret (z66R x_2) :=
  retK.intro (v := (i64 x_2)) (by kernel_rfl) ((VLe.rfl' _))
def z66p0S (x_1 y : Int) : St := { tm := [sv 0 (i64 x_1), sv 1 (i64 y)], hp := [], nx := 0 }
noncomputable def cmp_Compare_int_p0 (x_1 y : Int) : Option (Int) := (cmp_isNaN_int x_1).bind fun r_1 => ((cmp_isNaN_int y).bind fun r_2 => ((bif r_1 then (bif r_2 then (some (0 : Int)) else (some (-1 : Int))) else (bif r_2 then (some (1 : Int)) else (bif (decide (x_1 < y)) then (some (-1 : Int)) else (bif (decide (y < x_1)) then (some (1 : Int)) else (some (0 : Int))))))))
theorem z66p0ok (x_1 y : Int) (K : KT) (h : W (cmp_Compare_int_p0 x_1 y) (rE z66R K)) : EvL Tryz.prog 20 (List.drop 0 z66i0) K (z66p0S x_1 y) :=
  EvL.pE mixed (lookC_ok (l := [(90, .pure cmp_isNaN_int_C)]) ⟨cmp_isNaN_int_ok, trivial⟩) [4] 0 13 (.nf (X := fun K => ((cmp_isNaN_int x_1).isSome = true) ∧ (((cmp_isNaN_int y).isSome = true) ∧ ((bif ((cmp_isNaN_int x_1).getD false) then (bif ((cmp_isNaN_int y).getD false) then wK K .ret (z66R (0 : Int)) else wK K .ret (z66R (-1 : Int))) else (bif ((cmp_isNaN_int y).getD false) then wK K .ret (z66R (1 : Int)) else (bif (decide (x_1 < y)) then wK K .ret (z66R (-1 : Int)) else (bif (decide (y < x_1)) then wK K .ret (z66R (1 : Int)) else wK K .ret (z66R (0 : Int))))))))) (fun K => by kernel_rfl) (W_bind false h fun hp0 h => (W_bind false h fun hp1 h => (W_bif h (fun _ h => (W_bif h (fun _ h => ⟨_, .refl _, h⟩) (fun _ h => ⟨_, .refl _, h⟩))) (fun _ h => (W_bif h (fun _ h => ⟨_, .refl _, h⟩) (fun _ h => (W_bif h (fun _ h => ⟨_, .refl _, h⟩) (fun _ h => (W_bif h (fun _ h => ⟨_, .refl _, h⟩) (fun _ h => ⟨_, .refl _, h⟩)))))))))))
noncomputable def cmp_Compare_int (x_1 y : Int) : Option (Int) := cmp_Compare_int_p0 x_1 y
theorem z66run (x_1 y : Int) (y_ : Int) (h : cmp_Compare_int x_1 y = some y_) : EvL Tryz.prog 20 (items (bodyOf Tryz.f66)) (retK Tryz.prog [.tmp 4] (OutOk (cmp_Compare_int_out y_))) (z66p0S x_1 y) :=
  z66p0ok x_1 y _ (W_iff.2 ⟨y_, h, z66Rok y_⟩)
noncomputable def cmp_Compare_int_C : Con
  | [(.c (.lit (.int .i64 a1))), (.c (.lit (.int .i64 a2)))] => some ([(cmp_Compare_int a1 a2).isSome = true], (cmp_Compare_int_out ((cmp_Compare_int a1 a2).getD (0 : Int))))
  | _ => none
theorem cmp_Compare_int_ok : Meets Tryz.prog 66 cmp_Compare_int_C := by
  refine meets_fun (fn := Tryz.f66) (c := bodyOf Tryz.f66) (by kernel_rfl) (by kernel_rfl) (by kernel_rfl) (rs := [.tmp 4]) (by kernel_rfl) (nt := 20) (by kernel_rfl) fun vs p out h hp => ?_
  unfold cmp_Compare_int_C at h
  split at h
  · next a1 a2 =>
    cases h
    obtain ⟨g, hp⟩ := allq hp
    obtain ⟨x, hx⟩ := Option.isSome_iff_exists.1 g
    rw [hx]
    exact ⟨[(i64 a1), (i64 a2)], (VLes.cons (VLe.rfl' _) (VLes.cons (VLe.rfl' _) VLes.nil)), rfl, z66run a1 a2 x hx⟩
  · cases h

noncomputable def z65i0 : List Code := items (bodyOf Tryz.f65)
noncomputable def z65i1 : List Code := items (inside (inside (nthI z65i0 3)))
def cmp_Or_int_out (x_1 : Int) : Out := .data (i64 x_1)
def z65R (x_1 : Int) : St := { tm := [sv 2 (i64 x_1)], hp := [], nx := 0 }
theorem z65Rok (x_1 : Int) : retK Tryz.prog [.tmp 2] (OutOk (cmp_Or_int_out x_1)) .ret (z65R x_1) :=
  retK.intro (v := (i64 x_1)) (by kernel_rfl) ((VLe.rfl' _))
def z65l1S (vals : (List Int)) (s : (Int)) : St := match s with | t8 => { tm := [sv 3 (i64 (0 : Int)), sv 6 (.c (.sl 1 vals.length (lsEl eI64 (0 : Int) vals))), sv 7 (i64 ((vals.length : Nat) : Int)), sv 8 (i64 t8)], hp := [], nx := 0 }
def z65l1C0 (vals : (List Int)) (s : Int) : St := match s with | t2 => { tm := [sv 2 (i64 t2)], hp := [], nx := 0 }
def z65l1C1 (vals : (List Int)) (s : Unit) : St := match s with | () => { tm := [sv 3 (i64 (0 : Int))], hp := [], nx := 0 }
def z65l1E (vals : (List Int)) (r : ((Int) ⊕ (Unit))) (K : KT) : Prop := match r with | (.inl s) => K .ret (z65l1C0 vals s) | (.inr s) => K (.exit 0) (z65l1C1 vals s)
def z65p0S (vals : (List Int)) (t8 : Int) : St := { tm := [sv 3 (i64 (0 : Int)), sv 6 (.c (.sl 1 vals.length (lsEl eI64 (0 : Int) vals))), sv 7 (i64 ((vals.length : Nat) : Int)), sv 8 (i64 t8)], hp := [], nx := 0 }
noncomputable def cmp_Or_int_p0 (vals : (List Int)) (t8 : Int) : Option ((Int) ⊕ ((Int) ⊕ (Unit))) := (bif (decide (t8 < ((vals.length : Nat) : Int))) then gd ((0 : Int) ≤ t8 ∧ t8 < ((vals.length : Nat) : Int)) ((bif ((vals.getD (Int.toNat t8) (0 : Int)) != (0 : Int)) then (some (Sum.inr (Sum.inl (vals.getD (Int.toNat t8) (0 : Int))))) else (some (Sum.inl (w64 (t8 + (1 : Int))))))) else (some (Sum.inr (Sum.inr ()))))
theorem z65p0ok (vals : (List Int)) (t8 : Int) (K : KT) (h : W (cmp_Or_int_p0 vals t8) (nE (z65l1S vals) (z65l1E vals) K)) : EvL Tryz.prog 18 (List.drop 0 z65i1) K (z65p0S vals t8) :=
  EvL.pE mixed (lookC_ok (l := []) trivial) [2, 3, 6, 7, 8] 0 4 (.nf (X := fun K => (bif (decide (t8 < ((vals.length : Nat) : Int))) then ((0 : Int) ≤ t8) ∧ (t8 < ((vals.length : Nat) : Int)) ∧ ((bif ((vals.getD (Int.toNat t8) (0 : Int)) != (0 : Int)) then wK K .ret ({ tm := [sv 2 (i64 (vals.getD (Int.toNat t8) (0 : Int))), sv 3 (i64 (0 : Int)), sv 6 (.c (.sl 1 vals.length (lsEl eI64 (0 : Int) vals))), sv 7 (i64 ((vals.length : Nat) : Int)), sv 8 (i64 t8)], hp := [], nx := 0 }) else wK K .normal (z65l1S vals (w64 (t8 + (1 : Int)))))) else wK K (.exit 0) ({ tm := [sv 3 (i64 (0 : Int)), sv 6 (.c (.sl 1 vals.length (lsEl eI64 (0 : Int) vals))), sv 7 (i64 ((vals.length : Nat) : Int)), sv 8 (i64 t8)], hp := [], nx := 0 }))) (fun K => by kernel_rfl) (W_bif h (fun _ h => (W_gd2 h fun hp0 h => (W_bif h (fun _ h => ⟨(z65l1C0 vals (vals.getD (Int.toNat t8) (0 : Int))), (.of (.q rfl .nil) .nil rfl), h⟩) (fun _ h => ⟨_, .refl _, h⟩)))) (fun _ h => ⟨(z65l1C1 vals ()), (.of (.q rfl .nil) .nil rfl), h⟩)))
noncomputable def cmp_Or_int_l1 (vals : (List Int)) (s : (Int)) : Option ((Int) ⊕ ((Int) ⊕ (Unit))) := match s with | t8 => cmp_Or_int_p0 vals t8
theorem z65l1ok (vals : (List Int)) (s : (Int)) : Pp Tryz.prog 18 (List.drop 0 z65i1) (z65l1S vals s) (cmp_Or_int_l1 vals s) (nextE (z65l1S vals) (z65l1E vals)) := fun K h => match s, h with | t8, h => (z65p0ok vals t8 _ h)
theorem z65l1Ethen (vals : (List Int)) : ∀ (r : ((Int) ⊕ (Unit))) (J : St → Prop) (K : KT), z65l1E vals r K → z65l1E vals r (thenK J K)
  | (.inl s), _, _, h => h
  | (.inr s), _, _, h => h
def z65p1S : St := { tm := [sv 3 (i64 (0 : Int))], hp := [], nx := 0 }
noncomputable def cmp_Or_int_p1 : Option (Int) := (some (0 : Int))
theorem z65p1ok (K : KT) (h : W (cmp_Or_int_p1) (rE z65R K)) : EvL Tryz.prog 18 (List.drop 4 z65i0) K (z65p1S) :=
  EvL.pE mixed (lookC_ok (l := []) trivial) [2] 4 2 (.nf (X := fun K => wK K .ret (z65R (0 : Int))) (fun K => by kernel_rfl) (⟨_, .refl _, h⟩))
def z65p2S (vals : (List Int)) : St := { tm := [sv 3 (i64 (0 : Int)), sv 6 (.c (.sl 1 vals.length (lsEl eI64 (0 : Int) vals))), sv 7 (i64 ((vals.length : Nat) : Int)), sv 8 (i64 (0 : Int))], hp := [], nx := 0 }
noncomputable def cmp_Or_int_p2_g (vals : (List Int)) (r : ((Int) ⊕ (Unit))) : Option (Int) := match r with | (.inl t2) => (some t2) | (.inr ()) => cmp_Or_int_p1
noncomputable def cmp_Or_int_p2 (vals : (List Int)) : Option (Int) := (fixL (cmp_Or_int_l1 vals) (0 : Int)).bind (cmp_Or_int_p2_g vals)
theorem z65p2at : List.drop 3 z65i0 = .block 0 (.loop (inside (inside (nthI z65i0 3)))) :: List.drop 4 z65i0 := by kernel_rfl
theorem z65p2k (vals : (List Int)) (K : KT) : ∀ r : ((Int) ⊕ (Unit)), W (cmp_Or_int_p2_g vals r) (rE z65R K) → z65l1E vals r (wK (blockK 0 (thenK (EvL Tryz.prog 18 (List.drop 4 z65i0) K) K)))
  | (.inl t2), h => ⟨(z65R t2), (.refl _), h⟩
  | (.inr ()), h => ⟨(z65p1S), (.refl _), (z65p1ok _ h)⟩
theorem z65p2ok (vals : (List Int)) (K : KT) (h : W (cmp_Or_int_p2 vals) (rE z65R K)) : EvL Tryz.prog 18 (List.drop 3 z65i0) K (z65p2S vals) :=
  EvL.at_ z65p2at (EvL.cons_loop (EvOk.weak (EvOk.ent (.refl _) (EvOk.loopF (x := inside (inside (nthI z65i0 3))) (f := cmp_Or_int_l1 vals) (emb := z65l1S vals) (E := z65l1E vals) (z65l1ok vals) (z65l1Ethen vals) (W_loop h (z65p2k vals K))))))
def z65p3S (vals : (List Int)) : St := { tm := [sv 0 (.c (.sl 1 vals.length (lsEl eI64 (0 : Int) vals)))], hp := [], nx := 0 }
noncomputable def cmp_Or_int_p3 (vals : (List Int)) : Option (Int) := (cmp_Or_int_p2 vals)
theorem z65p3ok (vals : (List Int)) (K : KT) (h : W (cmp_Or_int_p3 vals) (rE z65R K)) : EvL Tryz.prog 18 (List.drop 0 z65i0) K (z65p3S vals) :=
  EvL.pD mixed (lookC_ok (l := []) trivial) [3, 6, 7, 8] 0 3 3 (.nf (X := fun K => wK K .normal (z65p2S vals)) (fun K => by kernel_rfl) (⟨_, .refl _, (z65p2ok vals _ h)⟩))
noncomputable def cmp_Or_int (vals : (List Int)) : Option (Int) := cmp_Or_int_p3 vals
theorem z65run (vals : (List Int)) (y_ : Int) (h : cmp_Or_int vals = some y_) : EvL Tryz.prog 18 (items (bodyOf Tryz.f65)) (retK Tryz.prog [.tmp 2] (OutOk (cmp_Or_int_out y_))) (z65p3S vals) :=
  z65p3ok vals _ (W_iff.2 ⟨y_, h, z65Rok y_⟩)
noncomputable def cmp_Or_int_C : Con
  | [(.c (.sl k1 n2 e3))] => some ([LstOk eI64 dI64 1 k1 n2 e3, (cmp_Or_int (lst dI64 n2 e3)).isSome = true], (cmp_Or_int_out ((cmp_Or_int (lst dI64 n2 e3)).getD (0 : Int))))
  | _ => none
theorem cmp_Or_int_ok : Meets Tryz.prog 65 cmp_Or_int_C := by
  refine meets_fun (fn := Tryz.f65) (c := bodyOf Tryz.f65) (by kernel_rfl) (by kernel_rfl) (by kernel_rfl) (rs := [.tmp 2]) (by kernel_rfl) (nt := 18) (by kernel_rfl) fun vs p out h hp => ?_
  unfold cmp_Or_int_C at h
  split at h
  · next k1 n2 e3 =>
    cases h
    obtain ⟨g0, hp⟩ := allq hp
    obtain ⟨g, hp⟩ := allq hp
    obtain ⟨x, hx⟩ := Option.isSome_iff_exists.1 g
    rw [hx]
    exact ⟨[(.c (.sl 1 ((lst dI64 n2 e3)).length (lsEl eI64 (0 : Int) (lst dI64 n2 e3))))], (VLes.cons (VLe.slk g0.1 (RowIs.of_ok g0)) VLes.nil), rfl, z65run (lst dI64 n2 e3) x hx⟩
  · cases h

noncomputable def z46i0 : List Code := items (bodyOf Tryz.f46)
def career_byIdentity_out (x_1 : Int) : Out := .data (i64 x_1)
def z46R (x_1 : Int) : St := { tm := [sv 4 (i64 x_1)], hp := [], nx := 0 }
theorem z46Rok (x_1 : Int) : retK Tryz.prog [.tmp 4] (OutOk (career_byIdentity_out x_1)) .ret (z46R x_1) :=
  retK.intro (v := (i64 x_1)) (by kernel_rfl) ((VLe.rfl' _))
def z46p0S (a b : GFact) : St := { tm := [sv 0 (.ag (eGFact a)), sv 1 (.ag (eGFact b))], hp := [], nx := 0 }
noncomputable def career_byIdentity_p0 (a b : GFact) : Option (Int) := (cmp_Compare_int a.Issuer b.Issuer).bind fun r_1 => ((cmp_Compare_int a.Number b.Number).bind fun r_2 => ((cmp_Or_int ([r_1, r_2] : List Int)).bind fun r_3 => ((some r_3))))
theorem z46p0nf (a b : GFact) (K : KT) (L1_ : List Int) (hL1_ : lst dI64 2 (fun i => (lsEl eI64 (0 : Int) ([((cmp_Compare_int a.Issuer b.Issuer).getD (0 : Int)), ((cmp_Compare_int a.Number b.Number).getD (0 : Int))] : List Int)) (0 + i)) = L1_) :
    ev Tryz.prog (lookC [(65, .pure cmp_Or_int_C), (66, .pure cmp_Compare_int_C)]) 17 (ofItems ((List.drop 0 z46i0).take 3)) (cN [4] K) (z46p0S a b) =
    (((cmp_Compare_int a.Issuer b.Issuer).isSome = true) ∧ ((cmp_Compare_int a.Number b.Number).isSome = true) ∧ (LstOk eI64 dI64 1 1 2 (fun i => (lsEl eI64 (0 : Int) ([((cmp_Compare_int a.Issuer b.Issuer).getD (0 : Int)), ((cmp_Compare_int a.Number b.Number).getD (0 : Int))] : List Int)) (0 + i))) ∧ ((cmp_Or_int L1_).isSome = true) ∧ (wK K .ret (z46R ((cmp_Or_int L1_).getD (0 : Int))))) := by subst hL1_; kernel_rfl
theorem z46p0ok (a b : GFact) (K : KT) (h : W (career_byIdentity_p0 a b) (rE z46R K)) : EvL Tryz.prog 17 (List.drop 0 z46i0) K (z46p0S a b) :=
  EvL.pE mixed (lookC_ok (l := [(65, .pure cmp_Or_int_C), (66, .pure cmp_Compare_int_C)]) ⟨cmp_Or_int_ok, cmp_Compare_int_ok, trivial⟩) [4] 0 3 (.of (z46p0nf a b _ _ (RowIs.lst dI64_eI64 (RowIs.zero (RowIs.ls eI64 (0 : Int) ([((cmp_Compare_int a.Issuer b.Issuer).getD (0 : Int)), ((cmp_Compare_int a.Number b.Number).getD (0 : Int))] : List Int))))) (W_bind (0 : Int) h fun hp0 h => (W_bind (0 : Int) h fun hp1 h => ⟨RowIs.ok dI64_eI64 (RowIs.zero (RowIs.ls eI64 (0 : Int) ([((cmp_Compare_int a.Issuer b.Issuer).getD (0 : Int)), ((cmp_Compare_int a.Number b.Number).getD (0 : Int))] : List Int))), (W_bind (0 : Int) h fun hp2 h => ⟨_, .refl _, h⟩)⟩)))
noncomputable def career_byIdentity (a b : GFact) : Option (Int) := career_byIdentity_p0 a b
theorem z46run (a b : GFact) (y_ : Int) (h : career_byIdentity a b = some y_) : EvL Tryz.prog 17 (items (bodyOf Tryz.f46)) (retK Tryz.prog [.tmp 4] (OutOk (career_byIdentity_out y_))) (z46p0S a b) :=
  z46p0ok a b _ (W_iff.2 ⟨y_, h, z46Rok y_⟩)
noncomputable def career_byIdentity_C : Con
  | [(.agg [(.c (.lit (.int .i64 a1))), (.c (.lit (.int .i64 a2))), (.c (.lit (.int .i64 a3))), (.c (.lit (.bool a4))), (.c (.lit (.int .i64 a5))), (.c (.lit (.int .i64 a6))), (.c (.lit (.int .i64 a7))), (.c (.lit (.int .i64 a8))), (.c (.lit (.int .i64 a9))), (.c (.lit (.int .i64 a10))), (.c (.lit (.int .i64 a11))), (.c (.lit (.int .i64 a12))), (.c (.lit (.int .i64 a13))), (.c (.lit (.int .i64 a14)))]), (.agg [(.c (.lit (.int .i64 a15))), (.c (.lit (.int .i64 a16))), (.c (.lit (.int .i64 a17))), (.c (.lit (.bool a18))), (.c (.lit (.int .i64 a19))), (.c (.lit (.int .i64 a20))), (.c (.lit (.int .i64 a21))), (.c (.lit (.int .i64 a22))), (.c (.lit (.int .i64 a23))), (.c (.lit (.int .i64 a24))), (.c (.lit (.int .i64 a25))), (.c (.lit (.int .i64 a26))), (.c (.lit (.int .i64 a27))), (.c (.lit (.int .i64 a28)))])] => some ([(career_byIdentity (GFact.mk a1 a2 a3 a4 a5 a6 a7 (GSpan.mk a8 a9) a10 a11 a12 a13 a14) (GFact.mk a15 a16 a17 a18 a19 a20 a21 (GSpan.mk a22 a23) a24 a25 a26 a27 a28)).isSome = true], (career_byIdentity_out ((career_byIdentity (GFact.mk a1 a2 a3 a4 a5 a6 a7 (GSpan.mk a8 a9) a10 a11 a12 a13 a14) (GFact.mk a15 a16 a17 a18 a19 a20 a21 (GSpan.mk a22 a23) a24 a25 a26 a27 a28)).getD (0 : Int))))
  | _ => none
theorem career_byIdentity_ok : Meets Tryz.prog 46 career_byIdentity_C := by
  refine meets_fun (fn := Tryz.f46) (c := bodyOf Tryz.f46) (by kernel_rfl) (by kernel_rfl) (by kernel_rfl) (rs := [.tmp 4]) (by kernel_rfl) (nt := 17) (by kernel_rfl) fun vs p out h hp => ?_
  unfold career_byIdentity_C at h
  split at h
  · next a1 a2 a3 a4 a5 a6 a7 a8 a9 a10 a11 a12 a13 a14 a15 a16 a17 a18 a19 a20 a21 a22 a23 a24 a25 a26 a27 a28 =>
    cases h
    obtain ⟨g, hp⟩ := allq hp
    obtain ⟨x, hx⟩ := Option.isSome_iff_exists.1 g
    rw [hx]
    exact ⟨[(.agg [(i64 (GFact.mk a1 a2 a3 a4 a5 a6 a7 (GSpan.mk a8 a9) a10 a11 a12 a13 a14).Issuer), (i64 (GFact.mk a1 a2 a3 a4 a5 a6 a7 (GSpan.mk a8 a9) a10 a11 a12 a13 a14).Number), (i64 (GFact.mk a1 a2 a3 a4 a5 a6 a7 (GSpan.mk a8 a9) a10 a11 a12 a13 a14).Version), (bl (GFact.mk a1 a2 a3 a4 a5 a6 a7 (GSpan.mk a8 a9) a10 a11 a12 a13 a14).Withdrawn), (i64 (GFact.mk a1 a2 a3 a4 a5 a6 a7 (GSpan.mk a8 a9) a10 a11 a12 a13 a14).Person), (i64 (GFact.mk a1 a2 a3 a4 a5 a6 a7 (GSpan.mk a8 a9) a10 a11 a12 a13 a14).Kind), (i64 (GFact.mk a1 a2 a3 a4 a5 a6 a7 (GSpan.mk a8 a9) a10 a11 a12 a13 a14).State), (i64 ((GFact.mk a1 a2 a3 a4 a5 a6 a7 (GSpan.mk a8 a9) a10 a11 a12 a13 a14).Span).From), (i64 ((GFact.mk a1 a2 a3 a4 a5 a6 a7 (GSpan.mk a8 a9) a10 a11 a12 a13 a14).Span).To), (i64 (GFact.mk a1 a2 a3 a4 a5 a6 a7 (GSpan.mk a8 a9) a10 a11 a12 a13 a14).Seat), (i64 (GFact.mk a1 a2 a3 a4 a5 a6 a7 (GSpan.mk a8 a9) a10 a11 a12 a13 a14).Share), (i64 (GFact.mk a1 a2 a3 a4 a5 a6 a7 (GSpan.mk a8 a9) a10 a11 a12 a13 a14).Currency), (i64 (GFact.mk a1 a2 a3 a4 a5 a6 a7 (GSpan.mk a8 a9) a10 a11 a12 a13 a14).Amount), (i64 (GFact.mk a1 a2 a3 a4 a5 a6 a7 (GSpan.mk a8 a9) a10 a11 a12 a13 a14).Ref)]), (.agg [(i64 (GFact.mk a15 a16 a17 a18 a19 a20 a21 (GSpan.mk a22 a23) a24 a25 a26 a27 a28).Issuer), (i64 (GFact.mk a15 a16 a17 a18 a19 a20 a21 (GSpan.mk a22 a23) a24 a25 a26 a27 a28).Number), (i64 (GFact.mk a15 a16 a17 a18 a19 a20 a21 (GSpan.mk a22 a23) a24 a25 a26 a27 a28).Version), (bl (GFact.mk a15 a16 a17 a18 a19 a20 a21 (GSpan.mk a22 a23) a24 a25 a26 a27 a28).Withdrawn), (i64 (GFact.mk a15 a16 a17 a18 a19 a20 a21 (GSpan.mk a22 a23) a24 a25 a26 a27 a28).Person), (i64 (GFact.mk a15 a16 a17 a18 a19 a20 a21 (GSpan.mk a22 a23) a24 a25 a26 a27 a28).Kind), (i64 (GFact.mk a15 a16 a17 a18 a19 a20 a21 (GSpan.mk a22 a23) a24 a25 a26 a27 a28).State), (i64 ((GFact.mk a15 a16 a17 a18 a19 a20 a21 (GSpan.mk a22 a23) a24 a25 a26 a27 a28).Span).From), (i64 ((GFact.mk a15 a16 a17 a18 a19 a20 a21 (GSpan.mk a22 a23) a24 a25 a26 a27 a28).Span).To), (i64 (GFact.mk a15 a16 a17 a18 a19 a20 a21 (GSpan.mk a22 a23) a24 a25 a26 a27 a28).Seat), (i64 (GFact.mk a15 a16 a17 a18 a19 a20 a21 (GSpan.mk a22 a23) a24 a25 a26 a27 a28).Share), (i64 (GFact.mk a15 a16 a17 a18 a19 a20 a21 (GSpan.mk a22 a23) a24 a25 a26 a27 a28).Currency), (i64 (GFact.mk a15 a16 a17 a18 a19 a20 a21 (GSpan.mk a22 a23) a24 a25 a26 a27 a28).Amount), (i64 (GFact.mk a15 a16 a17 a18 a19 a20 a21 (GSpan.mk a22 a23) a24 a25 a26 a27 a28).Ref)])], (VLes.cons (VLe.rfl' _) (VLes.cons (VLe.rfl' _) VLes.nil)), rfl, z46run (GFact.mk a1 a2 a3 a4 a5 a6 a7 (GSpan.mk a8 a9) a10 a11 a12 a13 a14) (GFact.mk a15 a16 a17 a18 a19 a20 a21 (GSpan.mk a22 a23) a24 a25 a26 a27 a28) x hx⟩
  · cases h

noncomputable def z107i0 : List Code := items (bodyOf Tryz.f107)
noncomputable def z107i1 : List Code := items (inside (inside (nthI z107i0 2)))
noncomputable def z107i2 : List Code := items (inside (nthI z107i1 2))
noncomputable def z107i3 : List Code := items (inside (inside (nthI z107i2 2)))
def z107R (x_2 : (List Int)) : St := { tm := [sv 6 (.row 0 1 0 x_2.length)], hp := [(0, some (.row 5 1 x_2.length (lsEl eU8 (0 : Int) x_2)))], nx := 1 }
theorem z107Rok (x_2 : (List Int)) {H : Heap} {nid : Nat} {ps : List Prop} {o : Nat} : retM Tryz.prog [.tmp 6] (fun σ v => ∃ m, Left [o] nid H false { pre := ps, val := .row o 1 0 x_2.length, eff := [(o, some (.row 5 1 x_2.length (lsEl eU8 (0 : Int) x_2)))], kill := [o] } m σ v) .ret (z107R x_2) :=
  retM.intro (v := (.row 0 1 0 x_2.length)) (by kernel_rfl) ⟨_, left_row (q := 0) rfl (fun _ _ => rfl) (.inr fun i hi d hd => scal_U8 _ d hd)⟩
theorem z107RokN (x_2 : (List Int)) {H : Heap} {nid : Nat} {ps : List Prop} : retM Tryz.prog [.tmp 6] (fun σ v => ∃ m, Left [] nid H false { pre := ps, val := .row nid 1 0 x_2.length, eff := [(nid, some (.row 5 1 x_2.length (lsEl eU8 (0 : Int) x_2)))], kill := [] } m σ v) .ret (z107R x_2) :=
  retM.intro (v := (.row 0 1 0 x_2.length)) (by kernel_rfl) ⟨_, left_new (q := 0) rfl (fun _ _ => rfl) (.inr fun i hi d hd => scal_U8 _ d hd)⟩
def z107l1S (b : (List Int)) (size : Int) (numbers : (List Int)) (s : ((List Int) × Int)) : St := match s with | (b_4, t12) => { tm := [sv 0 (.row 0 1 0 b_4.length), sv 1 (i64 size), sv 10 (.c (.sl 1 numbers.length (lsEl eI64 (0 : Int) numbers))), sv 11 (i64 ((numbers.length : Nat) : Int)), sv 12 (i64 t12)], hp := [(0, some (.row 5 1 b_4.length (lsEl eU8 (0 : Int) b_4)))], nx := 1 }
def z107l1C0 (b : (List Int)) (size : Int) (numbers : (List Int)) (s : (List Int)) : St := match s with | b_6 => { tm := [sv 0 (.row 0 1 0 b_6.length)], hp := [(0, some (.row 5 1 b_6.length (lsEl eU8 (0 : Int) b_6)))], nx := 1 }
def z107l1E (b : (List Int)) (size : Int) (numbers : (List Int)) (r : (((List Int)))) (K : KT) : Prop := match r with | s => K (.exit 0) (z107l1C0 b size numbers s)
def z107l2S (b_9 : (List Int)) (size x_1 i_1 : Int) (numbers : (List Int)) (t12_3 : Int) (s : ((List Int) × Int × Int)) : St := match s with | (b_1, i_2, t12_4) => { tm := [sv 0 (.row 0 1 0 b_1.length), sv 1 (i64 size), sv 8 (i64 x_1), sv 9 (i64 i_2), sv 10 (.c (.sl 1 numbers.length (lsEl eI64 (0 : Int) numbers))), sv 11 (i64 ((numbers.length : Nat) : Int)), sv 12 (i64 t12_4)], hp := [(0, some (.row 5 1 b_1.length (lsEl eU8 (0 : Int) b_1)))], nx := 1 }
def z107l2C0 (b_9 : (List Int)) (size x_1 i_1 : Int) (numbers : (List Int)) (t12_3 : Int) (s : (List Int) × Int) : St := match s with | (b_2, t12_5) => { tm := [sv 0 (.row 0 1 0 b_2.length), sv 1 (i64 size), sv 10 (.c (.sl 1 numbers.length (lsEl eI64 (0 : Int) numbers))), sv 11 (i64 ((numbers.length : Nat) : Int)), sv 12 (i64 t12_5)], hp := [(0, some (.row 5 1 b_2.length (lsEl eU8 (0 : Int) b_2)))], nx := 1 }
def z107l2E (b_9 : (List Int)) (size x_1 i_1 : Int) (numbers : (List Int)) (t12_3 : Int) (r : (((List Int) × Int))) (K : KT) : Prop := match r with | s => K (.exit 2) (z107l2C0 b_9 size x_1 i_1 numbers t12_3 s)
def z107p0S (b_1 : (List Int)) (size x_1 i_2 : Int) (numbers : (List Int)) (t12_4 : Int) : St := { tm := [sv 0 (.row 0 1 0 b_1.length), sv 1 (i64 size), sv 8 (i64 x_1), sv 9 (i64 i_2), sv 10 (.c (.sl 1 numbers.length (lsEl eI64 (0 : Int) numbers))), sv 11 (i64 ((numbers.length : Nat) : Int)), sv 12 (i64 t12_4)], hp := [(0, some (.row 5 1 b_1.length (lsEl eU8 (0 : Int) b_1)))], nx := 1 }
noncomputable def fact_appendNumbers_p0 (b_1 : (List Int)) (size x_1 i_2 : Int) (numbers : (List Int)) (t12_4 : Int) : Option (((List Int) × Int × Int) ⊕ (((List Int) × Int))) := (bif (decide ((0 : Int) ≤ i_2)) then gd ((0 : Int) ≤ (w64 ((8 : Int) * i_2))) (gd (capB (b_1.length + 1) 1) ((some (Sum.inl ((b_1 ++ ([(IntKind.u8.wrap (Int.fdiv x_1 (2 ^ min (Int.toNat (w64 ((8 : Int) * i_2))) 64)))] : List Int)), (w64 (i_2 - (1 : Int))), t12_4))))) else (some (Sum.inr (b_1, t12_4))))
theorem z107p0ok (b_1 : (List Int)) (size x_1 i_2 : Int) (numbers : (List Int)) (t12_4 : Int) (b_9 : (List Int)) (i_1 t12_3 : Int) (K : KT) (h : W (fact_appendNumbers_p0 b_1 size x_1 i_2 numbers t12_4) (nE (z107l2S b_9 size x_1 i_1 numbers t12_3) (z107l2E b_9 size x_1 i_1 numbers t12_3) K)) : EvL Tryz.prog 32 (List.drop 0 z107i3) K (z107p0S b_1 size x_1 i_2 numbers t12_4) :=
  EvL.pE mixed (lookC_ok (l := []) trivial) [0, 1, 8, 9, 10, 11, 12] 0 4 (.nf (X := fun K => (bif (decide ((0 : Int) ≤ i_2)) then ((0 : Int) ≤ (w64 ((8 : Int) * i_2))) ∧ (b_1.length = b_1.length) ∧ ((b_1.length + 1) * 1 ≤ 140737488355328) ∧ ((b_1.length + 1) ≤ 140737488355328) ∧ (wK K .normal ({ tm := [sv 0 (.row 0 1 0 (b_1.length + 1)), sv 1 (i64 size), sv 8 (i64 x_1), sv 9 (i64 (w64 (i_2 - (1 : Int)))), sv 10 (.c (.sl 1 numbers.length (lsEl eI64 (0 : Int) numbers))), sv 11 (i64 ((numbers.length : Nat) : Int)), sv 12 (i64 t12_4)], hp := [(0, some (.row 5 1 (b_1.length + 1) (fun i => bif Nat.blt i b_1.length then (lsEl eU8 (0 : Int) b_1) i else (fun i => (litE 1 (eU8 (IntKind.u8.wrap (Int.fdiv x_1 (2 ^ min (Int.toNat (w64 ((8 : Int) * i_2))) 64))))) (0 + i)) (i - b_1.length))))], nx := 1 })) else wK K (.exit 2) ({ tm := [sv 0 (.row 0 1 0 b_1.length), sv 1 (i64 size), sv 8 (i64 x_1), sv 9 (i64 i_2), sv 10 (.c (.sl 1 numbers.length (lsEl eI64 (0 : Int) numbers))), sv 11 (i64 ((numbers.length : Nat) : Int)), sv 12 (i64 t12_4)], hp := [(0, some (.row 5 1 b_1.length (lsEl eU8 (0 : Int) b_1)))], nx := 1 }))) (fun K => by kernel_rfl) (W_bif h (fun _ h => (W_gd h fun hp0 h => ⟨rfl, (W_gd2 h fun hp1 h => ⟨(z107l2S b_9 size x_1 i_1 numbers t12_3 ((b_1 ++ ([(IntKind.u8.wrap (Int.fdiv x_1 (2 ^ min (Int.toNat (w64 ((8 : Int) * i_2))) 64)))] : List Int)), (w64 (i_2 - (1 : Int))), t12_4)), (.of (.cons rfl (.rown (len_app rfl rfl)) (.q rfl (.q rfl (.q rfl (.q rfl (.q rfl (.q rfl .nil))))))) (.row rfl (RowIs.app (RowIs.ls eU8 (0 : Int) b_1) (RowIs.zero (RowIs.l1 (enc := eU8) (z := (0 : Int)) 1 (IntKind.u8.wrap (Int.fdiv x_1 (2 ^ min (Int.toNat (w64 ((8 : Int) * i_2))) 64))) rfl))) .nil rfl) rfl), h⟩)⟩)) (fun _ h => ⟨(z107l2C0 b_9 size x_1 i_1 numbers t12_3 (b_1, t12_4)), (.of (.q rfl (.q rfl (.q rfl (.q rfl (.q rfl .nil))))) (.same rfl .nil) rfl), h⟩)))
noncomputable def fact_appendNumbers_l2 (b_9 : (List Int)) (size x_1 i_1 : Int) (numbers : (List Int)) (t12_3 : Int) (s : ((List Int) × Int × Int)) : Option (((List Int) × Int × Int) ⊕ (((List Int) × Int))) := match s with | (b_1, i_2, t12_4) => fact_appendNumbers_p0 b_1 size x_1 i_2 numbers t12_4
theorem z107l2ok (b_9 : (List Int)) (size x_1 i_1 : Int) (numbers : (List Int)) (t12_3 : Int) (s : ((List Int) × Int × Int)) : Pp Tryz.prog 32 (List.drop 0 z107i3) (z107l2S b_9 size x_1 i_1 numbers t12_3 s) (fact_appendNumbers_l2 b_9 size x_1 i_1 numbers t12_3 s) (nextE (z107l2S b_9 size x_1 i_1 numbers t12_3) (z107l2E b_9 size x_1 i_1 numbers t12_3)) := fun K h => match s, h with | (b_1, i_2, t12_4), h => (z107p0ok b_1 size x_1 i_2 numbers t12_4 b_9 i_1 t12_3 _ h)
theorem z107l2Ethen (b_9 : (List Int)) (size x_1 i_1 : Int) (numbers : (List Int)) (t12_3 : Int) : ∀ (r : (((List Int) × Int))) (J : St → Prop) (K : KT), z107l2E b_9 size x_1 i_1 numbers t12_3 r K → z107l2E b_9 size x_1 i_1 numbers t12_3 r (thenK J K)
  | s, _, _, h => h
def z107p1S (b_3 : (List Int)) (size : Int) (numbers : (List Int)) (t12_6 : Int) : St := { tm := [sv 0 (.row 0 1 0 b_3.length), sv 1 (i64 size), sv 10 (.c (.sl 1 numbers.length (lsEl eI64 (0 : Int) numbers))), sv 11 (i64 ((numbers.length : Nat) : Int)), sv 12 (i64 t12_6)], hp := [(0, some (.row 5 1 b_3.length (lsEl eU8 (0 : Int) b_3)))], nx := 1 }
noncomputable def fact_appendNumbers_p1 (b_3 : (List Int)) (size : Int) (numbers : (List Int)) (t12_6 : Int) : Option (((List Int) × Int) ⊕ (((List Int)))) := (some (Sum.inl (b_3, (w64 (t12_6 + (1 : Int))))))
theorem z107p1ok (b_3 : (List Int)) (size : Int) (numbers : (List Int)) (t12_6 : Int) (b : (List Int)) (K : KT) (h : W (fact_appendNumbers_p1 b_3 size numbers t12_6) (nE (z107l1S b size numbers) (z107l1E b size numbers) K)) : EvL Tryz.prog 32 (List.drop 3 z107i1) K (z107p1S b_3 size numbers t12_6) :=
  EvL.pE mixed (lookC_ok (l := []) trivial) [0, 1, 10, 11, 12] 3 1 (.nf (X := fun K => wK K .normal (z107l1S b size numbers (b_3, (w64 (t12_6 + (1 : Int)))))) (fun K => by kernel_rfl) (⟨_, .refl _, h⟩))
def z107p2S (b_9 : (List Int)) (size x_1 i_1 : Int) (numbers : (List Int)) (t12_3 : Int) : St := { tm := [sv 0 (.row 0 1 0 b_9.length), sv 1 (i64 size), sv 8 (i64 x_1), sv 9 (i64 i_1), sv 10 (.c (.sl 1 numbers.length (lsEl eI64 (0 : Int) numbers))), sv 11 (i64 ((numbers.length : Nat) : Int)), sv 12 (i64 t12_3)], hp := [(0, some (.row 5 1 b_9.length (lsEl eU8 (0 : Int) b_9)))], nx := 1 }
noncomputable def fact_appendNumbers_p2_g (b_9 : (List Int)) (size x_1 i_1 : Int) (numbers : (List Int)) (t12_3 : Int) (r : (((List Int) × Int))) : Option (((List Int) × Int) ⊕ (((List Int)))) := match r with | (b_2, t12_5) => (fact_appendNumbers_p1 b_2 size numbers t12_5)
noncomputable def fact_appendNumbers_p2 (b_9 : (List Int)) (size x_1 i_1 : Int) (numbers : (List Int)) (t12_3 : Int) : Option (((List Int) × Int) ⊕ (((List Int)))) := (fixL (fact_appendNumbers_l2 b_9 size x_1 i_1 numbers t12_3) (b_9, i_1, t12_3)).bind (fact_appendNumbers_p2_g b_9 size x_1 i_1 numbers t12_3)
theorem z107p2at : List.drop 2 z107i2 = .block 2 (.loop (inside (inside (nthI z107i2 2)))) :: List.drop 3 z107i2 := by kernel_rfl
theorem z107p2k (b_9 : (List Int)) (size x_1 i_1 : Int) (numbers : (List Int)) (t12_3 : Int) (b : (List Int)) (K : KT) : ∀ r : (((List Int) × Int)), W (fact_appendNumbers_p2_g b_9 size x_1 i_1 numbers t12_3 r) (nE (z107l1S b size numbers) (z107l1E b size numbers) K) → z107l2E b_9 size x_1 i_1 numbers t12_3 r (wK (blockK 2 (thenK (EvL Tryz.prog 32 (List.drop 3 z107i2) (blockK 1 (thenK (EvL Tryz.prog 32 (List.drop 3 z107i1) K) K))) (blockK 1 (thenK (EvL Tryz.prog 32 (List.drop 3 z107i1) K) K)))))
  | (b_2, t12_5), h => ⟨(z107p1S b_2 size numbers t12_5), (.refl _), (EvL.end_ (by kernel_rfl : List.drop 3 z107i2 = []) (z107p1ok b_2 size numbers t12_5 b _ h))⟩
theorem z107p2ok (b_9 : (List Int)) (size x_1 i_1 : Int) (numbers : (List Int)) (t12_3 : Int) (b : (List Int)) (K : KT) (h : W (fact_appendNumbers_p2 b_9 size x_1 i_1 numbers t12_3) (nE (z107l1S b size numbers) (z107l1E b size numbers) K)) : EvL Tryz.prog 32 (List.drop 2 z107i2) (blockK 1 (thenK (EvL Tryz.prog 32 (List.drop 3 z107i1) K) K)) (z107p2S b_9 size x_1 i_1 numbers t12_3) :=
  EvL.at_ z107p2at (EvL.cons_loop (EvOk.weak (EvOk.ent (.refl _) (EvOk.loopF (x := inside (inside (nthI z107i2 2))) (f := fact_appendNumbers_l2 b_9 size x_1 i_1 numbers t12_3) (emb := z107l2S b_9 size x_1 i_1 numbers t12_3) (E := z107l2E b_9 size x_1 i_1 numbers t12_3) (z107l2ok b_9 size x_1 i_1 numbers t12_3) (z107l2Ethen b_9 size x_1 i_1 numbers t12_3) (W_loop h (z107p2k b_9 size x_1 i_1 numbers t12_3 b K))))))
def z107p3S (b_7 : (List Int)) (size : Int) (numbers : (List Int)) (t12_2 : Int) : St := { tm := [sv 0 (.row 0 1 0 b_7.length), sv 1 (i64 size), sv 10 (.c (.sl 1 numbers.length (lsEl eI64 (0 : Int) numbers))), sv 11 (i64 ((numbers.length : Nat) : Int)), sv 12 (i64 t12_2)], hp := [(0, some (.row 5 1 b_7.length (lsEl eU8 (0 : Int) b_7)))], nx := 1 }
noncomputable def fact_appendNumbers_p3 (b_7 : (List Int)) (size : Int) (numbers : (List Int)) (t12_2 : Int) : Option (((List Int) × Int) ⊕ (((List Int)))) := gd ((0 : Int) ≤ t12_2 ∧ t12_2 < ((numbers.length : Nat) : Int)) ((fact_appendNumbers_p2 b_7 size (numbers.getD (Int.toNat t12_2) (0 : Int)) (w64 (size - (1 : Int))) numbers t12_2))
theorem z107p3ok (b_7 : (List Int)) (size : Int) (numbers : (List Int)) (t12_2 : Int) (b : (List Int)) (K : KT) (h : W (fact_appendNumbers_p3 b_7 size numbers t12_2) (nE (z107l1S b size numbers) (z107l1E b size numbers) K)) : EvL Tryz.prog 32 (List.drop 0 z107i2) (blockK 1 (thenK (EvL Tryz.prog 32 (List.drop 3 z107i1) K) K)) (z107p3S b_7 size numbers t12_2) :=
  EvL.pD mixed (lookC_ok (l := []) trivial) [0, 1, 8, 9, 10, 11, 12] 0 2 2 (.nf (X := fun K => ((0 : Int) ≤ t12_2) ∧ (t12_2 < ((numbers.length : Nat) : Int)) ∧ (wK K .normal (z107p2S b_7 size (numbers.getD (Int.toNat t12_2) (0 : Int)) (w64 (size - (1 : Int))) numbers t12_2))) (fun K => by kernel_rfl) (W_gd2 h fun hp0 h => ⟨_, .refl _, (z107p2ok b_7 size (numbers.getD (Int.toNat t12_2) (0 : Int)) (w64 (size - (1 : Int))) numbers t12_2 b _ h)⟩))
def z107p4S (b_5 : (List Int)) (size : Int) (numbers : (List Int)) (t12_1 : Int) : St := { tm := [sv 0 (.row 0 1 0 b_5.length), sv 1 (i64 size), sv 10 (.c (.sl 1 numbers.length (lsEl eI64 (0 : Int) numbers))), sv 11 (i64 ((numbers.length : Nat) : Int)), sv 12 (i64 t12_1)], hp := [(0, some (.row 5 1 b_5.length (lsEl eU8 (0 : Int) b_5)))], nx := 1 }
noncomputable def fact_appendNumbers_p4 (b_5 : (List Int)) (size : Int) (numbers : (List Int)) (t12_1 : Int) : Option (((List Int) × Int) ⊕ (((List Int)))) := (fact_appendNumbers_p3 b_5 size numbers t12_1)
theorem z107p4at : List.drop 2 z107i1 = .block 1 (inside (nthI z107i1 2)) :: List.drop 3 z107i1 := by kernel_rfl
theorem z107p4ok (b_5 : (List Int)) (size : Int) (numbers : (List Int)) (t12_1 : Int) (b : (List Int)) (K : KT) (h : W (fact_appendNumbers_p4 b_5 size numbers t12_1) (nE (z107l1S b size numbers) (z107l1E b size numbers) K)) : EvL Tryz.prog 32 (List.drop 2 z107i1) K (z107p4S b_5 size numbers t12_1) :=
  EvL.at_ z107p4at (EvL.cons_block (EvL.ent (.refl _) (z107p3ok b_5 size numbers t12_1 b _ h)))
def z107p5S (b_4 : (List Int)) (size : Int) (numbers : (List Int)) (t12 : Int) : St := { tm := [sv 0 (.row 0 1 0 b_4.length), sv 1 (i64 size), sv 10 (.c (.sl 1 numbers.length (lsEl eI64 (0 : Int) numbers))), sv 11 (i64 ((numbers.length : Nat) : Int)), sv 12 (i64 t12)], hp := [(0, some (.row 5 1 b_4.length (lsEl eU8 (0 : Int) b_4)))], nx := 1 }
noncomputable def fact_appendNumbers_p5 (b_4 : (List Int)) (size : Int) (numbers : (List Int)) (t12 : Int) : Option (((List Int) × Int) ⊕ (((List Int)))) := (bif (decide (t12 < ((numbers.length : Nat) : Int))) then (fact_appendNumbers_p4 b_4 size numbers t12) else (some (Sum.inr b_4)))
theorem z107p5ok (b_4 : (List Int)) (size : Int) (numbers : (List Int)) (t12 : Int) (b : (List Int)) (K : KT) (h : W (fact_appendNumbers_p5 b_4 size numbers t12) (nE (z107l1S b size numbers) (z107l1E b size numbers) K)) : EvL Tryz.prog 32 (List.drop 0 z107i1) K (z107p5S b_4 size numbers t12) :=
  EvL.pD mixed (lookC_ok (l := []) trivial) [0, 1, 10, 11, 12] 0 2 2 (.nf (X := fun K => (bif (decide (t12 < ((numbers.length : Nat) : Int))) then wK K .normal (z107p4S b_4 size numbers t12) else wK K (.exit 0) ({ tm := [sv 0 (.row 0 1 0 b_4.length), sv 1 (i64 size), sv 10 (.c (.sl 1 numbers.length (lsEl eI64 (0 : Int) numbers))), sv 11 (i64 ((numbers.length : Nat) : Int)), sv 12 (i64 t12)], hp := [(0, some (.row 5 1 b_4.length (lsEl eU8 (0 : Int) b_4)))], nx := 1 }))) (fun K => by kernel_rfl) (W_bif h (fun _ h => ⟨_, .refl _, (z107p4ok b_4 size numbers t12 b _ h)⟩) (fun _ h => ⟨(z107l1C0 b size numbers b_4), (.of (.q rfl .nil) (.same rfl .nil) rfl), h⟩)))
noncomputable def fact_appendNumbers_l1 (b : (List Int)) (size : Int) (numbers : (List Int)) (s : ((List Int) × Int)) : Option (((List Int) × Int) ⊕ (((List Int)))) := match s with | (b_4, t12) => fact_appendNumbers_p5 b_4 size numbers t12
theorem z107l1ok (b : (List Int)) (size : Int) (numbers : (List Int)) (s : ((List Int) × Int)) : Pp Tryz.prog 32 (List.drop 0 z107i1) (z107l1S b size numbers s) (fact_appendNumbers_l1 b size numbers s) (nextE (z107l1S b size numbers) (z107l1E b size numbers)) := fun K h => match s, h with | (b_4, t12), h => (z107p5ok b_4 size numbers t12 b _ h)
theorem z107l1Ethen (b : (List Int)) (size : Int) (numbers : (List Int)) : ∀ (r : (((List Int)))) (J : St → Prop) (K : KT), z107l1E b size numbers r K → z107l1E b size numbers r (thenK J K)
  | s, _, _, h => h
def z107p6S (b_8 : (List Int)) : St := { tm := [sv 0 (.row 0 1 0 b_8.length)], hp := [(0, some (.row 5 1 b_8.length (lsEl eU8 (0 : Int) b_8)))], nx := 1 }
noncomputable def fact_appendNumbers_p6 (b_8 : (List Int)) : Option ((List Int)) := (some b_8)
theorem z107p6ok (b_8 : (List Int)) (K : KT) (h : W (fact_appendNumbers_p6 b_8) (rE z107R K)) : EvL Tryz.prog 32 (List.drop 3 z107i0) K (z107p6S b_8) :=
  EvL.pE mixed (lookC_ok (l := []) trivial) [6] 3 2 (.nf (X := fun K => wK K .ret (z107R b_8)) (fun K => by kernel_rfl) (⟨_, .refl _, h⟩))
def z107p7S (b : (List Int)) (size : Int) (numbers : (List Int)) : St := { tm := [sv 0 (.row 0 1 0 b.length), sv 1 (i64 size), sv 10 (.c (.sl 1 numbers.length (lsEl eI64 (0 : Int) numbers))), sv 11 (i64 ((numbers.length : Nat) : Int)), sv 12 (i64 (0 : Int))], hp := [(0, some (.row 5 1 b.length (lsEl eU8 (0 : Int) b)))], nx := 1 }
noncomputable def fact_appendNumbers_p7_g (b : (List Int)) (size : Int) (numbers : (List Int)) (r : (((List Int)))) : Option ((List Int)) := match r with | b_6 => (fact_appendNumbers_p6 b_6)
noncomputable def fact_appendNumbers_p7 (b : (List Int)) (size : Int) (numbers : (List Int)) : Option ((List Int)) := (fixL (fact_appendNumbers_l1 b size numbers) (b, (0 : Int))).bind (fact_appendNumbers_p7_g b size numbers)
theorem z107p7at : List.drop 2 z107i0 = .block 0 (.loop (inside (inside (nthI z107i0 2)))) :: List.drop 3 z107i0 := by kernel_rfl
theorem z107p7k (b : (List Int)) (size : Int) (numbers : (List Int)) (K : KT) : ∀ r : (((List Int))), W (fact_appendNumbers_p7_g b size numbers r) (rE z107R K) → z107l1E b size numbers r (wK (blockK 0 (thenK (EvL Tryz.prog 32 (List.drop 3 z107i0) K) K)))
  | b_6, h => ⟨(z107p6S b_6), (.refl _), (z107p6ok b_6 _ h)⟩
theorem z107p7ok (b : (List Int)) (size : Int) (numbers : (List Int)) (K : KT) (h : W (fact_appendNumbers_p7 b size numbers) (rE z107R K)) : EvL Tryz.prog 32 (List.drop 2 z107i0) K (z107p7S b size numbers) :=
  EvL.at_ z107p7at (EvL.cons_loop (EvOk.weak (EvOk.ent (.refl _) (EvOk.loopF (x := inside (inside (nthI z107i0 2))) (f := fact_appendNumbers_l1 b size numbers) (emb := z107l1S b size numbers) (E := z107l1E b size numbers) (z107l1ok b size numbers) (z107l1Ethen b size numbers) (W_loop h (z107p7k b size numbers K))))))
def z107p8S (b : (List Int)) (size : Int) (numbers : (List Int)) : St := { tm := [sv 0 (.row 0 1 0 b.length), sv 1 (i64 size), sv 2 (.c (.sl 1 numbers.length (lsEl eI64 (0 : Int) numbers)))], hp := [(0, some (.row 5 1 b.length (lsEl eU8 (0 : Int) b)))], nx := 1 }
noncomputable def fact_appendNumbers_p8 (b : (List Int)) (size : Int) (numbers : (List Int)) : Option ((List Int)) := (fact_appendNumbers_p7 b size numbers)
theorem z107p8ok (b : (List Int)) (size : Int) (numbers : (List Int)) (K : KT) (h : W (fact_appendNumbers_p8 b size numbers) (rE z107R K)) : EvL Tryz.prog 32 (List.drop 0 z107i0) K (z107p8S b size numbers) :=
  EvL.pD mixed (lookC_ok (l := []) trivial) [0, 1, 10, 11, 12] 0 2 2 (.nf (X := fun K => wK K .normal (z107p7S b size numbers)) (fun K => by kernel_rfl) (⟨_, .refl _, (z107p7ok b size numbers _ h)⟩))
noncomputable def fact_appendNumbers (b : (List Int)) (size : Int) (numbers : (List Int)) : Option ((List Int)) := fact_appendNumbers_p8 b size numbers
noncomputable def fact_appendNumbers_C : Heap → Nat → List V → Option Res := fun H nid args => match viewF H [true, false, false] args with
  | [(.row o_ k_ f_ n_), (.c (.lit (.int .i64 a1))), (.c (.sl k2 n3 e4))] => (match Heap.get H o_ with
    | some (.row t_ k2_ m_ e_) => bif Nat.beq t_ 5 && Nat.beq k2_ 1 && Nat.beq k_ 1 && Nat.beq f_ 0 && handOk [o_] H false [true, false, false] args then some { pre := [n_ = m_, LstOk eU8 dU8 1 1 m_ e_, LstOk eI64 dI64 1 k2 n3 e4, (fact_appendNumbers (lst dU8 m_ e_) a1 (lst dI64 n3 e4)).isSome = true], val := .row o_ 1 0 ((fact_appendNumbers (lst dU8 m_ e_) a1 (lst dI64 n3 e4)).getD ([] : List Int)).length, eff := [(o_, some (.row 5 1 ((fact_appendNumbers (lst dU8 m_ e_) a1 (lst dI64 n3 e4)).getD ([] : List Int)).length (lsEl eU8 (0 : Int) ((fact_appendNumbers (lst dU8 m_ e_) a1 (lst dI64 n3 e4)).getD ([] : List Int)))))], kill := [o_] } else none
    | _ => none)
  | [(.c .nil), (.c (.lit (.int .i64 a1))), (.c (.sl k2 n3 e4))] => bif handOk [] H false [true, false, false] args then some { pre := [LstOk eI64 dI64 1 k2 n3 e4, (fact_appendNumbers ([] : List Int) a1 (lst dI64 n3 e4)).isSome = true], val := .row nid 1 0 ((fact_appendNumbers ([] : List Int) a1 (lst dI64 n3 e4)).getD ([] : List Int)).length, eff := [(nid, some (.row 5 1 ((fact_appendNumbers ([] : List Int) a1 (lst dI64 n3 e4)).getD ([] : List Int)).length (lsEl eU8 (0 : Int) ((fact_appendNumbers ([] : List Int) a1 (lst dI64 n3 e4)).getD ([] : List Int)))))], kill := [] } else none
  | _ => none
theorem fact_appendNumbers_ok : MeetsC Tryz.prog 107 (.mut fact_appendNumbers_C) := by
  refine meets_row (fn := Tryz.f107) (c := bodyOf Tryz.f107) (by kernel_rfl) (by kernel_rfl) (by kernel_rfl) (rs := [.tmp 6]) (by kernel_rfl) (nt := 32) (by kernel_rfl) fun H nid args r h hp => ?_
  unfold fact_appendNumbers_C at h
  split at h
  · next o_ k_ f_ n_ a1 k2 n3 e4 hv =>
    split at h
    · next t_ k2_ m_ e_ hg =>
      cases hb : (Nat.beq t_ 5 && Nat.beq k2_ 1 && Nat.beq k_ 1 && Nat.beq f_ 0 && handOk [o_] H false [true, false, false] args) with
      | false => rw [hb] at h; cases h
      | true =>
        rw [hb] at h
        simp only [Bool.and_eq_true, Nat.beq_eq] at hb
        obtain ⟨⟨⟨⟨rfl, rfl⟩, rfl⟩, rfl⟩, hk⟩ := hb
        cases h
        obtain ⟨hn, hp⟩ := allq hp
        obtain ⟨gr, hp⟩ := allq hp
        obtain ⟨g0, hp⟩ := allq hp
        obtain ⟨g, hp⟩ := allq hp
        obtain ⟨x, hx⟩ := Option.isSome_iff_exists.1 g
        rw [hx]
        subst hn
        exact .inl ⟨false, [true, false, false], o_, 5, 1, _, e_, [.row 0 1 0 (lst dU8 _ e_).length, (i64 a1), (.c (.sl 1 ((lst dI64 n3 e4)).length (lsEl eI64 (0 : Int) (lst dI64 n3 e4))))], hg, hk, by rw [hv]; simp only [renF, cond_true, cond_false, ren_row1]; exact (VLes.cons (VLe.rown (RowIs.of_ok (z := (0 : Int)) gr).len) (VLes.cons (VLe.rfl' _) (VLes.cons (VLe.slk g0.1 (RowIs.of_ok g0)) VLes.nil))), rfl, EvL.ent (Ent.of (tmLe.cons rfl (VLe.rfl' _) (tmLe.cons rfl (VLe.rfl' _) (tmLe.cons rfl (VLe.rfl' _) tmLe.nil))) (hpLe.row rfl (RowIs.of_ok gr) hpLe.nil rfl) rfl) (z107p8ok (lst dU8 _ e_) a1 (lst dI64 n3 e4) _ (W_iff.2 ⟨x, hx, z107Rok x⟩))⟩
    · cases h
  · next a1 k2 n3 e4 hv =>
    cases hb : handOk [] H false [true, false, false] args with
      | false => rw [hb] at h; cases h
      | true =>
        rw [hb] at h
        cases h
        obtain ⟨g0, hp⟩ := allq hp
        obtain ⟨g, hp⟩ := allq hp
        obtain ⟨x, hx⟩ := Option.isSome_iff_exists.1 g
        rw [hx]
        exact .inr ⟨false, [true, false, false], [.c .nil, (i64 a1), (.c (.sl 1 ((lst dI64 n3 e4)).length (lsEl eI64 (0 : Int) (lst dI64 n3 e4))))], hb, by rw [hv]; simp only [renF, cond_true, cond_false]; exact (VLes.cons (VLe.rfl' _) (VLes.cons (VLe.rfl' _) (VLes.cons (VLe.slk g0.1 (RowIs.of_ok g0)) VLes.nil))), rfl, EvL.ent (Ent.trans (Ent.nilrow 0 0 5 1 (lsEl eU8 (0 : Int) []) (Nat.le_refl _) rfl) (Ent.of (tmLe.cons rfl (VLe.rown rfl) (tmLe.cons rfl (VLe.rfl' _) (tmLe.cons rfl (VLe.rfl' _) tmLe.nil))) (hpLe.row rfl (RowIs.ls eU8 (0 : Int) []) hpLe.nil rfl) rfl)) (z107p8ok ([] : List Int) a1 (lst dI64 n3 e4) _ (W_iff.2 ⟨x, hx, z107RokN x⟩))⟩
  · cases h

end Go.Ax
