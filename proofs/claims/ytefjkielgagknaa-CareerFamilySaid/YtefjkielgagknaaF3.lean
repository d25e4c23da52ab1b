import Derived.Test.YtefjkielgagknaaF2
import Derived.Test.YtefjkielgagknaaLay
import Derived.Test.YtefjkielgagknaaRows
/- Types of the program, and functions of it: printed by a program, checked by the kernel. -/
set_option linter.all false
set_option maxRecDepth 100000
namespace Go.Ax
open Go.Proofs Go.Proofs.Ytefjkielgagknaa
noncomputable def z51i0 : List Code := items (bodyOf Try.f51)
def fact_Uses_out (x_1 : ByteArray) : Out := .data (str x_1)
def z51R (x_1 : ByteArray) : St := { tm := [sv 2 (str x_1)], hp := [], nx := 0 }
theorem z51Rok (x_1 : ByteArray) : retK Try.prog [.tmp 2] (OutOk (fact_Uses_out x_1)) .ret (z51R x_1) :=
  retK.intro (v := (str x_1)) (by kernel_rfl) ((VLe.rfl' _))
def z51p0S : St := { tm := [], hp := [], nx := 0 }
noncomputable def fact_Uses_p0 : Option (ByteArray) := (some (bstr []))
theorem z51p0ok (K : KT) (h : W (fact_Uses_p0) (rE z51R K)) : EvL Try.prog 26 (List.drop 3 z51i0) K (z51p0S) :=
  EvL.pE mixed (lookC_ok (l := []) trivial) [2] 3 2 (.nf (X := fun K => wK K .ret (z51R (bstr []))) (fun K => by kernel_rfl) (⟨_, .refl _, h⟩))
def z51p1S (kind : Int) : St := { tm := [sv 0 (i64 kind)], hp := [], nx := 0 }
noncomputable def fact_Uses_p1 (kind : Int) : Option (ByteArray) := (bif (kind == (1 : Int)) then (some (bstr [83, 80, 84, 72, 67, 65])) else (bif (kind == (2 : Int)) then (bif (kind == (2 : Int)) then (some (bstr [83, 80, 72, 67, 65])) else (bif (kind == (4 : Int)) then (some (bstr [83, 80, 84])) else (bif (kind == (5 : Int)) then (bif (kind == (5 : Int)) then (some (bstr [83, 80])) else (bif (kind == (6 : Int)) then (some (bstr [83, 80, 67, 65])) else (bif (kind == (10 : Int)) then (some (bstr [83, 80, 82])) else (bif (kind == (11 : Int)) then (bif (kind == (11 : Int)) then (some (bstr [80])) else (bif (kind == (14 : Int)) then (some (bstr [80, 82])) else fact_Uses_p0)) else (bif (kind == (12 : Int)) then (bif (kind == (12 : Int)) then (some (bstr [80])) else (bif (kind == (14 : Int)) then (some (bstr [80, 82])) else fact_Uses_p0)) else (bif (kind == (13 : Int)) then (some (bstr [80])) else (bif (kind == (14 : Int)) then (some (bstr [80, 82])) else fact_Uses_p0))))))) else (bif (kind == (7 : Int)) then (bif (kind == (7 : Int)) then (some (bstr [83, 80])) else (bif (kind == (6 : Int)) then (some (bstr [83, 80, 67, 65])) else (bif (kind == (10 : Int)) then (some (bstr [83, 80, 82])) else (bif (kind == (11 : Int)) then (bif (kind == (11 : Int)) then (some (bstr [80])) else (bif (kind == (14 : Int)) then (some (bstr [80, 82])) else fact_Uses_p0)) else (bif (kind == (12 : Int)) then (bif (kind == (12 : Int)) then (some (bstr [80])) else (bif (kind == (14 : Int)) then (some (bstr [80, 82])) else fact_Uses_p0)) else (bif (kind == (13 : Int)) then (some (bstr [80])) else (bif (kind == (14 : Int)) then (some (bstr [80, 82])) else fact_Uses_p0))))))) else (bif (kind == (8 : Int)) then (bif (kind == (8 : Int)) then (some (bstr [83, 80])) else (bif (kind == (6 : Int)) then (some (bstr [83, 80, 67, 65])) else (bif (kind == (10 : Int)) then (some (bstr [83, 80, 82])) else (bif (kind == (11 : Int)) then (bif (kind == (11 : Int)) then (some (bstr [80])) else (bif (kind == (14 : Int)) then (some (bstr [80, 82])) else fact_Uses_p0)) else (bif (kind == (12 : Int)) then (bif (kind == (12 : Int)) then (some (bstr [80])) else (bif (kind == (14 : Int)) then (some (bstr [80, 82])) else fact_Uses_p0)) else (bif (kind == (13 : Int)) then (some (bstr [80])) else (bif (kind == (14 : Int)) then (some (bstr [80, 82])) else fact_Uses_p0))))))) else (bif (kind == (9 : Int)) then (some (bstr [83, 80])) else (bif (kind == (6 : Int)) then (some (bstr [83, 80, 67, 65])) else (bif (kind == (10 : Int)) then (some (bstr [83, 80, 82])) else (bif (kind == (11 : Int)) then (bif (kind == (11 : Int)) then (some (bstr [80])) else (bif (kind == (14 : Int)) then (some (bstr [80, 82])) else fact_Uses_p0)) else (bif (kind == (12 : Int)) then (bif (kind == (12 : Int)) then (some (bstr [80])) else (bif (kind == (14 : Int)) then (some (bstr [80, 82])) else fact_Uses_p0)) else (bif (kind == (13 : Int)) then (some (bstr [80])) else (bif (kind == (14 : Int)) then (some (bstr [80, 82])) else fact_Uses_p0)))))))))))) else (bif (kind == (3 : Int)) then (some (bstr [83, 80, 72, 67, 65])) else (bif (kind == (4 : Int)) then (some (bstr [83, 80, 84])) else (bif (kind == (5 : Int)) then (bif (kind == (5 : Int)) then (some (bstr [83, 80])) else (bif (kind == (6 : Int)) then (some (bstr [83, 80, 67, 65])) else (bif (kind == (10 : Int)) then (some (bstr [83, 80, 82])) else (bif (kind == (11 : Int)) then (bif (kind == (11 : Int)) then (some (bstr [80])) else (bif (kind == (14 : Int)) then (some (bstr [80, 82])) else fact_Uses_p0)) else (bif (kind == (12 : Int)) then (bif (kind == (12 : Int)) then (some (bstr [80])) else (bif (kind == (14 : Int)) then (some (bstr [80, 82])) else fact_Uses_p0)) else (bif (kind == (13 : Int)) then (some (bstr [80])) else (bif (kind == (14 : Int)) then (some (bstr [80, 82])) else fact_Uses_p0))))))) else (bif (kind == (7 : Int)) then (bif (kind == (7 : Int)) then (some (bstr [83, 80])) else (bif (kind == (6 : Int)) then (some (bstr [83, 80, 67, 65])) else (bif (kind == (10 : Int)) then (some (bstr [83, 80, 82])) else (bif (kind == (11 : Int)) then (bif (kind == (11 : Int)) then (some (bstr [80])) else (bif (kind == (14 : Int)) then (some (bstr [80, 82])) else fact_Uses_p0)) else (bif (kind == (12 : Int)) then (bif (kind == (12 : Int)) then (some (bstr [80])) else (bif (kind == (14 : Int)) then (some (bstr [80, 82])) else fact_Uses_p0)) else (bif (kind == (13 : Int)) then (some (bstr [80])) else (bif (kind == (14 : Int)) then (some (bstr [80, 82])) else fact_Uses_p0))))))) else (bif (kind == (8 : Int)) then (bif (kind == (8 : Int)) then (some (bstr [83, 80])) else (bif (kind == (6 : Int)) then (some (bstr [83, 80, 67, 65])) else (bif (kind == (10 : Int)) then (some (bstr [83, 80, 82])) else (bif (kind == (11 : Int)) then (bif (kind == (11 : Int)) then (some (bstr [80])) else (bif (kind == (14 : Int)) then (some (bstr [80, 82])) else fact_Uses_p0)) else (bif (kind == (12 : Int)) then (bif (kind == (12 : Int)) then (some (bstr [80])) else (bif (kind == (14 : Int)) then (some (bstr [80, 82])) else fact_Uses_p0)) else (bif (kind == (13 : Int)) then (some (bstr [80])) else (bif (kind == (14 : Int)) then (some (bstr [80, 82])) else fact_Uses_p0))))))) else (bif (kind == (9 : Int)) then (some (bstr [83, 80])) else (bif (kind == (6 : Int)) then (some (bstr [83, 80, 67, 65])) else (bif (kind == (10 : Int)) then (some (bstr [83, 80, 82])) else (bif (kind == (11 : Int)) then (bif (kind == (11 : Int)) then (some (bstr [80])) else (bif (kind == (14 : Int)) then (some (bstr [80, 82])) else fact_Uses_p0)) else (bif (kind == (12 : Int)) then (bif (kind == (12 : Int)) then (some (bstr [80])) else (bif (kind == (14 : Int)) then (some (bstr [80, 82])) else fact_Uses_p0)) else (bif (kind == (13 : Int)) then (some (bstr [80])) else (bif (kind == (14 : Int)) then (some (bstr [80, 82])) else fact_Uses_p0))))))))))))))
theorem z51p1ok (kind : Int) (K : KT) (h : W (fact_Uses_p1 kind) (rE z51R K)) : EvL Try.prog 26 (List.drop 0 z51i0) K (z51p1S kind) :=
  EvL.pD mixed (lookC_ok (l := []) trivial) [2] 0 3 3 (.nf (X := fun K => (bif (kind == (1 : Int)) then wK K .ret (z51R (bstr [83, 80, 84, 72, 67, 65])) else (bif (kind == (2 : Int)) then (bif (kind == (2 : Int)) then wK K .ret (z51R (bstr [83, 80, 72, 67, 65])) else (bif (kind == (4 : Int)) then wK K .ret (z51R (bstr [83, 80, 84])) else (bif (kind == (5 : Int)) then (bif (kind == (5 : Int)) then wK K .ret (z51R (bstr [83, 80])) else (bif (kind == (6 : Int)) then wK K .ret (z51R (bstr [83, 80, 67, 65])) else (bif (kind == (10 : Int)) then wK K .ret (z51R (bstr [83, 80, 82])) else (bif (kind == (11 : Int)) then (bif (kind == (11 : Int)) then wK K .ret (z51R (bstr [80])) else (bif (kind == (14 : Int)) then wK K .ret (z51R (bstr [80, 82])) else wK K .normal ({ tm := [sv 2 (str (bstr []))], hp := [], nx := 0 }))) else (bif (kind == (12 : Int)) then (bif (kind == (12 : Int)) then wK K .ret (z51R (bstr [80])) else (bif (kind == (14 : Int)) then wK K .ret (z51R (bstr [80, 82])) else wK K .normal ({ tm := [sv 2 (str (bstr []))], hp := [], nx := 0 }))) else (bif (kind == (13 : Int)) then wK K .ret (z51R (bstr [80])) else (bif (kind == (14 : Int)) then wK K .ret (z51R (bstr [80, 82])) else wK K .normal ({ tm := [sv 2 (str (bstr []))], hp := [], nx := 0 })))))))) else (bif (kind == (7 : Int)) then (bif (kind == (7 : Int)) then wK K .ret (z51R (bstr [83, 80])) else (bif (kind == (6 : Int)) then wK K .ret (z51R (bstr [83, 80, 67, 65])) else (bif (kind == (10 : Int)) then wK K .ret (z51R (bstr [83, 80, 82])) else (bif (kind == (11 : Int)) then (bif (kind == (11 : Int)) then wK K .ret (z51R (bstr [80])) else (bif (kind == (14 : Int)) then wK K .ret (z51R (bstr [80, 82])) else wK K .normal ({ tm := [sv 2 (str (bstr []))], hp := [], nx := 0 }))) else (bif (kind == (12 : Int)) then (bif (kind == (12 : Int)) then wK K .ret (z51R (bstr [80])) else (bif (kind == (14 : Int)) then wK K .ret (z51R (bstr [80, 82])) else wK K .normal ({ tm := [sv 2 (str (bstr []))], hp := [], nx := 0 }))) else (bif (kind == (13 : Int)) then wK K .ret (z51R (bstr [80])) else (bif (kind == (14 : Int)) then wK K .ret (z51R (bstr [80, 82])) else wK K .normal ({ tm := [sv 2 (str (bstr []))], hp := [], nx := 0 })))))))) else (bif (kind == (8 : Int)) then (bif (kind == (8 : Int)) then wK K .ret (z51R (bstr [83, 80])) else (bif (kind == (6 : Int)) then wK K .ret (z51R (bstr [83, 80, 67, 65])) else (bif (kind == (10 : Int)) then wK K .ret (z51R (bstr [83, 80, 82])) else (bif (kind == (11 : Int)) then (bif (kind == (11 : Int)) then wK K .ret (z51R (bstr [80])) else (bif (kind == (14 : Int)) then wK K .ret (z51R (bstr [80, 82])) else wK K .normal ({ tm := [sv 2 (str (bstr []))], hp := [], nx := 0 }))) else (bif (kind == (12 : Int)) then (bif (kind == (12 : Int)) then wK K .ret (z51R (bstr [80])) else (bif (kind == (14 : Int)) then wK K .ret (z51R (bstr [80, 82])) else wK K .normal ({ tm := [sv 2 (str (bstr []))], hp := [], nx := 0 }))) else (bif (kind == (13 : Int)) then wK K .ret (z51R (bstr [80])) else (bif (kind == (14 : Int)) then wK K .ret (z51R (bstr [80, 82])) else wK K .normal ({ tm := [sv 2 (str (bstr []))], hp := [], nx := 0 })))))))) else (bif (kind == (9 : Int)) then wK K .ret (z51R (bstr [83, 80])) else (bif (kind == (6 : Int)) then wK K .ret (z51R (bstr [83, 80, 67, 65])) else (bif (kind == (10 : Int)) then wK K .ret (z51R (bstr [83, 80, 82])) else (bif (kind == (11 : Int)) then (bif (kind == (11 : Int)) then wK K .ret (z51R (bstr [80])) else (bif (kind == (14 : Int)) then wK K .ret (z51R (bstr [80, 82])) else wK K .normal ({ tm := [sv 2 (str (bstr []))], hp := [], nx := 0 }))) else (bif (kind == (12 : Int)) then (bif (kind == (12 : Int)) then wK K .ret (z51R (bstr [80])) else (bif (kind == (14 : Int)) then wK K .ret (z51R (bstr [80, 82])) else wK K .normal ({ tm := [sv 2 (str (bstr []))], hp := [], nx := 0 }))) else (bif (kind == (13 : Int)) then wK K .ret (z51R (bstr [80])) else (bif (kind == (14 : Int)) then wK K .ret (z51R (bstr [80, 82])) else wK K .normal ({ tm := [sv 2 (str (bstr []))], hp := [], nx := 0 }))))))))))))) else (bif (kind == (3 : Int)) then wK K .ret (z51R (bstr [83, 80, 72, 67, 65])) else (bif (kind == (4 : Int)) then wK K .ret (z51R (bstr [83, 80, 84])) else (bif (kind == (5 : Int)) then (bif (kind == (5 : Int)) then wK K .ret (z51R (bstr [83, 80])) else (bif (kind == (6 : Int)) then wK K .ret (z51R (bstr [83, 80, 67, 65])) else (bif (kind == (10 : Int)) then wK K .ret (z51R (bstr [83, 80, 82])) else (bif (kind == (11 : Int)) then (bif (kind == (11 : Int)) then wK K .ret (z51R (bstr [80])) else (bif (kind == (14 : Int)) then wK K .ret (z51R (bstr [80, 82])) else wK K .normal ({ tm := [sv 2 (str (bstr []))], hp := [], nx := 0 }))) else (bif (kind == (12 : Int)) then (bif (kind == (12 : Int)) then wK K .ret (z51R (bstr [80])) else (bif (kind == (14 : Int)) then wK K .ret (z51R (bstr [80, 82])) else wK K .normal ({ tm := [sv 2 (str (bstr []))], hp := [], nx := 0 }))) else (bif (kind == (13 : Int)) then wK K .ret (z51R (bstr [80])) else (bif (kind == (14 : Int)) then wK K .ret (z51R (bstr [80, 82])) else wK K .normal ({ tm := [sv 2 (str (bstr []))], hp := [], nx := 0 })))))))) else (bif (kind == (7 : Int)) then (bif (kind == (7 : Int)) then wK K .ret (z51R (bstr [83, 80])) else (bif (kind == (6 : Int)) then wK K .ret (z51R (bstr [83, 80, 67, 65])) else (bif (kind == (10 : Int)) then wK K .ret (z51R (bstr [83, 80, 82])) else (bif (kind == (11 : Int)) then (bif (kind == (11 : Int)) then wK K .ret (z51R (bstr [80])) else (bif (kind == (14 : Int)) then wK K .ret (z51R (bstr [80, 82])) else wK K .normal ({ tm := [sv 2 (str (bstr []))], hp := [], nx := 0 }))) else (bif (kind == (12 : Int)) then (bif (kind == (12 : Int)) then wK K .ret (z51R (bstr [80])) else (bif (kind == (14 : Int)) then wK K .ret (z51R (bstr [80, 82])) else wK K .normal ({ tm := [sv 2 (str (bstr []))], hp := [], nx := 0 }))) else (bif (kind == (13 : Int)) then wK K .ret (z51R (bstr [80])) else (bif (kind == (14 : Int)) then wK K .ret (z51R (bstr [80, 82])) else wK K .normal ({ tm := [sv 2 (str (bstr []))], hp := [], nx := 0 })))))))) else (bif (kind == (8 : Int)) then (bif (kind == (8 : Int)) then wK K .ret (z51R (bstr [83, 80])) else (bif (kind == (6 : Int)) then wK K .ret (z51R (bstr [83, 80, 67, 65])) else (bif (kind == (10 : Int)) then wK K .ret (z51R (bstr [83, 80, 82])) else (bif (kind == (11 : Int)) then (bif (kind == (11 : Int)) then wK K .ret (z51R (bstr [80])) else (bif (kind == (14 : Int)) then wK K .ret (z51R (bstr [80, 82])) else wK K .normal ({ tm := [sv 2 (str (bstr []))], hp := [], nx := 0 }))) else (bif (kind == (12 : Int)) then (bif (kind == (12 : Int)) then wK K .ret (z51R (bstr [80])) else (bif (kind == (14 : Int)) then wK K .ret (z51R (bstr [80, 82])) else wK K .normal ({ tm := [sv 2 (str (bstr []))], hp := [], nx := 0 }))) else (bif (kind == (13 : Int)) then wK K .ret (z51R (bstr [80])) else (bif (kind == (14 : Int)) then wK K .ret (z51R (bstr [80, 82])) else wK K .normal ({ tm := [sv 2 (str (bstr []))], hp := [], nx := 0 })))))))) else (bif (kind == (9 : Int)) then wK K .ret (z51R (bstr [83, 80])) else (bif (kind == (6 : Int)) then wK K .ret (z51R (bstr [83, 80, 67, 65])) else (bif (kind == (10 : Int)) then wK K .ret (z51R (bstr [83, 80, 82])) else (bif (kind == (11 : Int)) then (bif (kind == (11 : Int)) then wK K .ret (z51R (bstr [80])) else (bif (kind == (14 : Int)) then wK K .ret (z51R (bstr [80, 82])) else wK K .normal ({ tm := [sv 2 (str (bstr []))], hp := [], nx := 0 }))) else (bif (kind == (12 : Int)) then (bif (kind == (12 : Int)) then wK K .ret (z51R (bstr [80])) else (bif (kind == (14 : Int)) then wK K .ret (z51R (bstr [80, 82])) else wK K .normal ({ tm := [sv 2 (str (bstr []))], hp := [], nx := 0 }))) else (bif (kind == (13 : Int)) then wK K .ret (z51R (bstr [80])) else (bif (kind == (14 : Int)) then wK K .ret (z51R (bstr [80, 82])) else wK K .normal ({ tm := [sv 2 (str (bstr []))], hp := [], nx := 0 })))))))))))))))) (fun K => by kernel_rfl) (W_bif h (fun _ h => ⟨_, .refl _, h⟩) (fun _ h => (W_bif h (fun _ h => (W_bif h (fun _ h => ⟨_, .refl _, h⟩) (fun _ h => (W_bif h (fun _ h => ⟨_, .refl _, h⟩) (fun _ h => (W_bif h (fun _ h => (W_bif h (fun _ h => ⟨_, .refl _, h⟩) (fun _ h => (W_bif h (fun _ h => ⟨_, .refl _, h⟩) (fun _ h => (W_bif h (fun _ h => ⟨_, .refl _, h⟩) (fun _ h => (W_bif h (fun _ h => (W_bif h (fun _ h => ⟨_, .refl _, h⟩) (fun _ h => (W_bif h (fun _ h => ⟨_, .refl _, h⟩) (fun _ h => ⟨(z51p0S), (.of .nil .nil rfl), (z51p0ok _ h)⟩))))) (fun _ h => (W_bif h (fun _ h => (W_bif h (fun _ h => ⟨_, .refl _, h⟩) (fun _ h => (W_bif h (fun _ h => ⟨_, .refl _, h⟩) (fun _ h => ⟨(z51p0S), (.of .nil .nil rfl), (z51p0ok _ h)⟩))))) (fun _ h => (W_bif h (fun _ h => ⟨_, .refl _, h⟩) (fun _ h => (W_bif h (fun _ h => ⟨_, .refl _, h⟩) (fun _ h => ⟨(z51p0S), (.of .nil .nil rfl), (z51p0ok _ h)⟩))))))))))))))) (fun _ h => (W_bif h (fun _ h => (W_bif h (fun _ h => ⟨_, .refl _, h⟩) (fun _ h => (W_bif h (fun _ h => ⟨_, .refl _, h⟩) (fun _ h => (W_bif h (fun _ h => ⟨_, .refl _, h⟩) (fun _ h => (W_bif h (fun _ h => (W_bif h (fun _ h => ⟨_, .refl _, h⟩) (fun _ h => (W_bif h (fun _ h => ⟨_, .refl _, h⟩) (fun _ h => ⟨(z51p0S), (.of .nil .nil rfl), (z51p0ok _ h)⟩))))) (fun _ h => (W_bif h (fun _ h => (W_bif h (fun _ h => ⟨_, .refl _, h⟩) (fun _ h => (W_bif h (fun _ h => ⟨_, .refl _, h⟩) (fun _ h => ⟨(z51p0S), (.of .nil .nil rfl), (z51p0ok _ h)⟩))))) (fun _ h => (W_bif h (fun _ h => ⟨_, .refl _, h⟩) (fun _ h => (W_bif h (fun _ h => ⟨_, .refl _, h⟩) (fun _ h => ⟨(z51p0S), (.of .nil .nil rfl), (z51p0ok _ h)⟩))))))))))))))) (fun _ h => (W_bif h (fun _ h => (W_bif h (fun _ h => ⟨_, .refl _, h⟩) (fun _ h => (W_bif h (fun _ h => ⟨_, .refl _, h⟩) (fun _ h => (W_bif h (fun _ h => ⟨_, .refl _, h⟩) (fun _ h => (W_bif h (fun _ h => (W_bif h (fun _ h => ⟨_, .refl _, h⟩) (fun _ h => (W_bif h (fun _ h => ⟨_, .refl _, h⟩) (fun _ h => ⟨(z51p0S), (.of .nil .nil rfl), (z51p0ok _ h)⟩))))) (fun _ h => (W_bif h (fun _ h => (W_bif h (fun _ h => ⟨_, .refl _, h⟩) (fun _ h => (W_bif h (fun _ h => ⟨_, .refl _, h⟩) (fun _ h => ⟨(z51p0S), (.of .nil .nil rfl), (z51p0ok _ h)⟩))))) (fun _ h => (W_bif h (fun _ h => ⟨_, .refl _, h⟩) (fun _ h => (W_bif h (fun _ h => ⟨_, .refl _, h⟩) (fun _ h => ⟨(z51p0S), (.of .nil .nil rfl), (z51p0ok _ h)⟩))))))))))))))) (fun _ h => (W_bif h (fun _ h => ⟨_, .refl _, h⟩) (fun _ h => (W_bif h (fun _ h => ⟨_, .refl _, h⟩) (fun _ h => (W_bif h (fun _ h => ⟨_, .refl _, h⟩) (fun _ h => (W_bif h (fun _ h => (W_bif h (fun _ h => ⟨_, .refl _, h⟩) (fun _ h => (W_bif h (fun _ h => ⟨_, .refl _, h⟩) (fun _ h => ⟨(z51p0S), (.of .nil .nil rfl), (z51p0ok _ h)⟩))))) (fun _ h => (W_bif h (fun _ h => (W_bif h (fun _ h => ⟨_, .refl _, h⟩) (fun _ h => (W_bif h (fun _ h => ⟨_, .refl _, h⟩) (fun _ h => ⟨(z51p0S), (.of .nil .nil rfl), (z51p0ok _ h)⟩))))) (fun _ h => (W_bif h (fun _ h => ⟨_, .refl _, h⟩) (fun _ h => (W_bif h (fun _ h => ⟨_, .refl _, h⟩) (fun _ h => ⟨(z51p0S), (.of .nil .nil rfl), (z51p0ok _ h)⟩))))))))))))))))))))))))) (fun _ h => (W_bif h (fun _ h => ⟨_, .refl _, h⟩) (fun _ h => (W_bif h (fun _ h => ⟨_, .refl _, h⟩) (fun _ h => (W_bif h (fun _ h => (W_bif h (fun _ h => ⟨_, .refl _, h⟩) (fun _ h => (W_bif h (fun _ h => ⟨_, .refl _, h⟩) (fun _ h => (W_bif h (fun _ h => ⟨_, .refl _, h⟩) (fun _ h => (W_bif h (fun _ h => (W_bif h (fun _ h => ⟨_, .refl _, h⟩) (fun _ h => (W_bif h (fun _ h => ⟨_, .refl _, h⟩) (fun _ h => ⟨(z51p0S), (.of .nil .nil rfl), (z51p0ok _ h)⟩))))) (fun _ h => (W_bif h (fun _ h => (W_bif h (fun _ h => ⟨_, .refl _, h⟩) (fun _ h => (W_bif h (fun _ h => ⟨_, .refl _, h⟩) (fun _ h => ⟨(z51p0S), (.of .nil .nil rfl), (z51p0ok _ h)⟩))))) (fun _ h => (W_bif h (fun _ h => ⟨_, .refl _, h⟩) (fun _ h => (W_bif h (fun _ h => ⟨_, .refl _, h⟩) (fun _ h => ⟨(z51p0S), (.of .nil .nil rfl), (z51p0ok _ h)⟩))))))))))))))) (fun _ h => (W_bif h (fun _ h => (W_bif h (fun _ h => ⟨_, .refl _, h⟩) (fun _ h => (W_bif h (fun _ h => ⟨_, .refl _, h⟩) (fun _ h => (W_bif h (fun _ h => ⟨_, .refl _, h⟩) (fun _ h => (W_bif h (fun _ h => (W_bif h (fun _ h => ⟨_, .refl _, h⟩) (fun _ h => (W_bif h (fun _ h => ⟨_, .refl _, h⟩) (fun _ h => ⟨(z51p0S), (.of .nil .nil rfl), (z51p0ok _ h)⟩))))) (fun _ h => (W_bif h (fun _ h => (W_bif h (fun _ h => ⟨_, .refl _, h⟩) (fun _ h => (W_bif h (fun _ h => ⟨_, .refl _, h⟩) (fun _ h => ⟨(z51p0S), (.of .nil .nil rfl), (z51p0ok _ h)⟩))))) (fun _ h => (W_bif h (fun _ h => ⟨_, .refl _, h⟩) (fun _ h => (W_bif h (fun _ h => ⟨_, .refl _, h⟩) (fun _ h => ⟨(z51p0S), (.of .nil .nil rfl), (z51p0ok _ h)⟩))))))))))))))) (fun _ h => (W_bif h (fun _ h => (W_bif h (fun _ h => ⟨_, .refl _, h⟩) (fun _ h => (W_bif h (fun _ h => ⟨_, .refl _, h⟩) (fun _ h => (W_bif h (fun _ h => ⟨_, .refl _, h⟩) (fun _ h => (W_bif h (fun _ h => (W_bif h (fun _ h => ⟨_, .refl _, h⟩) (fun _ h => (W_bif h (fun _ h => ⟨_, .refl _, h⟩) (fun _ h => ⟨(z51p0S), (.of .nil .nil rfl), (z51p0ok _ h)⟩))))) (fun _ h => (W_bif h (fun _ h => (W_bif h (fun _ h => ⟨_, .refl _, h⟩) (fun _ h => (W_bif h (fun _ h => ⟨_, .refl _, h⟩) (fun _ h => ⟨(z51p0S), (.of .nil .nil rfl), (z51p0ok _ h)⟩))))) (fun _ h => (W_bif h (fun _ h => ⟨_, .refl _, h⟩) (fun _ h => (W_bif h (fun _ h => ⟨_, .refl _, h⟩) (fun _ h => ⟨(z51p0S), (.of .nil .nil rfl), (z51p0ok _ h)⟩))))))))))))))) (fun _ h => (W_bif h (fun _ h => ⟨_, .refl _, h⟩) (fun _ h => (W_bif h (fun _ h => ⟨_, .refl _, h⟩) (fun _ h => (W_bif h (fun _ h => ⟨_, .refl _, h⟩) (fun _ h => (W_bif h (fun _ h => (W_bif h (fun _ h => ⟨_, .refl _, h⟩) (fun _ h => (W_bif h (fun _ h => ⟨_, .refl _, h⟩) (fun _ h => ⟨(z51p0S), (.of .nil .nil rfl), (z51p0ok _ h)⟩))))) (fun _ h => (W_bif h (fun _ h => (W_bif h (fun _ h => ⟨_, .refl _, h⟩) (fun _ h => (W_bif h (fun _ h => ⟨_, .refl _, h⟩) (fun _ h => ⟨(z51p0S), (.of .nil .nil rfl), (z51p0ok _ h)⟩))))) (fun _ h => (W_bif h (fun _ h => ⟨_, .refl _, h⟩) (fun _ h => (W_bif h (fun _ h => ⟨_, .refl _, h⟩) (fun _ h => ⟨(z51p0S), (.of .nil .nil rfl), (z51p0ok _ h)⟩)))))))))))))))))))))))))))))
noncomputable def fact_Uses (kind : Int) : Option (ByteArray) := fact_Uses_p1 kind
theorem z51run (kind : Int) (y_ : ByteArray) (h : fact_Uses kind = some y_) : EvL Try.prog 26 (items (bodyOf Try.f51)) (retK Try.prog [.tmp 2] (OutOk (fact_Uses_out y_))) (z51p1S kind) :=
  z51p1ok kind _ (W_iff.2 ⟨y_, h, z51Rok y_⟩)
noncomputable def fact_Uses_C : Con
  | [(.c (.lit (.int .i64 a1)))] => some ([(fact_Uses a1).isSome = true], (fact_Uses_out ((fact_Uses a1).getD (bstr []))))
  | _ => none
theorem fact_Uses_ok : Meets Try.prog 51 fact_Uses_C := by
  refine meets_fun (fn := Try.f51) (c := bodyOf Try.f51) (by kernel_rfl) (by kernel_rfl) (by kernel_rfl) (rs := [.tmp 2]) (by kernel_rfl) (nt := 26) (by kernel_rfl) fun vs p out h hp => ?_
  unfold fact_Uses_C at h
  split at h
  · next a1 =>
    cases h
    obtain ⟨g, hp⟩ := allq hp
    obtain ⟨x, hx⟩ := Option.isSome_iff_exists.1 g
    rw [hx]
    exact ⟨[(i64 a1)], (VLes.cons (VLe.rfl' _) VLes.nil), rfl, z51run a1 x hx⟩
  · cases h

noncomputable def z54i0 : List Code := items (bodyOf Try.f54)
def fact_within_out (x_2 : Bool) : Out := .data (bl x_2)
def z54R (x_2 : Bool) : St := { tm := [sv 6 (bl x_2)], hp := [], nx := 0 }
theorem z54Rok (x_2 : Bool) : retK Try.prog [.tmp 6] (OutOk (fact_within_out x_2)) .ret (z54R x_2) :=
  retK.intro (v := (bl x_2)) (by kernel_rfl) ((VLe.rfl' _))
def z54p0S (x_1 low high : Int) : St := { tm := [sv 0 (i64 x_1), sv 1 (i64 low), sv 2 (i64 high)], hp := [], nx := 0 }
noncomputable def fact_within_p0 (x_1 low high : Int) : Option (Bool) := (some (bif (decide (low ≤ x_1)) then (decide (x_1 ≤ high)) else false))
theorem z54p0ok (x_1 low high : Int) (K : KT) (h : W (fact_within_p0 x_1 low high) (rE z54R K)) : EvL Try.prog 15 (List.drop 0 z54i0) K (z54p0S x_1 low high) :=
  EvL.pE mixed (lookC_ok (l := []) trivial) [6] 0 3 (.nf (X := fun K => wK K .ret (z54R (bif (decide (low ≤ x_1)) then (decide (x_1 ≤ high)) else false))) (fun K => by kernel_rfl) (⟨_, .refl _, h⟩))
noncomputable def fact_within (x_1 low high : Int) : Option (Bool) := fact_within_p0 x_1 low high
theorem z54run (x_1 low high : Int) (y_ : Bool) (h : fact_within x_1 low high = some y_) : EvL Try.prog 15 (items (bodyOf Try.f54)) (retK Try.prog [.tmp 6] (OutOk (fact_within_out y_))) (z54p0S x_1 low high) :=
  z54p0ok x_1 low high _ (W_iff.2 ⟨y_, h, z54Rok y_⟩)
noncomputable def fact_within_C : Con
  | [(.c (.lit (.int .i64 a1))), (.c (.lit (.int .i64 a2))), (.c (.lit (.int .i64 a3)))] => some ([(fact_within a1 a2 a3).isSome = true], (fact_within_out ((fact_within a1 a2 a3).getD false)))
  | _ => none
theorem fact_within_ok : Meets Try.prog 54 fact_within_C := by
  refine meets_fun (fn := Try.f54) (c := bodyOf Try.f54) (by kernel_rfl) (by kernel_rfl) (by kernel_rfl) (rs := [.tmp 6]) (by kernel_rfl) (nt := 15) (by kernel_rfl) fun vs p out h hp => ?_
  unfold fact_within_C at h
  split at h
  · next a1 a2 a3 =>
    cases h
    obtain ⟨g, hp⟩ := allq hp
    obtain ⟨x, hx⟩ := Option.isSome_iff_exists.1 g
    rw [hx]
    exact ⟨[(i64 a1), (i64 a2), (i64 a3)], (VLes.cons (VLe.rfl' _) (VLes.cons (VLe.rfl' _) (VLes.cons (VLe.rfl' _) VLes.nil))), rfl, z54run a1 a2 a3 x hx⟩
  · cases h


/-- Where a byte stands first. -/
def bytealg_IndexByteString (s : ByteArray) (c : Int) : Option Int := some (firstIdx s c.toNat.toUInt8)
def bytealg_IndexByteString_C : Con
  | [.c (.lit (.string s)), .c (.lit (.int .u8 c))] => some ([(bytealg_IndexByteString s c).isSome = true], .data (i64 ((bytealg_IndexByteString s c).getD (0 : Int))))
  | _ => none
theorem bytealg_IndexByteString_ok : Meets Try.prog 91 bytealg_IndexByteString_C := by
  intro ok w xs vs p out hx hok hcon hp
  unfold bytealg_IndexByteString_C at hcon
  split at hcon
  · next s c =>
    cases hcon
    obtain ⟨x, y, rfl⟩ : ∃ x y, xs = [x, y] := by
      have := hx.1
      match xs, this with
      | [x, y], _ => exact ⟨x, y, rfl⟩
    have e1 := (hx.2 0 x _ rfl rfl).lit_inv
    have e2 := (hx.2 1 y _ rfl rfl).lit_inv
    subst e1 e2
    refine .inr ⟨.int .i64 (firstIdx s c.toNat.toUInt8), w, ?_, .refl _ _, .lit _⟩
    rw [run_callFunc_extern (fn := Try.f91) (e := Extern.BytealgIndexByte.indexByte) (by kernel_rfl) (by kernel_rfl) (by kernel_rfl) (by kernel_rfl) (by kernel_rfl)]
    have := run_indexByte_string (P := Try.prog) s c w
    rw [show [Value.string s, Value.int .u8 c].toArray = #[Value.string s, Value.int .u8 c] from rfl, this]
    rfl
  · cases hcon

noncomputable def z87i0 : List Code := items (bodyOf Try.f87)
def internal_stringslite_IndexByte_out (x_1 : Int) : Out := .data (i64 x_1)
def z87R (x_1 : Int) : St := { tm := [sv 4 (i64 x_1)], hp := [], nx := 0 }
theorem z87Rok (x_1 : Int) : retK Try.prog [.tmp 4] (OutOk (internal_stringslite_IndexByte_out x_1)) .ret (z87R x_1) :=
  retK.intro (v := (i64 x_1)) (by kernel_rfl) ((VLe.rfl' _))
def z87p0S (s_1 : ByteArray) (c : Int) : St := { tm := [sv 0 (str s_1), sv 1 (.c (.lit (.int .u8 c)))], hp := [], nx := 0 }
noncomputable def internal_stringslite_IndexByte_p0 (s_1 : ByteArray) (c : Int) : Option (Int) := (bytealg_IndexByteString s_1 c).bind fun r_1 => ((some r_1))
theorem z87p0ok (s_1 : ByteArray) (c : Int) (K : KT) (h : W (internal_stringslite_IndexByte_p0 s_1 c) (rE z87R K)) : EvL Try.prog 8 (List.drop 0 z87i0) K (z87p0S s_1 c) :=
  EvL.pE mixed (lookC_ok (l := [(91, .pure bytealg_IndexByteString_C)]) ⟨bytealg_IndexByteString_ok, trivial⟩) [4] 0 3 (.nf (X := fun K => ((bytealg_IndexByteString s_1 c).isSome = true) ∧ (wK K .ret (z87R ((bytealg_IndexByteString s_1 c).getD (0 : Int))))) (fun K => by kernel_rfl) (W_bind (0 : Int) h fun hp0 h => ⟨_, .refl _, h⟩))
noncomputable def internal_stringslite_IndexByte (s_1 : ByteArray) (c : Int) : Option (Int) := internal_stringslite_IndexByte_p0 s_1 c
theorem z87run (s_1 : ByteArray) (c : Int) (y_ : Int) (h : internal_stringslite_IndexByte s_1 c = some y_) : EvL Try.prog 8 (items (bodyOf Try.f87)) (retK Try.prog [.tmp 4] (OutOk (internal_stringslite_IndexByte_out y_))) (z87p0S s_1 c) :=
  z87p0ok s_1 c _ (W_iff.2 ⟨y_, h, z87Rok y_⟩)
noncomputable def internal_stringslite_IndexByte_C : Con
  | [(.c (.lit (.string a1))), (.c (.lit (.int .u8 a2)))] => some ([(internal_stringslite_IndexByte a1 a2).isSome = true], (internal_stringslite_IndexByte_out ((internal_stringslite_IndexByte a1 a2).getD (0 : Int))))
  | _ => none
theorem internal_stringslite_IndexByte_ok : Meets Try.prog 87 internal_stringslite_IndexByte_C := by
  refine meets_fun (fn := Try.f87) (c := bodyOf Try.f87) (by kernel_rfl) (by kernel_rfl) (by kernel_rfl) (rs := [.tmp 4]) (by kernel_rfl) (nt := 8) (by kernel_rfl) fun vs p out h hp => ?_
  unfold internal_stringslite_IndexByte_C at h
  split at h
  · next a1 a2 =>
    cases h
    obtain ⟨g, hp⟩ := allq hp
    obtain ⟨x, hx⟩ := Option.isSome_iff_exists.1 g
    rw [hx]
    exact ⟨[(str a1), (.c (.lit (.int .u8 a2)))], (VLes.cons (VLe.rfl' _) (VLes.cons (VLe.rfl' _) VLes.nil)), rfl, z87run a1 a2 x hx⟩
  · cases h

noncomputable def z83i0 : List Code := items (bodyOf Try.f83)
def internal_stringslite_Index_out (x_1 : Int) : Out := .data (i64 x_1)
def z83R (x_1 : Int) : St := { tm := [sv 4 (i64 x_1)], hp := [], nx := 0 }
theorem z83Rok (x_1 : Int) : retK Try.prog [.tmp 4] (OutOk (internal_stringslite_Index_out x_1)) .ret (z83R x_1) :=
  retK.intro (v := (i64 x_1)) (by kernel_rfl) ((VLe.rfl' _))
def z83p0S (s_1 substr : ByteArray) : St := { tm := [sv 0 (str s_1), sv 1 (str substr)], hp := [], nx := 0 }
noncomputable def internal_stringslite_Index_p0 (s_1 substr : ByteArray) : Option (Int) := (bif (bif (((substr.size : Nat) : Int) == (0 : Int)) then true else (substr.toList == s_1.toList)) then (some (0 : Int)) else (bif (((substr.size : Nat) : Int) == (1 : Int)) then gd ((0 : Int) ≤ (0 : Int) ∧ (0 : Int) < ((substr.size : Nat) : Int)) ((internal_stringslite_IndexByte s_1 ((substr.data.getD 0 0).toNat : Int)).bind fun r_1 => ((some r_1))) else (bif (decide (((s_1.size : Nat) : Int) ≤ ((substr.size : Nat) : Int))) then (some (-1 : Int)) else none)))
theorem z83p0ok (s_1 substr : ByteArray) (K : KT) (h : W (internal_stringslite_Index_p0 s_1 substr) (rE z83R K)) : EvL Try.prog 143 (List.drop 0 z83i0) K (z83p0S s_1 substr) :=
  EvL.pD mixed (lookC_ok (l := [(87, .pure internal_stringslite_IndexByte_C)]) ⟨internal_stringslite_IndexByte_ok, trivial⟩) [0, 1, 4, 5, 85, 86, 87, 88, 89, 90, 91, 92, 103, 104, 105, 106, 122, 123, 124, 125, 126, 129, 130, 131] 0 3 3 (.nf (X := fun K => (bif (bif (((substr.size : Nat) : Int) == (0 : Int)) then true else (substr.toList == s_1.toList)) then wK K .ret ({ tm := [sv 0 (str s_1), sv 1 (str substr), sv 4 (i64 (0 : Int)), sv 5 (i64 ((substr.size : Nat) : Int))], hp := [], nx := 0 }) else (bif (((substr.size : Nat) : Int) == (1 : Int)) then ((0 : Int) ≤ (0 : Int)) ∧ ((0 : Int) < ((substr.size : Nat) : Int)) ∧ ((internal_stringslite_IndexByte s_1 ((substr.data.getD 0 0).toNat : Int)).isSome = true) ∧ (wK K .ret ({ tm := [sv 0 (str s_1), sv 1 (str substr), sv 4 (i64 ((internal_stringslite_IndexByte s_1 ((substr.data.getD 0 0).toNat : Int)).getD (0 : Int))), sv 5 (i64 ((substr.size : Nat) : Int))], hp := [], nx := 0 })) else (bif (decide (((s_1.size : Nat) : Int) ≤ ((substr.size : Nat) : Int))) then wK K .ret ({ tm := [sv 0 (str s_1), sv 1 (str substr), sv 4 (i64 (-1 : Int)), sv 5 (i64 ((substr.size : Nat) : Int))], hp := [], nx := 0 }) else False)))) (fun K => by kernel_rfl) (W_bif h (fun _ h => ⟨(z83R (0 : Int)), (.of (.q rfl .nil) .nil rfl), h⟩) (fun _ h => (W_bif h (fun _ h => (W_gd2 h fun hp0 h => (W_bind (0 : Int) h fun hp1 h => ⟨(z83R ((internal_stringslite_IndexByte s_1 ((substr.data.getD 0 0).toNat : Int)).getD (0 : Int))), (.of (.q rfl .nil) .nil rfl), h⟩))) (fun _ h => (W_bif h (fun _ h => ⟨(z83R (-1 : Int)), (.of (.q rfl .nil) .nil rfl), h⟩) (fun _ h => h)))))))
noncomputable def internal_stringslite_Index (s_1 substr : ByteArray) : Option (Int) := internal_stringslite_Index_p0 s_1 substr
theorem z83run (s_1 substr : ByteArray) (y_ : Int) (h : internal_stringslite_Index s_1 substr = some y_) : EvL Try.prog 143 (items (bodyOf Try.f83)) (retK Try.prog [.tmp 4] (OutOk (internal_stringslite_Index_out y_))) (z83p0S s_1 substr) :=
  z83p0ok s_1 substr _ (W_iff.2 ⟨y_, h, z83Rok y_⟩)
noncomputable def internal_stringslite_Index_C : Con
  | [(.c (.lit (.string a1))), (.c (.lit (.string a2)))] => some ([(internal_stringslite_Index a1 a2).isSome = true], (internal_stringslite_Index_out ((internal_stringslite_Index a1 a2).getD (0 : Int))))
  | _ => none
theorem internal_stringslite_Index_ok : Meets Try.prog 83 internal_stringslite_Index_C := by
  refine meets_fun (fn := Try.f83) (c := bodyOf Try.f83) (by kernel_rfl) (by kernel_rfl) (by kernel_rfl) (rs := [.tmp 4]) (by kernel_rfl) (nt := 143) (by kernel_rfl) fun vs p out h hp => ?_
  unfold internal_stringslite_Index_C at h
  split at h
  · next a1 a2 =>
    cases h
    obtain ⟨g, hp⟩ := allq hp
    obtain ⟨x, hx⟩ := Option.isSome_iff_exists.1 g
    rw [hx]
    exact ⟨[(str a1), (str a2)], (VLes.cons (VLe.rfl' _) (VLes.cons (VLe.rfl' _) VLes.nil)), rfl, z83run a1 a2 x hx⟩
  · cases h

noncomputable def z74i0 : List Code := items (bodyOf Try.f74)
def strings_Index_out (x_1 : Int) : Out := .data (i64 x_1)
def z74R (x_1 : Int) : St := { tm := [sv 4 (i64 x_1)], hp := [], nx := 0 }
theorem z74Rok (x_1 : Int) : retK Try.prog [.tmp 4] (OutOk (strings_Index_out x_1)) .ret (z74R x_1) :=
  retK.intro (v := (i64 x_1)) (by kernel_rfl) ((VLe.rfl' _))
def z74p0S (s_1 substr : ByteArray) : St := { tm := [sv 0 (str s_1), sv 1 (str substr)], hp := [], nx := 0 }
noncomputable def strings_Index_p0 (s_1 substr : ByteArray) : Option (Int) := (internal_stringslite_Index s_1 substr).bind fun r_1 => ((some r_1))
theorem z74p0ok (s_1 substr : ByteArray) (K : KT) (h : W (strings_Index_p0 s_1 substr) (rE z74R K)) : EvL Try.prog 8 (List.drop 0 z74i0) K (z74p0S s_1 substr) :=
  EvL.pE mixed (lookC_ok (l := [(83, .pure internal_stringslite_Index_C)]) ⟨internal_stringslite_Index_ok, trivial⟩) [4] 0 3 (.nf (X := fun K => ((internal_stringslite_Index s_1 substr).isSome = true) ∧ (wK K .ret (z74R ((internal_stringslite_Index s_1 substr).getD (0 : Int))))) (fun K => by kernel_rfl) (W_bind (0 : Int) h fun hp0 h => ⟨_, .refl _, h⟩))
noncomputable def strings_Index (s_1 substr : ByteArray) : Option (Int) := strings_Index_p0 s_1 substr
theorem z74run (s_1 substr : ByteArray) (y_ : Int) (h : strings_Index s_1 substr = some y_) : EvL Try.prog 8 (items (bodyOf Try.f74)) (retK Try.prog [.tmp 4] (OutOk (strings_Index_out y_))) (z74p0S s_1 substr) :=
  z74p0ok s_1 substr _ (W_iff.2 ⟨y_, h, z74Rok y_⟩)
noncomputable def strings_Index_C : Con
  | [(.c (.lit (.string a1))), (.c (.lit (.string a2)))] => some ([(strings_Index a1 a2).isSome = true], (strings_Index_out ((strings_Index a1 a2).getD (0 : Int))))
  | _ => none
theorem strings_Index_ok : Meets Try.prog 74 strings_Index_C := by
  refine meets_fun (fn := Try.f74) (c := bodyOf Try.f74) (by kernel_rfl) (by kernel_rfl) (by kernel_rfl) (rs := [.tmp 4]) (by kernel_rfl) (nt := 8) (by kernel_rfl) fun vs p out h hp => ?_
  unfold strings_Index_C at h
  split at h
  · next a1 a2 =>
    cases h
    obtain ⟨g, hp⟩ := allq hp
    obtain ⟨x, hx⟩ := Option.isSome_iff_exists.1 g
    rw [hx]
    exact ⟨[(str a1), (str a2)], (VLes.cons (VLe.rfl' _) (VLes.cons (VLe.rfl' _) VLes.nil)), rfl, z74run a1 a2 x hx⟩
  · cases h

noncomputable def z53i0 : List Code := items (bodyOf Try.f53)
def strings_Contains_out (x_1 : Bool) : Out := .data (bl x_1)
def z53R (x_1 : Bool) : St := { tm := [sv 4 (bl x_1)], hp := [], nx := 0 }
theorem z53Rok (x_1 : Bool) : retK Try.prog [.tmp 4] (OutOk (strings_Contains_out x_1)) .ret (z53R x_1) :=
  retK.intro (v := (bl x_1)) (by kernel_rfl) ((VLe.rfl' _))
def z53p0S (s_1 substr : ByteArray) : St := { tm := [sv 0 (str s_1), sv 1 (str substr)], hp := [], nx := 0 }
noncomputable def strings_Contains_p0 (s_1 substr : ByteArray) : Option (Bool) := (strings_Index s_1 substr).bind fun r_1 => ((some (decide ((0 : Int) ≤ r_1))))
theorem z53p0ok (s_1 substr : ByteArray) (K : KT) (h : W (strings_Contains_p0 s_1 substr) (rE z53R K)) : EvL Try.prog 9 (List.drop 0 z53i0) K (z53p0S s_1 substr) :=
  EvL.pE mixed (lookC_ok (l := [(74, .pure strings_Index_C)]) ⟨strings_Index_ok, trivial⟩) [4] 0 3 (.nf (X := fun K => ((strings_Index s_1 substr).isSome = true) ∧ (wK K .ret (z53R (decide ((0 : Int) ≤ ((strings_Index s_1 substr).getD (0 : Int))))))) (fun K => by kernel_rfl) (W_bind (0 : Int) h fun hp0 h => ⟨_, .refl _, h⟩))
noncomputable def strings_Contains (s_1 substr : ByteArray) : Option (Bool) := strings_Contains_p0 s_1 substr
theorem z53run (s_1 substr : ByteArray) (y_ : Bool) (h : strings_Contains s_1 substr = some y_) : EvL Try.prog 9 (items (bodyOf Try.f53)) (retK Try.prog [.tmp 4] (OutOk (strings_Contains_out y_))) (z53p0S s_1 substr) :=
  z53p0ok s_1 substr _ (W_iff.2 ⟨y_, h, z53Rok y_⟩)
noncomputable def strings_Contains_C : Con
  | [(.c (.lit (.string a1))), (.c (.lit (.string a2)))] => some ([(strings_Contains a1 a2).isSome = true], (strings_Contains_out ((strings_Contains a1 a2).getD false)))
  | _ => none
theorem strings_Contains_ok : Meets Try.prog 53 strings_Contains_C := by
  refine meets_fun (fn := Try.f53) (c := bodyOf Try.f53) (by kernel_rfl) (by kernel_rfl) (by kernel_rfl) (rs := [.tmp 4]) (by kernel_rfl) (nt := 9) (by kernel_rfl) fun vs p out h hp => ?_
  unfold strings_Contains_C at h
  split at h
  · next a1 a2 =>
    cases h
    obtain ⟨g, hp⟩ := allq hp
    obtain ⟨x, hx⟩ := Option.isSome_iff_exists.1 g
    rw [hx]
    exact ⟨[(str a1), (str a2)], (VLes.cons (VLe.rfl' _) (VLes.cons (VLe.rfl' _) VLes.nil)), rfl, z53run a1 a2 x hx⟩
  · cases h

noncomputable def z52i0 : List Code := items (bodyOf Try.f52)
def fact_Valid_1_out (x_1 : Bool) : Out := .data (bl x_1)
def z52R (x_1 : Bool) : St := { tm := [sv 3 (bl x_1)], hp := [], nx := 0 }
theorem z52Rok (x_1 : Bool) : retK Try.prog [.tmp 3] (OutOk (fact_Valid_1_out x_1)) .ret (z52R x_1) :=
  retK.intro (v := (bl x_1)) (by kernel_rfl) ((VLe.rfl' _))
def z52p0S (letter t1 : ByteArray) : St := { tm := [sv 0 (str letter), sv 1 (.dptr 1 [(ds t1)] 0)], hp := [], nx := 0 }
noncomputable def fact_Valid_1_p0 (letter t1 : ByteArray) : Option (Bool) := (strings_Contains t1 letter).bind fun r_1 => ((some r_1))
theorem z52p0ok (letter t1 : ByteArray) (K : KT) (h : W (fact_Valid_1_p0 letter t1) (rE z52R K)) : EvL Try.prog 7 (List.drop 0 z52i0) K (z52p0S letter t1) :=
  EvL.pE mixed (lookC_ok (l := [(53, .pure strings_Contains_C)]) ⟨strings_Contains_ok, trivial⟩) [3] 0 3 (.nf (X := fun K => ((strings_Contains t1 letter).isSome = true) ∧ (wK K .ret (z52R ((strings_Contains t1 letter).getD false)))) (fun K => by kernel_rfl) (W_bind false h fun hp0 h => ⟨_, .refl _, h⟩))
noncomputable def fact_Valid_1 (letter t1 : ByteArray) : Option (Bool) := fact_Valid_1_p0 letter t1
theorem z52run (letter t1 : ByteArray) (y_ : Bool) (h : fact_Valid_1 letter t1 = some y_) : EvL Try.prog 7 (items (bodyOf Try.f52)) (retK Try.prog [.tmp 3] (OutOk (fact_Valid_1_out y_))) (z52p0S letter t1) :=
  z52p0ok letter t1 _ (W_iff.2 ⟨y_, h, z52Rok y_⟩)
noncomputable def fact_Valid_1_C : Con
  | [(.c (.lit (.string a1))), (.dptr 1 [(.lit (.string a2))] 0)] => some ([(fact_Valid_1 a1 a2).isSome = true], (fact_Valid_1_out ((fact_Valid_1 a1 a2).getD false)))
  | _ => none
theorem fact_Valid_1_ok : Meets Try.prog 52 fact_Valid_1_C := by
  refine meets_fun (fn := Try.f52) (c := bodyOf Try.f52) (by kernel_rfl) (by kernel_rfl) (by kernel_rfl) (rs := [.tmp 3]) (by kernel_rfl) (nt := 7) (by kernel_rfl) fun vs p out h hp => ?_
  unfold fact_Valid_1_C at h
  split at h
  · next a1 a2 =>
    cases h
    obtain ⟨g, hp⟩ := allq hp
    obtain ⟨x, hx⟩ := Option.isSome_iff_exists.1 g
    rw [hx]
    exact ⟨[(str a1), (.dptr 1 [(ds a2)] 0)], (VLes.cons (VLe.rfl' _) (VLes.cons (VLe.rfl' _) VLes.nil)), rfl, z52run a1 a2 x hx⟩
  · cases h

noncomputable def z55i0 : List Code := items (bodyOf Try.f55)
def fact_field_out (x_2 : Bool) : Out := .data (bl x_2)
def z55R (x_2 : Bool) : St := { tm := [sv 8 (bl x_2)], hp := [], nx := 0 }
theorem z55Rok (x_2 : Bool) : retK Try.prog [.tmp 8] (OutOk (fact_field_out x_2)) .ret (z55R x_2) :=
  retK.intro (v := (bl x_2)) (by kernel_rfl) ((VLe.rfl' _))
def z55p0S (used : Bool) (x_1 low high : Int) : St := { tm := [sv 0 (bl used), sv 1 (i64 x_1), sv 2 (i64 low), sv 3 (i64 high)], hp := [], nx := 0 }
noncomputable def fact_field_p0 (used : Bool) (x_1 low high : Int) : Option (Bool) := gd ((used && true) = true → (fact_within x_1 low high).isSome = true) ((some (bif (bif used then ((fact_within x_1 low high).getD false) else false) then true else (bif (!used) then (x_1 == (0 : Int)) else false))))
theorem z55p0ok (used : Bool) (x_1 low high : Int) (K : KT) (h : W (fact_field_p0 used x_1 low high) (rE z55R K)) : EvL Try.prog 24 (List.drop 0 z55i0) K (z55p0S used x_1 low high) :=
  EvL.pE mixed (lookC_ok (l := [(54, .pure fact_within_C)]) ⟨fact_within_ok, trivial⟩) [8] 0 3 (.nf (X := fun K => ((used && true) = true → (fact_within x_1 low high).isSome = true) ∧ (wK K .ret (z55R (bif (bif used then ((fact_within x_1 low high).getD false) else false) then true else (bif (!used) then (x_1 == (0 : Int)) else false))))) (fun K => by kernel_rfl) (W_gd h fun hp0 h => ⟨_, .refl _, h⟩))
noncomputable def fact_field (used : Bool) (x_1 low high : Int) : Option (Bool) := fact_field_p0 used x_1 low high
theorem z55run (used : Bool) (x_1 low high : Int) (y_ : Bool) (h : fact_field used x_1 low high = some y_) : EvL Try.prog 24 (items (bodyOf Try.f55)) (retK Try.prog [.tmp 8] (OutOk (fact_field_out y_))) (z55p0S used x_1 low high) :=
  z55p0ok used x_1 low high _ (W_iff.2 ⟨y_, h, z55Rok y_⟩)
noncomputable def fact_field_C : Con
  | [(.c (.lit (.bool a1))), (.c (.lit (.int .i64 a2))), (.c (.lit (.int .i64 a3))), (.c (.lit (.int .i64 a4)))] => some ([(fact_field a1 a2 a3 a4).isSome = true], (fact_field_out ((fact_field a1 a2 a3 a4).getD false)))
  | _ => none
theorem fact_field_ok : Meets Try.prog 55 fact_field_C := by
  refine meets_fun (fn := Try.f55) (c := bodyOf Try.f55) (by kernel_rfl) (by kernel_rfl) (by kernel_rfl) (rs := [.tmp 8]) (by kernel_rfl) (nt := 24) (by kernel_rfl) fun vs p out h hp => ?_
  unfold fact_field_C at h
  split at h
  · next a1 a2 a3 a4 =>
    cases h
    obtain ⟨g, hp⟩ := allq hp
    obtain ⟨x, hx⟩ := Option.isSome_iff_exists.1 g
    rw [hx]
    exact ⟨[(bl a1), (i64 a2), (i64 a3), (i64 a4)], (VLes.cons (VLe.rfl' _) (VLes.cons (VLe.rfl' _) (VLes.cons (VLe.rfl' _) (VLes.cons (VLe.rfl' _) VLes.nil)))), rfl, z55run a1 a2 a3 a4 x hx⟩
  · cases h

noncomputable def z56i0 : List Code := items (bodyOf Try.f56)
def fact_validSpan_out (x_1 : Bool) : Out := .data (bl x_1)
def z56R (x_1 : Bool) : St := { tm := [sv 2 (bl x_1)], hp := [], nx := 0 }
theorem z56Rok (x_1 : Bool) : retK Try.prog [.tmp 2] (OutOk (fact_validSpan_out x_1)) .ret (z56R x_1) :=
  retK.intro (v := (bl x_1)) (by kernel_rfl) ((VLe.rfl' _))
def z56p0S (s_1 : GSpan) : St := { tm := [sv 0 (.ag (eGSpan s_1))], hp := [], nx := 0 }
noncomputable def fact_validSpan_p0 (s_1 : GSpan) : Option (Bool) := (some (bif (bif (decide ((0 : Int) ≤ s_1.From)) then (decide (s_1.From < s_1.To)) else false) then (decide (s_1.To ≤ (73049 : Int))) else false))
theorem z56p0ok (s_1 : GSpan) (K : KT) (h : W (fact_validSpan_p0 s_1) (rE z56R K)) : EvL Try.prog 18 (List.drop 0 z56i0) K (z56p0S s_1) :=
  EvL.pE mixed (lookC_ok (l := []) trivial) [2] 0 3 (.nf (X := fun K => wK K .ret (z56R (bif (bif (decide ((0 : Int) ≤ s_1.From)) then (decide (s_1.From < s_1.To)) else false) then (decide (s_1.To ≤ (73049 : Int))) else false))) (fun K => by kernel_rfl) (⟨_, .refl _, h⟩))
noncomputable def fact_validSpan (s_1 : GSpan) : Option (Bool) := fact_validSpan_p0 s_1
theorem z56run (s_1 : GSpan) (y_ : Bool) (h : fact_validSpan s_1 = some y_) : EvL Try.prog 18 (items (bodyOf Try.f56)) (retK Try.prog [.tmp 2] (OutOk (fact_validSpan_out y_))) (z56p0S s_1) :=
  z56p0ok s_1 _ (W_iff.2 ⟨y_, h, z56Rok y_⟩)
noncomputable def fact_validSpan_C : Con
  | [(.agg [(.c (.lit (.int .i64 a1))), (.c (.lit (.int .i64 a2)))])] => some ([(fact_validSpan (GSpan.mk a1 a2)).isSome = true], (fact_validSpan_out ((fact_validSpan (GSpan.mk a1 a2)).getD false)))
  | _ => none
theorem fact_validSpan_ok : Meets Try.prog 56 fact_validSpan_C := by
  refine meets_fun (fn := Try.f56) (c := bodyOf Try.f56) (by kernel_rfl) (by kernel_rfl) (by kernel_rfl) (rs := [.tmp 2]) (by kernel_rfl) (nt := 18) (by kernel_rfl) fun vs p out h hp => ?_
  unfold fact_validSpan_C at h
  split at h
  · next a1 a2 =>
    cases h
    obtain ⟨g, hp⟩ := allq hp
    obtain ⟨x, hx⟩ := Option.isSome_iff_exists.1 g
    rw [hx]
    exact ⟨[(.agg [(i64 (GSpan.mk a1 a2).From), (i64 (GSpan.mk a1 a2).To)])], (VLes.cons (VLe.rfl' _) VLes.nil), rfl, z56run (GSpan.mk a1 a2) x hx⟩
  · cases h

noncomputable def z38i0 : List Code := items (bodyOf Try.f38)
def fact_Valid_out (x_1 : Bool) : Out := .data (bl x_1)
def z38R (x_1 : Bool) : St := { tm := [sv 2 (bl x_1)], hp := [], nx := 0 }
theorem z38Rok (x_1 : Bool) : retK Try.prog [.tmp 2] (OutOk (fact_Valid_out x_1)) .ret (z38R x_1) :=
  retK.intro (v := (bl x_1)) (by kernel_rfl) ((VLe.rfl' _))
def z38p0S : St := { tm := [], hp := [], nx := 0 }
noncomputable def fact_Valid_p0 : Option (Bool) := (some true)
theorem z38p0ok (K : KT) (h : W (fact_Valid_p0) (rE z38R K)) : EvL Try.prog 116 (List.drop 6 z38i0) K (z38p0S) :=
  EvL.pE mixed (lookC_ok (l := []) trivial) [2] 6 2 (.nf (X := fun K => wK K .ret (z38R true)) (fun K => by kernel_rfl) (⟨_, .refl _, h⟩))
def z38p1S (f : GFact) : St := { tm := [sv 1 (.ptr 0 14 0 0), sv 89 (i64 f.Kind)], hp := [(0, some (.box [(i64 f.Issuer), (i64 f.Number), (i64 f.Version), (bl f.Withdrawn), (i64 f.Person), (i64 f.Kind), (i64 f.State), (i64 f.Span.From), (i64 f.Span.To), (i64 f.Seat), (i64 f.Share), (i64 f.Currency), (i64 f.Amount), (i64 f.Ref)]))], nx := 1 }
noncomputable def fact_Valid_p1 (f : GFact) : Option (Bool) := (bif (f.Kind == (4 : Int)) then (some (f.State != f.Seat)) else (bif (f.Kind == (11 : Int)) then (bif (f.Kind == (11 : Int)) then (some (f.Span.To == (w64 (f.Span.From + (1 : Int))))) else (bif (f.Kind == (10 : Int)) then (bif (f.Kind == (10 : Int)) then (some (f.Ref != f.Person)) else fact_Valid_p0) else (bif (f.Kind == (14 : Int)) then (some (f.Ref != f.Person)) else fact_Valid_p0))) else (bif (f.Kind == (12 : Int)) then (some (f.Span.To == (w64 (f.Span.From + (1 : Int))))) else (bif (f.Kind == (10 : Int)) then (bif (f.Kind == (10 : Int)) then (some (f.Ref != f.Person)) else fact_Valid_p0) else (bif (f.Kind == (14 : Int)) then (some (f.Ref != f.Person)) else fact_Valid_p0)))))
theorem z38p1ok (f : GFact) (K : KT) (h : W (fact_Valid_p1 f) (rE z38R K)) : EvL Try.prog 116 (List.drop 5 z38i0) K (z38p1S f) :=
  EvL.pD mixed (lookC_ok (l := []) trivial) [2] 5 1 6 (.nf (X := fun K => (bif (f.Kind == (4 : Int)) then wK K .ret (z38R (f.State != f.Seat)) else (bif (f.Kind == (11 : Int)) then (bif (f.Kind == (11 : Int)) then wK K .ret (z38R (f.Span.To == (w64 (f.Span.From + (1 : Int))))) else (bif (f.Kind == (10 : Int)) then (bif (f.Kind == (10 : Int)) then wK K .ret (z38R (f.Ref != f.Person)) else wK K .normal (z38p0S)) else (bif (f.Kind == (14 : Int)) then wK K .ret (z38R (f.Ref != f.Person)) else wK K .normal (z38p0S)))) else (bif (f.Kind == (12 : Int)) then wK K .ret (z38R (f.Span.To == (w64 (f.Span.From + (1 : Int))))) else (bif (f.Kind == (10 : Int)) then (bif (f.Kind == (10 : Int)) then wK K .ret (z38R (f.Ref != f.Person)) else wK K .normal (z38p0S)) else (bif (f.Kind == (14 : Int)) then wK K .ret (z38R (f.Ref != f.Person)) else wK K .normal (z38p0S))))))) (fun K => by kernel_rfl) (W_bif h (fun _ h => ⟨_, .refl _, h⟩) (fun _ h => (W_bif h (fun _ h => (W_bif h (fun _ h => ⟨_, .refl _, h⟩) (fun _ h => (W_bif h (fun _ h => (W_bif h (fun _ h => ⟨_, .refl _, h⟩) (fun _ h => ⟨_, .refl _, (z38p0ok _ h)⟩))) (fun _ h => (W_bif h (fun _ h => ⟨_, .refl _, h⟩) (fun _ h => ⟨_, .refl _, (z38p0ok _ h)⟩))))))) (fun _ h => (W_bif h (fun _ h => ⟨_, .refl _, h⟩) (fun _ h => (W_bif h (fun _ h => (W_bif h (fun _ h => ⟨_, .refl _, h⟩) (fun _ h => ⟨_, .refl _, (z38p0ok _ h)⟩))) (fun _ h => (W_bif h (fun _ h => ⟨_, .refl _, h⟩) (fun _ h => ⟨_, .refl _, (z38p0ok _ h)⟩)))))))))))
def z38p2S (f : GFact) (uses : ByteArray) : St := { tm := [sv 1 (.ptr 0 14 0 0), sv 3 (.ptr 1 1 0 0), sv 4 (.fn 52 [(.ptr 1 1 0 0)])], hp := [(0, some (.box [(i64 f.Issuer), (i64 f.Number), (i64 f.Version), (bl f.Withdrawn), (i64 f.Person), (i64 f.Kind), (i64 f.State), (i64 f.Span.From), (i64 f.Span.To), (i64 f.Seat), (i64 f.Share), (i64 f.Currency), (i64 f.Amount), (i64 f.Ref)])), (1, some (.box [(str uses)]))], nx := 2 }
noncomputable def fact_Valid_p2 (f : GFact) (uses : ByteArray) : Option (Bool) := gd (((!(uses.toList == (bstr []).toList)) && true) = true → (fact_within f.Issuer (0 : Int) (5 : Int)).isSome = true) (gd (((!(bif (uses.toList == (bstr []).toList) then true else (!((fact_within f.Issuer (0 : Int) (5 : Int)).getD false)))) && true) = true → (fact_within f.Number (1 : Int) (999 : Int)).isSome = true) (gd (((!(bif (bif (uses.toList == (bstr []).toList) then true else (!((fact_within f.Issuer (0 : Int) (5 : Int)).getD false))) then true else (!((fact_within f.Number (1 : Int) (999 : Int)).getD false)))) && true) = true → (fact_within f.Version (1 : Int) (99 : Int)).isSome = true) (gd (((!(bif (bif (bif (uses.toList == (bstr []).toList) then true else (!((fact_within f.Issuer (0 : Int) (5 : Int)).getD false))) then true else (!((fact_within f.Number (1 : Int) (999 : Int)).getD false))) then true else (!((fact_within f.Version (1 : Int) (99 : Int)).getD false)))) && true) = true → (fact_within f.Person (1 : Int) (99 : Int)).isSome = true) ((bif (bif (bif (bif (bif (uses.toList == (bstr []).toList) then true else (!((fact_within f.Issuer (0 : Int) (5 : Int)).getD false))) then true else (!((fact_within f.Number (1 : Int) (999 : Int)).getD false))) then true else (!((fact_within f.Version (1 : Int) (99 : Int)).getD false))) then true else (!((fact_within f.Person (1 : Int) (99 : Int)).getD false))) then (some false) else (fact_Valid_1 (bstr [83]) uses).bind fun r_2 => ((fact_field r_2 f.State (0 : Int) (5 : Int)).bind fun r_3 => (gd (((!(!r_3)) && true) = true → (fact_Valid_1 (bstr [84]) uses).isSome = true) (gd (((!(!r_3)) && true) = true → (fact_field ((fact_Valid_1 (bstr [84]) uses).getD false) f.Seat (0 : Int) (5 : Int)).isSome = true) (gd (((!(bif (!r_3) then true else (!((fact_field ((fact_Valid_1 (bstr [84]) uses).getD false) f.Seat (0 : Int) (5 : Int)).getD false)))) && true) = true → (fact_validSpan f.Span).isSome = true) ((bif (bif (bif (!r_3) then true else (!((fact_field ((fact_Valid_1 (bstr [84]) uses).getD false) f.Seat (0 : Int) (5 : Int)).getD false))) then true else (!((fact_validSpan f.Span).getD false))) then (some false) else (fact_Valid_1 (bstr [72]) uses).bind fun r_4 => ((fact_field r_4 f.Share (1 : Int) (100 : Int)).bind fun r_5 => (gd (((!(!r_5)) && true) = true → (fact_Valid_1 (bstr [67]) uses).isSome = true) (gd (((!(!r_5)) && true) = true → (fact_field ((fact_Valid_1 (bstr [67]) uses).getD false) f.Currency (1 : Int) (999 : Int)).isSome = true) (gd (((!(bif (!r_5) then true else (!((fact_field ((fact_Valid_1 (bstr [67]) uses).getD false) f.Currency (1 : Int) (999 : Int)).getD false)))) && true) = true → (fact_Valid_1 (bstr [65]) uses).isSome = true) (gd (((!(bif (!r_5) then true else (!((fact_field ((fact_Valid_1 (bstr [67]) uses).getD false) f.Currency (1 : Int) (999 : Int)).getD false)))) && true) = true → (fact_field ((fact_Valid_1 (bstr [65]) uses).getD false) f.Amount (0 : Int) (1000000000 : Int)).isSome = true) (gd (((!(bif (bif (!r_5) then true else (!((fact_field ((fact_Valid_1 (bstr [67]) uses).getD false) f.Currency (1 : Int) (999 : Int)).getD false))) then true else (!((fact_field ((fact_Valid_1 (bstr [65]) uses).getD false) f.Amount (0 : Int) (1000000000 : Int)).getD false)))) && true) = true → (fact_Valid_1 (bstr [82]) uses).isSome = true) (gd (((!(bif (bif (!r_5) then true else (!((fact_field ((fact_Valid_1 (bstr [67]) uses).getD false) f.Currency (1 : Int) (999 : Int)).getD false))) then true else (!((fact_field ((fact_Valid_1 (bstr [65]) uses).getD false) f.Amount (0 : Int) (1000000000 : Int)).getD false)))) && true) = true → (fact_field ((fact_Valid_1 (bstr [82]) uses).getD false) f.Ref (1 : Int) (99 : Int)).isSome = true) ((bif (bif (bif (bif (!r_5) then true else (!((fact_field ((fact_Valid_1 (bstr [67]) uses).getD false) f.Currency (1 : Int) (999 : Int)).getD false))) then true else (!((fact_field ((fact_Valid_1 (bstr [65]) uses).getD false) f.Amount (0 : Int) (1000000000 : Int)).getD false))) then true else (!((fact_field ((fact_Valid_1 (bstr [82]) uses).getD false) f.Ref (1 : Int) (99 : Int)).getD false))) then (some false) else (fact_Valid_p1 f)))))))))))))))))))))
theorem z38p2ok (f : GFact) (uses : ByteArray) (K : KT) (h : W (fact_Valid_p2 f uses) (rE z38R K)) : EvL Try.prog 116 (List.drop 3 z38i0) K (z38p2S f uses) :=
  EvL.pD mixed (lookC_ok (l := [(52, .pure fact_Valid_1_C), (54, .pure fact_within_C), (55, .pure fact_field_C), (56, .pure fact_validSpan_C)]) ⟨fact_Valid_1_ok, fact_within_ok, fact_field_ok, fact_validSpan_ok, trivial⟩) [1, 2, 89] 3 2 5 (.nf (X := fun K => (((!(uses.toList == (bstr []).toList)) && true) = true → (fact_within f.Issuer (0 : Int) (5 : Int)).isSome = true) ∧ (((!(bif (uses.toList == (bstr []).toList) then true else (!((fact_within f.Issuer (0 : Int) (5 : Int)).getD false)))) && true) = true → (fact_within f.Number (1 : Int) (999 : Int)).isSome = true) ∧ (((!(bif (bif (uses.toList == (bstr []).toList) then true else (!((fact_within f.Issuer (0 : Int) (5 : Int)).getD false))) then true else (!((fact_within f.Number (1 : Int) (999 : Int)).getD false)))) && true) = true → (fact_within f.Version (1 : Int) (99 : Int)).isSome = true) ∧ (((!(bif (bif (bif (uses.toList == (bstr []).toList) then true else (!((fact_within f.Issuer (0 : Int) (5 : Int)).getD false))) then true else (!((fact_within f.Number (1 : Int) (999 : Int)).getD false))) then true else (!((fact_within f.Version (1 : Int) (99 : Int)).getD false)))) && true) = true → (fact_within f.Person (1 : Int) (99 : Int)).isSome = true) ∧ ((bif (bif (bif (bif (bif (uses.toList == (bstr []).toList) then true else (!((fact_within f.Issuer (0 : Int) (5 : Int)).getD false))) then true else (!((fact_within f.Number (1 : Int) (999 : Int)).getD false))) then true else (!((fact_within f.Version (1 : Int) (99 : Int)).getD false))) then true else (!((fact_within f.Person (1 : Int) (99 : Int)).getD false))) then wK K .ret ({ tm := [sv 1 (.ptr 0 14 0 0), sv 2 (bl false)], hp := [(0, some (.box [(i64 f.Issuer), (i64 f.Number), (i64 f.Version), (bl f.Withdrawn), (i64 f.Person), (i64 f.Kind), (i64 f.State), (i64 f.Span.From), (i64 f.Span.To), (i64 f.Seat), (i64 f.Share), (i64 f.Currency), (i64 f.Amount), (i64 f.Ref)]))], nx := 1 }) else ((fact_Valid_1 (bstr [83]) uses).isSome = true) ∧ ((fact_field ((fact_Valid_1 (bstr [83]) uses).getD false) f.State (0 : Int) (5 : Int)).isSome = true) ∧ (((!(!((fact_field ((fact_Valid_1 (bstr [83]) uses).getD false) f.State (0 : Int) (5 : Int)).getD false))) && true) = true → (fact_Valid_1 (bstr [84]) uses).isSome = true) ∧ (((!(!((fact_field ((fact_Valid_1 (bstr [83]) uses).getD false) f.State (0 : Int) (5 : Int)).getD false))) && true) = true → (fact_field ((fact_Valid_1 (bstr [84]) uses).getD false) f.Seat (0 : Int) (5 : Int)).isSome = true) ∧ (((!(bif (!((fact_field ((fact_Valid_1 (bstr [83]) uses).getD false) f.State (0 : Int) (5 : Int)).getD false)) then true else (!((fact_field ((fact_Valid_1 (bstr [84]) uses).getD false) f.Seat (0 : Int) (5 : Int)).getD false)))) && true) = true → (fact_validSpan f.Span).isSome = true) ∧ ((bif (bif (bif (!((fact_field ((fact_Valid_1 (bstr [83]) uses).getD false) f.State (0 : Int) (5 : Int)).getD false)) then true else (!((fact_field ((fact_Valid_1 (bstr [84]) uses).getD false) f.Seat (0 : Int) (5 : Int)).getD false))) then true else (!((fact_validSpan f.Span).getD false))) then wK K .ret ({ tm := [sv 1 (.ptr 0 14 0 0), sv 2 (bl false)], hp := [(0, some (.box [(i64 f.Issuer), (i64 f.Number), (i64 f.Version), (bl f.Withdrawn), (i64 f.Person), (i64 f.Kind), (i64 f.State), (i64 f.Span.From), (i64 f.Span.To), (i64 f.Seat), (i64 f.Share), (i64 f.Currency), (i64 f.Amount), (i64 f.Ref)]))], nx := 1 }) else ((fact_Valid_1 (bstr [72]) uses).isSome = true) ∧ ((fact_field ((fact_Valid_1 (bstr [72]) uses).getD false) f.Share (1 : Int) (100 : Int)).isSome = true) ∧ (((!(!((fact_field ((fact_Valid_1 (bstr [72]) uses).getD false) f.Share (1 : Int) (100 : Int)).getD false))) && true) = true → (fact_Valid_1 (bstr [67]) uses).isSome = true) ∧ (((!(!((fact_field ((fact_Valid_1 (bstr [72]) uses).getD false) f.Share (1 : Int) (100 : Int)).getD false))) && true) = true → (fact_field ((fact_Valid_1 (bstr [67]) uses).getD false) f.Currency (1 : Int) (999 : Int)).isSome = true) ∧ (((!(bif (!((fact_field ((fact_Valid_1 (bstr [72]) uses).getD false) f.Share (1 : Int) (100 : Int)).getD false)) then true else (!((fact_field ((fact_Valid_1 (bstr [67]) uses).getD false) f.Currency (1 : Int) (999 : Int)).getD false)))) && true) = true → (fact_Valid_1 (bstr [65]) uses).isSome = true) ∧ (((!(bif (!((fact_field ((fact_Valid_1 (bstr [72]) uses).getD false) f.Share (1 : Int) (100 : Int)).getD false)) then true else (!((fact_field ((fact_Valid_1 (bstr [67]) uses).getD false) f.Currency (1 : Int) (999 : Int)).getD false)))) && true) = true → (fact_field ((fact_Valid_1 (bstr [65]) uses).getD false) f.Amount (0 : Int) (1000000000 : Int)).isSome = true) ∧ (((!(bif (bif (!((fact_field ((fact_Valid_1 (bstr [72]) uses).getD false) f.Share (1 : Int) (100 : Int)).getD false)) then true else (!((fact_field ((fact_Valid_1 (bstr [67]) uses).getD false) f.Currency (1 : Int) (999 : Int)).getD false))) then true else (!((fact_field ((fact_Valid_1 (bstr [65]) uses).getD false) f.Amount (0 : Int) (1000000000 : Int)).getD false)))) && true) = true → (fact_Valid_1 (bstr [82]) uses).isSome = true) ∧ (((!(bif (bif (!((fact_field ((fact_Valid_1 (bstr [72]) uses).getD false) f.Share (1 : Int) (100 : Int)).getD false)) then true else (!((fact_field ((fact_Valid_1 (bstr [67]) uses).getD false) f.Currency (1 : Int) (999 : Int)).getD false))) then true else (!((fact_field ((fact_Valid_1 (bstr [65]) uses).getD false) f.Amount (0 : Int) (1000000000 : Int)).getD false)))) && true) = true → (fact_field ((fact_Valid_1 (bstr [82]) uses).getD false) f.Ref (1 : Int) (99 : Int)).isSome = true) ∧ ((bif (bif (bif (bif (!((fact_field ((fact_Valid_1 (bstr [72]) uses).getD false) f.Share (1 : Int) (100 : Int)).getD false)) then true else (!((fact_field ((fact_Valid_1 (bstr [67]) uses).getD false) f.Currency (1 : Int) (999 : Int)).getD false))) then true else (!((fact_field ((fact_Valid_1 (bstr [65]) uses).getD false) f.Amount (0 : Int) (1000000000 : Int)).getD false))) then true else (!((fact_field ((fact_Valid_1 (bstr [82]) uses).getD false) f.Ref (1 : Int) (99 : Int)).getD false))) then wK K .ret ({ tm := [sv 1 (.ptr 0 14 0 0), sv 2 (bl false)], hp := [(0, some (.box [(i64 f.Issuer), (i64 f.Number), (i64 f.Version), (bl f.Withdrawn), (i64 f.Person), (i64 f.Kind), (i64 f.State), (i64 f.Span.From), (i64 f.Span.To), (i64 f.Seat), (i64 f.Share), (i64 f.Currency), (i64 f.Amount), (i64 f.Ref)]))], nx := 1 }) else wK K .normal (z38p1S f)))))))) (fun K => by kernel_rfl) (W_gd h fun hp0 h => (W_gd h fun hp1 h => (W_gd h fun hp2 h => (W_gd h fun hp3 h => (W_bif h (fun _ h => ⟨(z38R false), (.cn [2]), h⟩) (fun _ h => (W_bind false h fun hp4 h => (W_bind false h fun hp5 h => (W_gd h fun hp6 h => (W_gd h fun hp7 h => (W_gd h fun hp8 h => (W_bif h (fun _ h => ⟨(z38R false), (.cn [2]), h⟩) (fun _ h => (W_bind false h fun hp9 h => (W_bind false h fun hp10 h => (W_gd h fun hp11 h => (W_gd h fun hp12 h => (W_gd h fun hp13 h => (W_gd h fun hp14 h => (W_gd h fun hp15 h => (W_gd h fun hp16 h => (W_bif h (fun _ h => ⟨(z38R false), (.cn [2]), h⟩) (fun _ h => ⟨_, .refl _, (z38p1ok f _ h)⟩))))))))))))))))))))))))
def z38p3S (f : GFact) : St := { tm := [sv 0 (.ag (eGFact f))], hp := [], nx := 0 }
noncomputable def fact_Valid_p3 (f : GFact) : Option (Bool) := (fact_Uses f.Kind).bind fun r_1 => ((fact_Valid_p2 f r_1))
theorem z38p3ok (f : GFact) (K : KT) (h : W (fact_Valid_p3 f) (rE z38R K)) : EvL Try.prog 116 (List.drop 0 z38i0) K (z38p3S f) :=
  EvL.pD mixed (lookC_ok (l := [(51, .pure fact_Uses_C)]) ⟨fact_Uses_ok, trivial⟩) [1, 3, 4, 13, 14, 15, 16, 19, 20, 21, 22, 25, 26, 27, 28, 31, 32, 33, 34, 44, 45, 46, 47, 48, 49, 52, 53, 54, 55, 65, 66, 67, 68, 69, 70, 73, 74, 75, 76, 77, 78, 81, 82, 83, 84, 85, 86] 0 3 3 (.nf (X := fun K => ((fact_Uses f.Kind).isSome = true) ∧ (wK K .normal (z38p2S f ((fact_Uses f.Kind).getD (bstr []))))) (fun K => by kernel_rfl) (W_bind (bstr []) h fun hp0 h => ⟨_, .refl _, (z38p2ok f ((fact_Uses f.Kind).getD (bstr [])) _ h)⟩))
noncomputable def fact_Valid (f : GFact) : Option (Bool) := fact_Valid_p3 f
theorem z38run (f : GFact) (y_ : Bool) (h : fact_Valid f = some y_) : EvL Try.prog 116 (items (bodyOf Try.f38)) (retK Try.prog [.tmp 2] (OutOk (fact_Valid_out y_))) (z38p3S f) :=
  z38p3ok f _ (W_iff.2 ⟨y_, h, z38Rok y_⟩)
noncomputable def fact_Valid_C : Con
  | [(.agg [(.c (.lit (.int .i64 a1))), (.c (.lit (.int .i64 a2))), (.c (.lit (.int .i64 a3))), (.c (.lit (.bool a4))), (.c (.lit (.int .i64 a5))), (.c (.lit (.int .i64 a6))), (.c (.lit (.int .i64 a7))), (.c (.lit (.int .i64 a8))), (.c (.lit (.int .i64 a9))), (.c (.lit (.int .i64 a10))), (.c (.lit (.int .i64 a11))), (.c (.lit (.int .i64 a12))), (.c (.lit (.int .i64 a13))), (.c (.lit (.int .i64 a14)))])] => some ([(fact_Valid (GFact.mk a1 a2 a3 a4 a5 a6 a7 (GSpan.mk a8 a9) a10 a11 a12 a13 a14)).isSome = true], (fact_Valid_out ((fact_Valid (GFact.mk a1 a2 a3 a4 a5 a6 a7 (GSpan.mk a8 a9) a10 a11 a12 a13 a14)).getD false)))
  | _ => none
theorem fact_Valid_ok : Meets Try.prog 38 fact_Valid_C := by
  refine meets_fun (fn := Try.f38) (c := bodyOf Try.f38) (by kernel_rfl) (by kernel_rfl) (by kernel_rfl) (rs := [.tmp 2]) (by kernel_rfl) (nt := 116) (by kernel_rfl) fun vs p out h hp => ?_
  unfold fact_Valid_C at h
  split at h
  · next a1 a2 a3 a4 a5 a6 a7 a8 a9 a10 a11 a12 a13 a14 =>
    cases h
    obtain ⟨g, hp⟩ := allq hp
    obtain ⟨x, hx⟩ := Option.isSome_iff_exists.1 g
    rw [hx]
    exact ⟨[(.agg [(i64 (GFact.mk a1 a2 a3 a4 a5 a6 a7 (GSpan.mk a8 a9) a10 a11 a12 a13 a14).Issuer), (i64 (GFact.mk a1 a2 a3 a4 a5 a6 a7 (GSpan.mk a8 a9) a10 a11 a12 a13 a14).Number), (i64 (GFact.mk a1 a2 a3 a4 a5 a6 a7 (GSpan.mk a8 a9) a10 a11 a12 a13 a14).Version), (bl (GFact.mk a1 a2 a3 a4 a5 a6 a7 (GSpan.mk a8 a9) a10 a11 a12 a13 a14).Withdrawn), (i64 (GFact.mk a1 a2 a3 a4 a5 a6 a7 (GSpan.mk a8 a9) a10 a11 a12 a13 a14).Person), (i64 (GFact.mk a1 a2 a3 a4 a5 a6 a7 (GSpan.mk a8 a9) a10 a11 a12 a13 a14).Kind), (i64 (GFact.mk a1 a2 a3 a4 a5 a6 a7 (GSpan.mk a8 a9) a10 a11 a12 a13 a14).State), (i64 ((GFact.mk a1 a2 a3 a4 a5 a6 a7 (GSpan.mk a8 a9) a10 a11 a12 a13 a14).Span).From), (i64 ((GFact.mk a1 a2 a3 a4 a5 a6 a7 (GSpan.mk a8 a9) a10 a11 a12 a13 a14).Span).To), (i64 (GFact.mk a1 a2 a3 a4 a5 a6 a7 (GSpan.mk a8 a9) a10 a11 a12 a13 a14).Seat), (i64 (GFact.mk a1 a2 a3 a4 a5 a6 a7 (GSpan.mk a8 a9) a10 a11 a12 a13 a14).Share), (i64 (GFact.mk a1 a2 a3 a4 a5 a6 a7 (GSpan.mk a8 a9) a10 a11 a12 a13 a14).Currency), (i64 (GFact.mk a1 a2 a3 a4 a5 a6 a7 (GSpan.mk a8 a9) a10 a11 a12 a13 a14).Amount), (i64 (GFact.mk a1 a2 a3 a4 a5 a6 a7 (GSpan.mk a8 a9) a10 a11 a12 a13 a14).Ref)])], (VLes.cons (VLe.rfl' _) VLes.nil), rfl, z38run (GFact.mk a1 a2 a3 a4 a5 a6 a7 (GSpan.mk a8 a9) a10 a11 a12 a13 a14) x hx⟩
  · cases h

noncomputable def z19i0 : List Code := items (bodyOf Try.f19)
def career_current_out (x_1 : Bool) : Out := .data (bl x_1)
def z19R (x_1 : Bool) : St := { tm := [sv 2 (bl x_1)], hp := [], nx := 0 }
theorem z19Rok (x_1 : Bool) : retK Try.prog [.tmp 2] (OutOk (career_current_out x_1)) .ret (z19R x_1) :=
  retK.intro (v := (bl x_1)) (by kernel_rfl) ((VLe.rfl' _))
def z19p0S (f : GFact) : St := { tm := [sv 0 (.ag (eGFact f))], hp := [], nx := 0 }
noncomputable def career_current_p0 (f : GFact) : Option (Bool) := (fact_Valid f).bind fun r_1 => ((some (bif r_1 then (!f.Withdrawn) else false)))
theorem z19p0ok (f : GFact) (K : KT) (h : W (career_current_p0 f) (rE z19R K)) : EvL Try.prog 10 (List.drop 0 z19i0) K (z19p0S f) :=
  EvL.pE mixed (lookC_ok (l := [(38, .pure fact_Valid_C)]) ⟨fact_Valid_ok, trivial⟩) [2] 0 3 (.nf (X := fun K => ((fact_Valid f).isSome = true) ∧ (wK K .ret (z19R (bif ((fact_Valid f).getD false) then (!f.Withdrawn) else false)))) (fun K => by kernel_rfl) (W_bind false h fun hp0 h => ⟨_, .refl _, h⟩))
noncomputable def career_current (f : GFact) : Option (Bool) := career_current_p0 f
theorem z19run (f : GFact) (y_ : Bool) (h : career_current f = some y_) : EvL Try.prog 10 (items (bodyOf Try.f19)) (retK Try.prog [.tmp 2] (OutOk (career_current_out y_))) (z19p0S f) :=
  z19p0ok f _ (W_iff.2 ⟨y_, h, z19Rok y_⟩)
noncomputable def career_current_C : Con
  | [(.agg [(.c (.lit (.int .i64 a1))), (.c (.lit (.int .i64 a2))), (.c (.lit (.int .i64 a3))), (.c (.lit (.bool a4))), (.c (.lit (.int .i64 a5))), (.c (.lit (.int .i64 a6))), (.c (.lit (.int .i64 a7))), (.c (.lit (.int .i64 a8))), (.c (.lit (.int .i64 a9))), (.c (.lit (.int .i64 a10))), (.c (.lit (.int .i64 a11))), (.c (.lit (.int .i64 a12))), (.c (.lit (.int .i64 a13))), (.c (.lit (.int .i64 a14)))])] => some ([(career_current (GFact.mk a1 a2 a3 a4 a5 a6 a7 (GSpan.mk a8 a9) a10 a11 a12 a13 a14)).isSome = true], (career_current_out ((career_current (GFact.mk a1 a2 a3 a4 a5 a6 a7 (GSpan.mk a8 a9) a10 a11 a12 a13 a14)).getD false)))
  | _ => none
theorem career_current_ok : Meets Try.prog 19 career_current_C := by
  refine meets_fun (fn := Try.f19) (c := bodyOf Try.f19) (by kernel_rfl) (by kernel_rfl) (by kernel_rfl) (rs := [.tmp 2]) (by kernel_rfl) (nt := 10) (by kernel_rfl) fun vs p out h hp => ?_
  unfold career_current_C at h
  split at h
  · next a1 a2 a3 a4 a5 a6 a7 a8 a9 a10 a11 a12 a13 a14 =>
    cases h
    obtain ⟨g, hp⟩ := allq hp
    obtain ⟨x, hx⟩ := Option.isSome_iff_exists.1 g
    rw [hx]
    exact ⟨[(.agg [(i64 (GFact.mk a1 a2 a3 a4 a5 a6 a7 (GSpan.mk a8 a9) a10 a11 a12 a13 a14).Issuer), (i64 (GFact.mk a1 a2 a3 a4 a5 a6 a7 (GSpan.mk a8 a9) a10 a11 a12 a13 a14).Number), (i64 (GFact.mk a1 a2 a3 a4 a5 a6 a7 (GSpan.mk a8 a9) a10 a11 a12 a13 a14).Version), (bl (GFact.mk a1 a2 a3 a4 a5 a6 a7 (GSpan.mk a8 a9) a10 a11 a12 a13 a14).Withdrawn), (i64 (GFact.mk a1 a2 a3 a4 a5 a6 a7 (GSpan.mk a8 a9) a10 a11 a12 a13 a14).Person), (i64 (GFact.mk a1 a2 a3 a4 a5 a6 a7 (GSpan.mk a8 a9) a10 a11 a12 a13 a14).Kind), (i64 (GFact.mk a1 a2 a3 a4 a5 a6 a7 (GSpan.mk a8 a9) a10 a11 a12 a13 a14).State), (i64 ((GFact.mk a1 a2 a3 a4 a5 a6 a7 (GSpan.mk a8 a9) a10 a11 a12 a13 a14).Span).From), (i64 ((GFact.mk a1 a2 a3 a4 a5 a6 a7 (GSpan.mk a8 a9) a10 a11 a12 a13 a14).Span).To), (i64 (GFact.mk a1 a2 a3 a4 a5 a6 a7 (GSpan.mk a8 a9) a10 a11 a12 a13 a14).Seat), (i64 (GFact.mk a1 a2 a3 a4 a5 a6 a7 (GSpan.mk a8 a9) a10 a11 a12 a13 a14).Share), (i64 (GFact.mk a1 a2 a3 a4 a5 a6 a7 (GSpan.mk a8 a9) a10 a11 a12 a13 a14).Currency), (i64 (GFact.mk a1 a2 a3 a4 a5 a6 a7 (GSpan.mk a8 a9) a10 a11 a12 a13 a14).Amount), (i64 (GFact.mk a1 a2 a3 a4 a5 a6 a7 (GSpan.mk a8 a9) a10 a11 a12 a13 a14).Ref)])], (VLes.cons (VLe.rfl' _) VLes.nil), rfl, z19run (GFact.mk a1 a2 a3 a4 a5 a6 a7 (GSpan.mk a8 a9) a10 a11 a12 a13 a14) x hx⟩
  · cases h

noncomputable def z50i0 : List Code := items (bodyOf Try.f50)
noncomputable def z50i1 : List Code := items (inside (inside (nthI z50i0 3)))
def career_first_out (x_1 : (Int × Bool)) : Out := .data (.tup [(i64 x_1.1), (bl x_1.2)])
def z50R (x_1 : (Int × Bool)) : St := { tm := [sv 4 (i64 x_1.1), sv 5 (bl x_1.2)], hp := [], nx := 0 }
theorem z50Rok (x_1 : (Int × Bool)) : retK Try.prog [.tmp 4, .tmp 5] (OutOk (career_first_out x_1)) .ret (z50R x_1) :=
  retK.intro (v := (.tup [(i64 x_1.1), (bl x_1.2)])) (by kernel_rfl) (VLe.tup (VLes.cons (VLe.rfl' _) (VLes.cons (VLe.rfl' _) (VLes.nil))))
def z50l1S (kind : Int) (l : (List GFact)) (s : (Int × Bool × Int)) : St := match s with | (day, ok, t12) => { tm := [sv 1 (i64 kind), sv 6 (i64 day), sv 7 (bl ok), sv 10 (.c (.sl 14 l.length (lsEl eGFact zGFact l))), sv 11 (i64 ((l.length : Nat) : Int)), sv 12 (i64 t12)], hp := [], nx := 0 }
def z50l1C0 (kind : Int) (l : (List GFact)) (s : Int × Bool) : St := match s with | (day_1, ok_1) => { tm := [sv 6 (i64 day_1), sv 7 (bl ok_1)], hp := [], nx := 0 }
def z50l1E (kind : Int) (l : (List GFact)) (r : ((Int × Bool))) (K : KT) : Prop := match r with | s => K (.exit 0) (z50l1C0 kind l s)
def z50p0S (kind day : Int) (ok : Bool) (l : (List GFact)) (t12 : Int) : St := { tm := [sv 1 (i64 kind), sv 6 (i64 day), sv 7 (bl ok), sv 10 (.c (.sl 14 l.length (lsEl eGFact zGFact l))), sv 11 (i64 ((l.length : Nat) : Int)), sv 12 (i64 t12)], hp := [], nx := 0 }
noncomputable def career_first_p0 (kind day : Int) (ok : Bool) (l : (List GFact)) (t12 : Int) : Option ((Int × Bool × Int) ⊕ ((Int × Bool))) := (bif (decide (t12 < ((l.length : Nat) : Int))) then gd ((0 : Int) ≤ t12 ∧ t12 < ((l.length : Nat) : Int)) ((career_current (l.getD (Int.toNat t12) zGFact)).bind fun r_1 => ((bif (bif (bif r_1 then ((l.getD (Int.toNat t12) zGFact).Kind == kind) else false) then (bif (!ok) then true else (decide (((l.getD (Int.toNat t12) zGFact).Span).From < day))) else false) then (some (Sum.inl (((l.getD (Int.toNat t12) zGFact).Span).From, true, (w64 (t12 + (1 : Int)))))) else (some (Sum.inl (day, ok, (w64 (t12 + (1 : Int))))))))) else (some (Sum.inr (day, ok))))
theorem z50p0ok (kind day : Int) (ok : Bool) (l : (List GFact)) (t12 : Int) (K : KT) (h : W (career_first_p0 kind day ok l t12) (nE (z50l1S kind l) (z50l1E kind l) K)) : EvL Try.prog 41 (List.drop 0 z50i1) K (z50p0S kind day ok l t12) :=
  EvL.pE mixed (lookC_ok (l := [(19, .pure career_current_C)]) ⟨career_current_ok, trivial⟩) [1, 6, 7, 10, 11, 12, 19, 20, 21, 22, 25, 26, 27, 28, 29, 30, 31, 32, 33] 0 4 (.nf (X := fun K => (bif (decide (t12 < ((l.length : Nat) : Int))) then ((0 : Int) ≤ t12) ∧ (t12 < ((l.length : Nat) : Int)) ∧ (((career_current (l.getD (Int.toNat t12) zGFact)).isSome = true) ∧ ((bif (bif (bif ((career_current (l.getD (Int.toNat t12) zGFact)).getD false) then ((l.getD (Int.toNat t12) zGFact).Kind == kind) else false) then (bif (!ok) then true else (decide (((l.getD (Int.toNat t12) zGFact).Span).From < day))) else false) then wK K .normal ({ tm := [sv 1 (i64 kind), sv 6 (i64 ((l.getD (Int.toNat t12) zGFact).Span).From), sv 7 (bl true), sv 10 (.c (.sl 14 l.length (lsEl eGFact zGFact l))), sv 11 (i64 ((l.length : Nat) : Int)), sv 12 (i64 (w64 (t12 + (1 : Int)))), sv 19 (.c .unk), sv 20 (.c .unk), sv 21 (.c .unk), sv 22 (.c .unk), sv 25 (.c .unk), sv 26 (.c .unk), sv 27 (.c .unk), sv 28 (.c .unk), sv 29 (.c .unk), sv 30 (.c .unk), sv 31 (.c .unk), sv 32 (.c .unk), sv 33 (.c .unk)], hp := [], nx := 0 }) else wK K .normal ({ tm := [sv 1 (i64 kind), sv 6 (i64 day), sv 7 (bl ok), sv 10 (.c (.sl 14 l.length (lsEl eGFact zGFact l))), sv 11 (i64 ((l.length : Nat) : Int)), sv 12 (i64 (w64 (t12 + (1 : Int)))), sv 19 (.c .unk), sv 20 (.c .unk), sv 21 (.c .unk), sv 22 (.c .unk), sv 25 (.c .unk), sv 26 (.c .unk), sv 27 (.c .unk), sv 28 (.c .unk), sv 29 (.c .unk), sv 30 (.c .unk), sv 31 (.c .unk), sv 32 (.c .unk), sv 33 (.c .unk)], hp := [], nx := 0 })))) else wK K (.exit 0) ({ tm := [sv 1 (i64 kind), sv 6 (i64 day), sv 7 (bl ok), sv 10 (.c (.sl 14 l.length (lsEl eGFact zGFact l))), sv 11 (i64 ((l.length : Nat) : Int)), sv 12 (i64 t12)], hp := [], nx := 0 }))) (fun K => by kernel_rfl) (W_bif h (fun _ h => (W_gd2 h fun hp0 h => (W_bind false h fun hp1 h => (W_bif h (fun _ h => ⟨(z50l1S kind l (((l.getD (Int.toNat t12) zGFact).Span).From, true, (w64 (t12 + (1 : Int))))), (.of (.q rfl (.q rfl (.q rfl (.q rfl (.q rfl (.q rfl .nil)))))) .nil rfl), h⟩) (fun _ h => ⟨(z50l1S kind l (day, ok, (w64 (t12 + (1 : Int))))), (.of (.q rfl (.q rfl (.q rfl (.q rfl (.q rfl (.q rfl .nil)))))) .nil rfl), h⟩))))) (fun _ h => ⟨(z50l1C0 kind l (day, ok)), (.of (.q rfl (.q rfl .nil)) .nil rfl), h⟩)))
noncomputable def career_first_l1 (kind : Int) (l : (List GFact)) (s : (Int × Bool × Int)) : Option ((Int × Bool × Int) ⊕ ((Int × Bool))) := match s with | (day, ok, t12) => career_first_p0 kind day ok l t12
theorem z50l1ok (kind : Int) (l : (List GFact)) (s : (Int × Bool × Int)) : Pp Try.prog 41 (List.drop 0 z50i1) (z50l1S kind l s) (career_first_l1 kind l s) (nextE (z50l1S kind l) (z50l1E kind l)) := fun K h => match s, h with | (day, ok, t12), h => (z50p0ok kind day ok l t12 _ h)
theorem z50l1Ethen (kind : Int) (l : (List GFact)) : ∀ (r : ((Int × Bool))) (J : St → Prop) (K : KT), z50l1E kind l r K → z50l1E kind l r (thenK J K)
  | s, _, _, h => h
def z50p1S (day_2 : Int) (ok_2 : Bool) : St := { tm := [sv 6 (i64 day_2), sv 7 (bl ok_2)], hp := [], nx := 0 }
noncomputable def career_first_p1 (day_2 : Int) (ok_2 : Bool) : Option ((Int × Bool)) := (some (day_2, ok_2))
theorem z50p1ok (day_2 : Int) (ok_2 : Bool) (K : KT) (h : W (career_first_p1 day_2 ok_2) (rE z50R K)) : EvL Try.prog 41 (List.drop 4 z50i0) K (z50p1S day_2 ok_2) :=
  EvL.pE mixed (lookC_ok (l := []) trivial) [4, 5] 4 2 (.nf (X := fun K => wK K .ret (z50R (day_2, ok_2))) (fun K => by kernel_rfl) (⟨_, .refl _, h⟩))
def z50p2S (kind : Int) (l : (List GFact)) : St := { tm := [sv 1 (i64 kind), sv 6 (i64 (0 : Int)), sv 7 (bl false), sv 10 (.c (.sl 14 l.length (lsEl eGFact zGFact l))), sv 11 (i64 ((l.length : Nat) : Int)), sv 12 (i64 (0 : Int))], hp := [], nx := 0 }
noncomputable def career_first_p2_g (kind : Int) (l : (List GFact)) (r : ((Int × Bool))) : Option ((Int × Bool)) := match r with | (day_1, ok_1) => (career_first_p1 day_1 ok_1)
noncomputable def career_first_p2 (kind : Int) (l : (List GFact)) : Option ((Int × Bool)) := (fixL (career_first_l1 kind l) ((0 : Int), false, (0 : Int))).bind (career_first_p2_g kind l)
theorem z50p2at : List.drop 3 z50i0 = .block 0 (.loop (inside (inside (nthI z50i0 3)))) :: List.drop 4 z50i0 := by kernel_rfl
theorem z50p2k (kind : Int) (l : (List GFact)) (K : KT) : ∀ r : ((Int × Bool)), W (career_first_p2_g kind l r) (rE z50R K) → z50l1E kind l r (wK (blockK 0 (thenK (EvL Try.prog 41 (List.drop 4 z50i0) K) K)))
  | (day_1, ok_1), h => ⟨(z50p1S day_1 ok_1), (.refl _), (z50p1ok day_1 ok_1 _ h)⟩
theorem z50p2ok (kind : Int) (l : (List GFact)) (K : KT) (h : W (career_first_p2 kind l) (rE z50R K)) : EvL Try.prog 41 (List.drop 3 z50i0) K (z50p2S kind l) :=
  EvL.at_ z50p2at (EvL.cons_loop (EvOk.weak (EvOk.ent (.refl _) (EvOk.loopF (x := inside (inside (nthI z50i0 3))) (f := career_first_l1 kind l) (emb := z50l1S kind l) (E := z50l1E kind l) (z50l1ok kind l) (z50l1Ethen kind l) (W_loop h (z50p2k kind l K))))))
def z50p3S (l : (List GFact)) (kind : Int) : St := { tm := [sv 0 (.c (.sl 14 l.length (lsEl eGFact zGFact l))), sv 1 (i64 kind)], hp := [], nx := 0 }
noncomputable def career_first_p3 (l : (List GFact)) (kind : Int) : Option ((Int × Bool)) := (career_first_p2 kind l)
theorem z50p3ok (l : (List GFact)) (kind : Int) (K : KT) (h : W (career_first_p3 l kind) (rE z50R K)) : EvL Try.prog 41 (List.drop 0 z50i0) K (z50p3S l kind) :=
  EvL.pD mixed (lookC_ok (l := []) trivial) [1, 6, 7, 10, 11, 12, 19, 20, 21, 22, 25, 26, 27, 28, 29, 30, 31, 32, 33] 0 3 3 (.nf (X := fun K => wK K .normal (z50p2S kind l)) (fun K => by kernel_rfl) (⟨_, .refl _, (z50p2ok kind l _ h)⟩))
noncomputable def career_first (l : (List GFact)) (kind : Int) : Option ((Int × Bool)) := career_first_p3 l kind
theorem z50run (l : (List GFact)) (kind : Int) (y_ : (Int × Bool)) (h : career_first l kind = some y_) : EvL Try.prog 41 (items (bodyOf Try.f50)) (retK Try.prog [.tmp 4, .tmp 5] (OutOk (career_first_out y_))) (z50p3S l kind) :=
  z50p3ok l kind _ (W_iff.2 ⟨y_, h, z50Rok y_⟩)
noncomputable def career_first_C : Con
  | [(.c (.sl k1 n2 e3)), (.c (.lit (.int .i64 a4)))] => some ([LstOk eGFact dGFact 14 k1 n2 e3, (career_first (lst dGFact n2 e3) a4).isSome = true], (career_first_out ((career_first (lst dGFact n2 e3) a4).getD ((0 : Int), false))))
  | _ => none
theorem career_first_ok : Meets Try.prog 50 career_first_C := by
  refine meets_fun (fn := Try.f50) (c := bodyOf Try.f50) (by kernel_rfl) (by kernel_rfl) (by kernel_rfl) (rs := [.tmp 4, .tmp 5]) (by kernel_rfl) (nt := 41) (by kernel_rfl) fun vs p out h hp => ?_
  unfold career_first_C at h
  split at h
  · next k1 n2 e3 a4 =>
    cases h
    obtain ⟨g0, hp⟩ := allq hp
    obtain ⟨g, hp⟩ := allq hp
    obtain ⟨x, hx⟩ := Option.isSome_iff_exists.1 g
    rw [hx]
    exact ⟨[(.c (.sl 14 ((lst dGFact n2 e3)).length (lsEl eGFact zGFact (lst dGFact n2 e3)))), (i64 a4)], (VLes.cons (VLe.slk g0.1 (RowIs.of_ok g0)) (VLes.cons (VLe.rfl' _) VLes.nil)), rfl, z50run (lst dGFact n2 e3) a4 x hx⟩
  · cases h

noncomputable def z36i0 : List Code := items (bodyOf Try.f36)
def career_Birth_out (x_1 : (Int × Bool)) : Out := .data (.tup [(i64 x_1.1), (bl x_1.2)])
def z36R (x_1 : (Int × Bool)) : St := { tm := [sv 2 (i64 x_1.1), sv 3 (bl x_1.2)], hp := [], nx := 0 }
theorem z36Rok (x_1 : (Int × Bool)) : retK Try.prog [.tmp 2, .tmp 3] (OutOk (career_Birth_out x_1)) .ret (z36R x_1) :=
  retK.intro (v := (.tup [(i64 x_1.1), (bl x_1.2)])) (by kernel_rfl) (VLe.tup (VLes.cons (VLe.rfl' _) (VLes.cons (VLe.rfl' _) (VLes.nil))))
def z36p0S (l : (List GFact)) : St := { tm := [sv 0 (.c (.sl 14 l.length (lsEl eGFact zGFact l)))], hp := [], nx := 0 }
noncomputable def career_Birth_p0 (l : (List GFact)) : Option ((Int × Bool)) := (career_first l (11 : Int)).bind fun r_1 => ((some (r_1.1, r_1.2)))
theorem z36p0nf (l : (List GFact)) (K : KT) (L1_ : List GFact) (hL1_ : lst dGFact l.length (lsEl eGFact zGFact l) = L1_) :
    ev Try.prog (lookC [(50, .pure career_first_C)]) 8 (ofItems ((List.drop 0 z36i0).take 3)) (cN [2, 3] K) (z36p0S l) =
    ((LstOk eGFact dGFact 14 14 l.length (lsEl eGFact zGFact l)) ∧ ((career_first L1_ (11 : Int)).isSome = true) ∧ (wK K .ret (z36R (((career_first L1_ (11 : Int)).getD ((0 : Int), false)).1, ((career_first L1_ (11 : Int)).getD ((0 : Int), false)).2)))) := by subst hL1_; kernel_rfl
theorem z36p0ok (l : (List GFact)) (K : KT) (h : W (career_Birth_p0 l) (rE z36R K)) : EvL Try.prog 8 (List.drop 0 z36i0) K (z36p0S l) :=
  EvL.pE mixed (lookC_ok (l := [(50, .pure career_first_C)]) ⟨career_first_ok, trivial⟩) [2, 3] 0 3 (.of (z36p0nf l _ _ (RowIs.lst dGFact_eGFact (RowIs.ls eGFact zGFact l))) (⟨RowIs.ok dGFact_eGFact (RowIs.ls eGFact zGFact l), (W_bind ((0 : Int), false) h fun hp0 h => ⟨_, .refl _, h⟩)⟩))
noncomputable def career_Birth (l : (List GFact)) : Option ((Int × Bool)) := career_Birth_p0 l
theorem z36run (l : (List GFact)) (y_ : (Int × Bool)) (h : career_Birth l = some y_) : EvL Try.prog 8 (items (bodyOf Try.f36)) (retK Try.prog [.tmp 2, .tmp 3] (OutOk (career_Birth_out y_))) (z36p0S l) :=
  z36p0ok l _ (W_iff.2 ⟨y_, h, z36Rok y_⟩)
noncomputable def career_Birth_C : Con
  | [(.c (.sl k1 n2 e3))] => some ([LstOk eGFact dGFact 14 k1 n2 e3, (career_Birth (lst dGFact n2 e3)).isSome = true], (career_Birth_out ((career_Birth (lst dGFact n2 e3)).getD ((0 : Int), false))))
  | _ => none
theorem career_Birth_ok : Meets Try.prog 36 career_Birth_C := by
  refine meets_fun (fn := Try.f36) (c := bodyOf Try.f36) (by kernel_rfl) (by kernel_rfl) (by kernel_rfl) (rs := [.tmp 2, .tmp 3]) (by kernel_rfl) (nt := 8) (by kernel_rfl) fun vs p out h hp => ?_
  unfold career_Birth_C at h
  split at h
  · next k1 n2 e3 =>
    cases h
    obtain ⟨g0, hp⟩ := allq hp
    obtain ⟨g, hp⟩ := allq hp
    obtain ⟨x, hx⟩ := Option.isSome_iff_exists.1 g
    rw [hx]
    exact ⟨[(.c (.sl 14 ((lst dGFact n2 e3)).length (lsEl eGFact zGFact (lst dGFact n2 e3))))], (VLes.cons (VLe.slk g0.1 (RowIs.of_ok g0)) VLes.nil), rfl, z36run (lst dGFact n2 e3) x hx⟩
  · cases h

noncomputable def z37i0 : List Code := items (bodyOf Try.f37)
def career_Death_out (x_1 : (Int × Bool)) : Out := .data (.tup [(i64 x_1.1), (bl x_1.2)])
def z37R (x_1 : (Int × Bool)) : St := { tm := [sv 2 (i64 x_1.1), sv 3 (bl x_1.2)], hp := [], nx := 0 }
theorem z37Rok (x_1 : (Int × Bool)) : retK Try.prog [.tmp 2, .tmp 3] (OutOk (career_Death_out x_1)) .ret (z37R x_1) :=
  retK.intro (v := (.tup [(i64 x_1.1), (bl x_1.2)])) (by kernel_rfl) (VLe.tup (VLes.cons (VLe.rfl' _) (VLes.cons (VLe.rfl' _) (VLes.nil))))
def z37p0S (l : (List GFact)) : St := { tm := [sv 0 (.c (.sl 14 l.length (lsEl eGFact zGFact l)))], hp := [], nx := 0 }
noncomputable def career_Death_p0 (l : (List GFact)) : Option ((Int × Bool)) := (career_first l (12 : Int)).bind fun r_1 => ((some (r_1.1, r_1.2)))
theorem z37p0nf (l : (List GFact)) (K : KT) (L1_ : List GFact) (hL1_ : lst dGFact l.length (lsEl eGFact zGFact l) = L1_) :
    ev Try.prog (lookC [(50, .pure career_first_C)]) 8 (ofItems ((List.drop 0 z37i0).take 3)) (cN [2, 3] K) (z37p0S l) =
    ((LstOk eGFact dGFact 14 14 l.length (lsEl eGFact zGFact l)) ∧ ((career_first L1_ (12 : Int)).isSome = true) ∧ (wK K .ret (z37R (((career_first L1_ (12 : Int)).getD ((0 : Int), false)).1, ((career_first L1_ (12 : Int)).getD ((0 : Int), false)).2)))) := by subst hL1_; kernel_rfl
theorem z37p0ok (l : (List GFact)) (K : KT) (h : W (career_Death_p0 l) (rE z37R K)) : EvL Try.prog 8 (List.drop 0 z37i0) K (z37p0S l) :=
  EvL.pE mixed (lookC_ok (l := [(50, .pure career_first_C)]) ⟨career_first_ok, trivial⟩) [2, 3] 0 3 (.of (z37p0nf l _ _ (RowIs.lst dGFact_eGFact (RowIs.ls eGFact zGFact l))) (⟨RowIs.ok dGFact_eGFact (RowIs.ls eGFact zGFact l), (W_bind ((0 : Int), false) h fun hp0 h => ⟨_, .refl _, h⟩)⟩))
noncomputable def career_Death (l : (List GFact)) : Option ((Int × Bool)) := career_Death_p0 l
theorem z37run (l : (List GFact)) (y_ : (Int × Bool)) (h : career_Death l = some y_) : EvL Try.prog 8 (items (bodyOf Try.f37)) (retK Try.prog [.tmp 2, .tmp 3] (OutOk (career_Death_out y_))) (z37p0S l) :=
  z37p0ok l _ (W_iff.2 ⟨y_, h, z37Rok y_⟩)
noncomputable def career_Death_C : Con
  | [(.c (.sl k1 n2 e3))] => some ([LstOk eGFact dGFact 14 k1 n2 e3, (career_Death (lst dGFact n2 e3)).isSome = true], (career_Death_out ((career_Death (lst dGFact n2 e3)).getD ((0 : Int), false))))
  | _ => none
theorem career_Death_ok : Meets Try.prog 37 career_Death_C := by
  refine meets_fun (fn := Try.f37) (c := bodyOf Try.f37) (by kernel_rfl) (by kernel_rfl) (by kernel_rfl) (rs := [.tmp 2, .tmp 3]) (by kernel_rfl) (nt := 8) (by kernel_rfl) fun vs p out h hp => ?_
  unfold career_Death_C at h
  split at h
  · next k1 n2 e3 =>
    cases h
    obtain ⟨g0, hp⟩ := allq hp
    obtain ⟨g, hp⟩ := allq hp
    obtain ⟨x, hx⟩ := Option.isSome_iff_exists.1 g
    rw [hx]
    exact ⟨[(.c (.sl 14 ((lst dGFact n2 e3)).length (lsEl eGFact zGFact (lst dGFact n2 e3))))], (VLes.cons (VLe.slk g0.1 (RowIs.of_ok g0)) VLes.nil), rfl, z37run (lst dGFact n2 e3) x hx⟩
  · cases h

noncomputable def z18i0 : List Code := items (bodyOf Try.f18)
def career_Life_out (x_1 : GSpan) : Out := .data (.agg [(i64 x_1.From), (i64 x_1.To)])
def z18R (x_1 : GSpan) : St := { tm := [sv 2 (.ptr 0 2 0 0)], hp := [(0, some (.box [(i64 x_1.From), (i64 x_1.To)]))], nx := 1 }
theorem z18Rok (x_1 : GSpan) : retK Try.prog [.cell 2 36] (OutOk (career_Life_out x_1)) .ret (z18R x_1) :=
  retK.intro (v := (.agg [(i64 x_1.From), (i64 x_1.To)])) (by kernel_rfl) ((VLe.rfl' _))
def z18p0S (birth death : Int) : St := { tm := [sv 2 (.ptr 0 2 0 0), sv 3 (i64 birth), sv 5 (i64 death)], hp := [(0, some (.box [(i64 (0 : Int)), (i64 (0 : Int))]))], nx := 1 }
noncomputable def career_Life_p0 (birth death : Int) : Option (GSpan) := (bif (decide (death < birth)) then (some (GSpan.mk (0 : Int) (0 : Int))) else (some (GSpan.mk birth (w64 (death + (1 : Int))))))
theorem z18p0ok (birth death : Int) (K : KT) (h : W (career_Life_p0 birth death) (rE z18R K)) : EvL Try.prog 27 (List.drop 5 z18i0) K (z18p0S birth death) :=
  EvL.pE mixed (lookC_ok (l := []) trivial) [2] 5 4 (.nf (X := fun K => (bif (decide (death < birth)) then wK K .ret (z18R (GSpan.mk (0 : Int) (0 : Int))) else wK K .ret (z18R (GSpan.mk birth (w64 (death + (1 : Int))))))) (fun K => by kernel_rfl) (W_bif h (fun _ h => ⟨_, .refl _, h⟩) (fun _ h => ⟨_, .refl _, h⟩)))
def z18p1S (l : (List GFact)) : St := { tm := [sv 0 (.c (.sl 14 l.length (lsEl eGFact zGFact l)))], hp := [], nx := 0 }
noncomputable def career_Life_p1 (l : (List GFact)) : Option (GSpan) := (career_Birth l).bind fun r_1 => ((career_Death l).bind fun r_2 => ((bif (!r_2.2) then (career_Life_p0 r_1.1 (73048 : Int)) else (career_Life_p0 r_1.1 r_2.1))))
theorem z18p1nf (l : (List GFact)) (K : KT) (L1_ : List GFact) (hL1_ : lst dGFact l.length (lsEl eGFact zGFact l) = L1_) (L2_ : List GFact) (hL2_ : lst dGFact l.length (lsEl eGFact zGFact l) = L2_) :
    ev Try.prog (lookC [(36, .pure career_Birth_C), (37, .pure career_Death_C)]) 27 (ofItems ((List.drop 0 z18i0).take 5)) (cN [2, 3, 5] K) (z18p1S l) =
    ((LstOk eGFact dGFact 14 14 l.length (lsEl eGFact zGFact l)) ∧ ((career_Birth L1_).isSome = true) ∧ ((LstOk eGFact dGFact 14 14 l.length (lsEl eGFact zGFact l)) ∧ ((career_Death L2_).isSome = true) ∧ ((bif (!((career_Death L2_).getD ((0 : Int), false)).2) then wK K .normal (z18p0S (((career_Birth L1_).getD ((0 : Int), false)).1) (73048 : Int)) else wK K .normal (z18p0S (((career_Birth L1_).getD ((0 : Int), false)).1) (((career_Death L2_).getD ((0 : Int), false)).1)))))) := by subst hL1_ hL2_; kernel_rfl
theorem z18p1ok (l : (List GFact)) (K : KT) (h : W (career_Life_p1 l) (rE z18R K)) : EvL Try.prog 27 (List.drop 0 z18i0) K (z18p1S l) :=
  EvL.pD mixed (lookC_ok (l := [(36, .pure career_Birth_C), (37, .pure career_Death_C)]) ⟨career_Birth_ok, career_Death_ok, trivial⟩) [2, 3, 5] 0 5 5 (.of (z18p1nf l _ _ (RowIs.lst dGFact_eGFact (RowIs.ls eGFact zGFact l)) _ (RowIs.lst dGFact_eGFact (RowIs.ls eGFact zGFact l))) (⟨RowIs.ok dGFact_eGFact (RowIs.ls eGFact zGFact l), (W_bind ((0 : Int), false) h fun hp0 h => ⟨RowIs.ok dGFact_eGFact (RowIs.ls eGFact zGFact l), (W_bind ((0 : Int), false) h fun hp1 h => (W_bif h (fun _ h => ⟨_, .refl _, (z18p0ok (((career_Birth l).getD ((0 : Int), false)).1) (73048 : Int) _ h)⟩) (fun _ h => ⟨_, .refl _, (z18p0ok (((career_Birth l).getD ((0 : Int), false)).1) (((career_Death l).getD ((0 : Int), false)).1) _ h)⟩)))⟩)⟩))
noncomputable def career_Life (l : (List GFact)) : Option (GSpan) := career_Life_p1 l
theorem z18run (l : (List GFact)) (y_ : GSpan) (h : career_Life l = some y_) : EvL Try.prog 27 (items (bodyOf Try.f18)) (retK Try.prog [.cell 2 36] (OutOk (career_Life_out y_))) (z18p1S l) :=
  z18p1ok l _ (W_iff.2 ⟨y_, h, z18Rok y_⟩)
noncomputable def career_Life_C : Con
  | [(.c (.sl k1 n2 e3))] => some ([LstOk eGFact dGFact 14 k1 n2 e3, (career_Life (lst dGFact n2 e3)).isSome = true], (career_Life_out ((career_Life (lst dGFact n2 e3)).getD zGSpan)))
  | _ => none
theorem career_Life_ok : Meets Try.prog 18 career_Life_C := by
  refine meets_fun (fn := Try.f18) (c := bodyOf Try.f18) (by kernel_rfl) (by kernel_rfl) (by kernel_rfl) (rs := [.cell 2 36]) (by kernel_rfl) (nt := 27) (by kernel_rfl) fun vs p out h hp => ?_
  unfold career_Life_C at h
  split at h
  · next k1 n2 e3 =>
    cases h
    obtain ⟨g0, hp⟩ := allq hp
    obtain ⟨g, hp⟩ := allq hp
    obtain ⟨x, hx⟩ := Option.isSome_iff_exists.1 g
    rw [hx]
    exact ⟨[(.c (.sl 14 ((lst dGFact n2 e3)).length (lsEl eGFact zGFact (lst dGFact n2 e3))))], (VLes.cons (VLe.slk g0.1 (RowIs.of_ok g0)) VLes.nil), rfl, z18run (lst dGFact n2 e3) x hx⟩
  · cases h

noncomputable def z35i0 : List Code := items (bodyOf Try.f35)
def spans_Contains_1_out (x_1 : Bool) : Out := .data (bl x_1)
def z35R (x_1 : Bool) : St := { tm := [sv 3 (bl x_1)], hp := [], nx := 0 }
theorem z35Rok (x_1 : Bool) : retK Try.prog [.tmp 3] (OutOk (spans_Contains_1_out x_1)) .ret (z35R x_1) :=
  retK.intro (v := (bl x_1)) (by kernel_rfl) ((VLe.rfl' _))
def z35p0S (s_1 : GSpan) (t1 : Int) : St := { tm := [sv 0 (.ag (eGSpan s_1)), sv 1 (.dptr 1 [(di t1)] 0)], hp := [], nx := 0 }
noncomputable def spans_Contains_1_p0 (s_1 : GSpan) (t1 : Int) : Option (Bool) := (some (bif (decide (s_1.From ≤ t1)) then (decide (t1 < s_1.To)) else false))
theorem z35p0ok (s_1 : GSpan) (t1 : Int) (K : KT) (h : W (spans_Contains_1_p0 s_1 t1) (rE z35R K)) : EvL Try.prog 14 (List.drop 0 z35i0) K (z35p0S s_1 t1) :=
  EvL.pE mixed (lookC_ok (l := []) trivial) [3] 0 3 (.nf (X := fun K => wK K .ret (z35R (bif (decide (s_1.From ≤ t1)) then (decide (t1 < s_1.To)) else false))) (fun K => by kernel_rfl) (⟨_, .refl _, h⟩))
noncomputable def spans_Contains_1 (s_1 : GSpan) (t1 : Int) : Option (Bool) := spans_Contains_1_p0 s_1 t1
theorem z35run (s_1 : GSpan) (t1 : Int) (y_ : Bool) (h : spans_Contains_1 s_1 t1 = some y_) : EvL Try.prog 14 (items (bodyOf Try.f35)) (retK Try.prog [.tmp 3] (OutOk (spans_Contains_1_out y_))) (z35p0S s_1 t1) :=
  z35p0ok s_1 t1 _ (W_iff.2 ⟨y_, h, z35Rok y_⟩)
noncomputable def spans_Contains_1_C : Con
  | [(.agg [(.c (.lit (.int .i64 a1))), (.c (.lit (.int .i64 a2)))]), (.dptr 1 [(.lit (.int .i64 a3))] 0)] => some ([(spans_Contains_1 (GSpan.mk a1 a2) a3).isSome = true], (spans_Contains_1_out ((spans_Contains_1 (GSpan.mk a1 a2) a3).getD false)))
  | _ => none
theorem spans_Contains_1_ok : Meets Try.prog 35 spans_Contains_1_C := by
  refine meets_fun (fn := Try.f35) (c := bodyOf Try.f35) (by kernel_rfl) (by kernel_rfl) (by kernel_rfl) (rs := [.tmp 3]) (by kernel_rfl) (nt := 14) (by kernel_rfl) fun vs p out h hp => ?_
  unfold spans_Contains_1_C at h
  split at h
  · next a1 a2 a3 =>
    cases h
    obtain ⟨g, hp⟩ := allq hp
    obtain ⟨x, hx⟩ := Option.isSome_iff_exists.1 g
    rw [hx]
    exact ⟨[(.agg [(i64 (GSpan.mk a1 a2).From), (i64 (GSpan.mk a1 a2).To)]), (.dptr 1 [(di a3)] 0)], (VLes.cons (VLe.rfl' _) (VLes.cons (VLe.rfl' _) VLes.nil)), rfl, z35run (GSpan.mk a1 a2) a3 x hx⟩
  · cases h

noncomputable def z49i0 : List Code := items (bodyOf Try.f49)
noncomputable def z49i1 : List Code := items (inside (inside (nthI z49i0 2)))
def slices_IndexFunc_api_Span_api_Span_Contains_1_out (x_1 : Int) : Out := .data (i64 x_1)
def z49R (x_1 : Int) : St := { tm := [sv 4 (i64 x_1)], hp := [], nx := 0 }
theorem z49Rok (x_1 : Int) : retK Try.prog [.tmp 4] (OutOk (slices_IndexFunc_api_Span_api_Span_Contains_1_out x_1)) .ret (z49R x_1) :=
  retK.intro (v := (i64 x_1)) (by kernel_rfl) ((VLe.rfl' _))
def z49l1S (s_1 : (List GSpan)) (f : Int) (s : (Int)) : St := match s with | t8 => { tm := [sv 0 (.c (.sl 2 s_1.length (lsEl eGSpan zGSpan s_1))), sv 1 (.fn 35 [(.dptr 1 [(di f)] 0)]), sv 7 (i64 ((s_1.length : Nat) : Int)), sv 8 (i64 t8)], hp := [], nx := 0 }
def z49l1C0 (s_1 : (List GSpan)) (f : Int) (s : Int) : St := match s with | t4_1 => { tm := [sv 4 (i64 t4_1)], hp := [], nx := 0 }
def z49l1C1 (s_1 : (List GSpan)) (f : Int) (s : Unit) : St := match s with | () => { tm := [], hp := [], nx := 0 }
def z49l1E (s_1 : (List GSpan)) (f : Int) (r : ((Int) ⊕ (Unit))) (K : KT) : Prop := match r with | (.inl s) => K .ret (z49l1C0 s_1 f s) | (.inr s) => K (.exit 0) (z49l1C1 s_1 f s)
def z49p0S (s_1 : (List GSpan)) (f t8 : Int) : St := { tm := [sv 0 (.c (.sl 2 s_1.length (lsEl eGSpan zGSpan s_1))), sv 1 (.fn 35 [(.dptr 1 [(di f)] 0)]), sv 7 (i64 ((s_1.length : Nat) : Int)), sv 8 (i64 t8)], hp := [], nx := 0 }
noncomputable def slices_IndexFunc_api_Span_api_Span_Contains_1_p0 (s_1 : (List GSpan)) (f t8 : Int) : Option ((Int) ⊕ ((Int) ⊕ (Unit))) := (bif (decide (t8 < ((s_1.length : Nat) : Int))) then gd ((0 : Int) ≤ t8 ∧ t8 < ((s_1.length : Nat) : Int)) ((spans_Contains_1 (s_1.getD (Int.toNat t8) zGSpan) f).bind fun r_1 => ((bif r_1 then (some (Sum.inr (Sum.inl t8))) else (some (Sum.inl (w64 (t8 + (1 : Int)))))))) else (some (Sum.inr (Sum.inr ()))))
theorem z49p0ok (s_1 : (List GSpan)) (f t8 : Int) (K : KT) (h : W (slices_IndexFunc_api_Span_api_Span_Contains_1_p0 s_1 f t8) (nE (z49l1S s_1 f) (z49l1E s_1 f) K)) : EvL Try.prog 19 (List.drop 0 z49i1) K (z49p0S s_1 f t8) :=
  EvL.pE mixed (lookC_ok (l := [(35, .pure spans_Contains_1_C)]) ⟨spans_Contains_1_ok, trivial⟩) [0, 1, 4, 7, 8] 0 4 (.nf (X := fun K => (bif (decide (t8 < ((s_1.length : Nat) : Int))) then ((0 : Int) ≤ t8) ∧ (t8 < ((s_1.length : Nat) : Int)) ∧ ((spans_Contains_1 (s_1.getD (Int.toNat t8) zGSpan) f).isSome = true) ∧ ((bif ((spans_Contains_1 (s_1.getD (Int.toNat t8) zGSpan) f).getD false) then wK K .ret ({ tm := [sv 0 (.c (.sl 2 s_1.length (lsEl eGSpan zGSpan s_1))), sv 1 (.fn 35 [(.dptr 1 [(di f)] 0)]), sv 4 (i64 t8), sv 7 (i64 ((s_1.length : Nat) : Int)), sv 8 (i64 t8)], hp := [], nx := 0 }) else wK K .normal (z49l1S s_1 f (w64 (t8 + (1 : Int)))))) else wK K (.exit 0) ({ tm := [sv 0 (.c (.sl 2 s_1.length (lsEl eGSpan zGSpan s_1))), sv 1 (.fn 35 [(.dptr 1 [(di f)] 0)]), sv 7 (i64 ((s_1.length : Nat) : Int)), sv 8 (i64 t8)], hp := [], nx := 0 }))) (fun K => by kernel_rfl) (W_bif h (fun _ h => (W_gd2 h fun hp0 h => (W_bind false h fun hp1 h => (W_bif h (fun _ h => ⟨(z49l1C0 s_1 f t8), (.of (.q rfl .nil) .nil rfl), h⟩) (fun _ h => ⟨_, .refl _, h⟩))))) (fun _ h => ⟨(z49l1C1 s_1 f ()), (.of .nil .nil rfl), h⟩)))
noncomputable def slices_IndexFunc_api_Span_api_Span_Contains_1_l1 (s_1 : (List GSpan)) (f : Int) (s : (Int)) : Option ((Int) ⊕ ((Int) ⊕ (Unit))) := match s with | t8 => slices_IndexFunc_api_Span_api_Span_Contains_1_p0 s_1 f t8
theorem z49l1ok (s_1 : (List GSpan)) (f : Int) (s : (Int)) : Pp Try.prog 19 (List.drop 0 z49i1) (z49l1S s_1 f s) (slices_IndexFunc_api_Span_api_Span_Contains_1_l1 s_1 f s) (nextE (z49l1S s_1 f) (z49l1E s_1 f)) := fun K h => match s, h with | t8, h => (z49p0ok s_1 f t8 _ h)
theorem z49l1Ethen (s_1 : (List GSpan)) (f : Int) : ∀ (r : ((Int) ⊕ (Unit))) (J : St → Prop) (K : KT), z49l1E s_1 f r K → z49l1E s_1 f r (thenK J K)
  | (.inl s), _, _, h => h
  | (.inr s), _, _, h => h
def z49p1S : St := { tm := [], hp := [], nx := 0 }
noncomputable def slices_IndexFunc_api_Span_api_Span_Contains_1_p1 : Option (Int) := (some (-1 : Int))
theorem z49p1ok (K : KT) (h : W (slices_IndexFunc_api_Span_api_Span_Contains_1_p1) (rE z49R K)) : EvL Try.prog 19 (List.drop 3 z49i0) K (z49p1S) :=
  EvL.pE mixed (lookC_ok (l := []) trivial) [4] 3 2 (.nf (X := fun K => wK K .ret (z49R (-1 : Int))) (fun K => by kernel_rfl) (⟨_, .refl _, h⟩))
def z49p2S (s_1 : (List GSpan)) (f : Int) : St := { tm := [sv 0 (.c (.sl 2 s_1.length (lsEl eGSpan zGSpan s_1))), sv 1 (.fn 35 [(.dptr 1 [(di f)] 0)]), sv 7 (i64 ((s_1.length : Nat) : Int)), sv 8 (i64 (0 : Int))], hp := [], nx := 0 }
noncomputable def slices_IndexFunc_api_Span_api_Span_Contains_1_p2_g (s_1 : (List GSpan)) (f : Int) (r : ((Int) ⊕ (Unit))) : Option (Int) := match r with | (.inl t4_1) => (some t4_1) | (.inr ()) => slices_IndexFunc_api_Span_api_Span_Contains_1_p1
noncomputable def slices_IndexFunc_api_Span_api_Span_Contains_1_p2 (s_1 : (List GSpan)) (f : Int) : Option (Int) := (fixL (slices_IndexFunc_api_Span_api_Span_Contains_1_l1 s_1 f) (0 : Int)).bind (slices_IndexFunc_api_Span_api_Span_Contains_1_p2_g s_1 f)
theorem z49p2at : List.drop 2 z49i0 = .block 0 (.loop (inside (inside (nthI z49i0 2)))) :: List.drop 3 z49i0 := by kernel_rfl
theorem z49p2k (s_1 : (List GSpan)) (f : Int) (K : KT) : ∀ r : ((Int) ⊕ (Unit)), W (slices_IndexFunc_api_Span_api_Span_Contains_1_p2_g s_1 f r) (rE z49R K) → z49l1E s_1 f r (wK (blockK 0 (thenK (EvL Try.prog 19 (List.drop 3 z49i0) K) K)))
  | (.inl t4_1), h => ⟨(z49R t4_1), (.refl _), h⟩
  | (.inr ()), h => ⟨(z49p1S), (.refl _), (z49p1ok _ h)⟩
theorem z49p2ok (s_1 : (List GSpan)) (f : Int) (K : KT) (h : W (slices_IndexFunc_api_Span_api_Span_Contains_1_p2 s_1 f) (rE z49R K)) : EvL Try.prog 19 (List.drop 2 z49i0) K (z49p2S s_1 f) :=
  EvL.at_ z49p2at (EvL.cons_loop (EvOk.weak (EvOk.ent (.refl _) (EvOk.loopF (x := inside (inside (nthI z49i0 2))) (f := slices_IndexFunc_api_Span_api_Span_Contains_1_l1 s_1 f) (emb := z49l1S s_1 f) (E := z49l1E s_1 f) (z49l1ok s_1 f) (z49l1Ethen s_1 f) (W_loop h (z49p2k s_1 f K))))))
def z49p3S (s_1 : (List GSpan)) (f : Int) : St := { tm := [sv 0 (.c (.sl 2 s_1.length (lsEl eGSpan zGSpan s_1))), sv 1 (.fn 35 [(.dptr 1 [(di f)] 0)])], hp := [], nx := 0 }
noncomputable def slices_IndexFunc_api_Span_api_Span_Contains_1_p3 (s_1 : (List GSpan)) (f : Int) : Option (Int) := (slices_IndexFunc_api_Span_api_Span_Contains_1_p2 s_1 f)
theorem z49p3ok (s_1 : (List GSpan)) (f : Int) (K : KT) (h : W (slices_IndexFunc_api_Span_api_Span_Contains_1_p3 s_1 f) (rE z49R K)) : EvL Try.prog 19 (List.drop 0 z49i0) K (z49p3S s_1 f) :=
  EvL.pD mixed (lookC_ok (l := []) trivial) [0, 1, 7, 8] 0 2 2 (.nf (X := fun K => wK K .normal (z49p2S s_1 f)) (fun K => by kernel_rfl) (⟨_, .refl _, (z49p2ok s_1 f _ h)⟩))
noncomputable def slices_IndexFunc_api_Span_api_Span_Contains_1 (s_1 : (List GSpan)) (f : Int) : Option (Int) := slices_IndexFunc_api_Span_api_Span_Contains_1_p3 s_1 f
theorem z49run (s_1 : (List GSpan)) (f : Int) (y_ : Int) (h : slices_IndexFunc_api_Span_api_Span_Contains_1 s_1 f = some y_) : EvL Try.prog 19 (items (bodyOf Try.f49)) (retK Try.prog [.tmp 4] (OutOk (slices_IndexFunc_api_Span_api_Span_Contains_1_out y_))) (z49p3S s_1 f) :=
  z49p3ok s_1 f _ (W_iff.2 ⟨y_, h, z49Rok y_⟩)
noncomputable def slices_IndexFunc_api_Span_api_Span_Contains_1_C : Con
  | [(.c (.sl k1 n2 e3)), (.fn 35 [(.dptr 1 [(.lit (.int .i64 a4))] 0)])] => some ([LstOk eGSpan dGSpan 2 k1 n2 e3, (slices_IndexFunc_api_Span_api_Span_Contains_1 (lst dGSpan n2 e3) a4).isSome = true], (slices_IndexFunc_api_Span_api_Span_Contains_1_out ((slices_IndexFunc_api_Span_api_Span_Contains_1 (lst dGSpan n2 e3) a4).getD (0 : Int))))
  | _ => none
theorem slices_IndexFunc_api_Span_api_Span_Contains_1_ok : Meets Try.prog 49 slices_IndexFunc_api_Span_api_Span_Contains_1_C := by
  refine meets_fun (fn := Try.f49) (c := bodyOf Try.f49) (by kernel_rfl) (by kernel_rfl) (by kernel_rfl) (rs := [.tmp 4]) (by kernel_rfl) (nt := 19) (by kernel_rfl) fun vs p out h hp => ?_
  unfold slices_IndexFunc_api_Span_api_Span_Contains_1_C at h
  split at h
  · next k1 n2 e3 a4 =>
    cases h
    obtain ⟨g0, hp⟩ := allq hp
    obtain ⟨g, hp⟩ := allq hp
    obtain ⟨x, hx⟩ := Option.isSome_iff_exists.1 g
    rw [hx]
    exact ⟨[(.c (.sl 2 ((lst dGSpan n2 e3)).length (lsEl eGSpan zGSpan (lst dGSpan n2 e3)))), (.fn 35 [(.dptr 1 [(di a4)] 0)])], (VLes.cons (VLe.slk g0.1 (RowIs.of_ok g0)) (VLes.cons (VLe.rfl' _) VLes.nil)), rfl, z49run (lst dGSpan n2 e3) a4 x hx⟩
  · cases h

noncomputable def z34i0 : List Code := items (bodyOf Try.f34)
def slices_ContainsFunc_api_Span_api_Span_Contains_1_out (x_1 : Bool) : Out := .data (bl x_1)
def z34R (x_1 : Bool) : St := { tm := [sv 4 (bl x_1)], hp := [], nx := 0 }
theorem z34Rok (x_1 : Bool) : retK Try.prog [.tmp 4] (OutOk (slices_ContainsFunc_api_Span_api_Span_Contains_1_out x_1)) .ret (z34R x_1) :=
  retK.intro (v := (bl x_1)) (by kernel_rfl) ((VLe.rfl' _))
def z34p0S (s_1 : (List GSpan)) (f : Int) : St := { tm := [sv 0 (.c (.sl 2 s_1.length (lsEl eGSpan zGSpan s_1))), sv 1 (.fn 35 [(.dptr 1 [(di f)] 0)])], hp := [], nx := 0 }
noncomputable def slices_ContainsFunc_api_Span_api_Span_Contains_1_p0 (s_1 : (List GSpan)) (f : Int) : Option (Bool) := (slices_IndexFunc_api_Span_api_Span_Contains_1 s_1 f).bind fun r_1 => ((some (decide ((0 : Int) ≤ r_1))))
theorem z34p0nf (s_1 : (List GSpan)) (f : Int) (K : KT) (L1_ : List GSpan) (hL1_ : lst dGSpan s_1.length (lsEl eGSpan zGSpan s_1) = L1_) :
    ev Try.prog (lookC [(49, .pure slices_IndexFunc_api_Span_api_Span_Contains_1_C)]) 9 (ofItems ((List.drop 0 z34i0).take 3)) (cN [4] K) (z34p0S s_1 f) =
    ((LstOk eGSpan dGSpan 2 2 s_1.length (lsEl eGSpan zGSpan s_1)) ∧ ((slices_IndexFunc_api_Span_api_Span_Contains_1 L1_ f).isSome = true) ∧ (wK K .ret (z34R (decide ((0 : Int) ≤ ((slices_IndexFunc_api_Span_api_Span_Contains_1 L1_ f).getD (0 : Int))))))) := by subst hL1_; kernel_rfl
theorem z34p0ok (s_1 : (List GSpan)) (f : Int) (K : KT) (h : W (slices_ContainsFunc_api_Span_api_Span_Contains_1_p0 s_1 f) (rE z34R K)) : EvL Try.prog 9 (List.drop 0 z34i0) K (z34p0S s_1 f) :=
  EvL.pE mixed (lookC_ok (l := [(49, .pure slices_IndexFunc_api_Span_api_Span_Contains_1_C)]) ⟨slices_IndexFunc_api_Span_api_Span_Contains_1_ok, trivial⟩) [4] 0 3 (.of (z34p0nf s_1 f _ _ (RowIs.lst dGSpan_eGSpan (RowIs.ls eGSpan zGSpan s_1))) (⟨RowIs.ok dGSpan_eGSpan (RowIs.ls eGSpan zGSpan s_1), (W_bind (0 : Int) h fun hp0 h => ⟨_, .refl _, h⟩)⟩))
noncomputable def slices_ContainsFunc_api_Span_api_Span_Contains_1 (s_1 : (List GSpan)) (f : Int) : Option (Bool) := slices_ContainsFunc_api_Span_api_Span_Contains_1_p0 s_1 f
theorem z34run (s_1 : (List GSpan)) (f : Int) (y_ : Bool) (h : slices_ContainsFunc_api_Span_api_Span_Contains_1 s_1 f = some y_) : EvL Try.prog 9 (items (bodyOf Try.f34)) (retK Try.prog [.tmp 4] (OutOk (slices_ContainsFunc_api_Span_api_Span_Contains_1_out y_))) (z34p0S s_1 f) :=
  z34p0ok s_1 f _ (W_iff.2 ⟨y_, h, z34Rok y_⟩)
noncomputable def slices_ContainsFunc_api_Span_api_Span_Contains_1_C : Con
  | [(.c (.sl k1 n2 e3)), (.fn 35 [(.dptr 1 [(.lit (.int .i64 a4))] 0)])] => some ([LstOk eGSpan dGSpan 2 k1 n2 e3, (slices_ContainsFunc_api_Span_api_Span_Contains_1 (lst dGSpan n2 e3) a4).isSome = true], (slices_ContainsFunc_api_Span_api_Span_Contains_1_out ((slices_ContainsFunc_api_Span_api_Span_Contains_1 (lst dGSpan n2 e3) a4).getD false)))
  | _ => none
theorem slices_ContainsFunc_api_Span_api_Span_Contains_1_ok : Meets Try.prog 34 slices_ContainsFunc_api_Span_api_Span_Contains_1_C := by
  refine meets_fun (fn := Try.f34) (c := bodyOf Try.f34) (by kernel_rfl) (by kernel_rfl) (by kernel_rfl) (rs := [.tmp 4]) (by kernel_rfl) (nt := 9) (by kernel_rfl) fun vs p out h hp => ?_
  unfold slices_ContainsFunc_api_Span_api_Span_Contains_1_C at h
  split at h
  · next k1 n2 e3 a4 =>
    cases h
    obtain ⟨g0, hp⟩ := allq hp
    obtain ⟨g, hp⟩ := allq hp
    obtain ⟨x, hx⟩ := Option.isSome_iff_exists.1 g
    rw [hx]
    exact ⟨[(.c (.sl 2 ((lst dGSpan n2 e3)).length (lsEl eGSpan zGSpan (lst dGSpan n2 e3)))), (.fn 35 [(.dptr 1 [(di a4)] 0)])], (VLes.cons (VLe.slk g0.1 (RowIs.of_ok g0)) (VLes.cons (VLe.rfl' _) VLes.nil)), rfl, z34run (lst dGSpan n2 e3) a4 x hx⟩
  · cases h

noncomputable def z17i0 : List Code := items (bodyOf Try.f17)
def spans_Contains_out (x_1 : Bool) : Out := .data (bl x_1)
def z17R (x_1 : Bool) : St := { tm := [sv 4 (bl x_1)], hp := [], nx := 0 }
theorem z17Rok (x_1 : Bool) : retK Try.prog [.tmp 4] (OutOk (spans_Contains_out x_1)) .ret (z17R x_1) :=
  retK.intro (v := (bl x_1)) (by kernel_rfl) ((VLe.rfl' _))
def z17p0S (l : (List GSpan)) (day : Int) : St := { tm := [sv 0 (.c (.sl 2 l.length (lsEl eGSpan zGSpan l))), sv 1 (i64 day)], hp := [], nx := 0 }
noncomputable def spans_Contains_p0 (l : (List GSpan)) (day : Int) : Option (Bool) := (bif (bif (decide (day < (0 : Int))) then true else (decide ((73049 : Int) ≤ day))) then (some false) else (slices_ContainsFunc_api_Span_api_Span_Contains_1 l day).bind fun r_1 => ((some r_1)))
theorem z17p0nf (l : (List GSpan)) (day : Int) (K : KT) (L1_ : List GSpan) (hL1_ : lst dGSpan l.length (lsEl eGSpan zGSpan l) = L1_) :
    ev Try.prog (lookC [(34, .pure slices_ContainsFunc_api_Span_api_Span_Contains_1_C)]) 14 (ofItems ((List.drop 0 z17i0).take 5)) (cN [4] K) (z17p0S l day) =
    ((bif (bif (decide (day < (0 : Int))) then true else (decide ((73049 : Int) ≤ day))) then wK K .ret (z17R false) else (LstOk eGSpan dGSpan 2 2 l.length (lsEl eGSpan zGSpan l)) ∧ ((slices_ContainsFunc_api_Span_api_Span_Contains_1 L1_ day).isSome = true) ∧ (wK K .ret (z17R ((slices_ContainsFunc_api_Span_api_Span_Contains_1 L1_ day).getD false))))) := by subst hL1_; kernel_rfl
theorem z17p0ok (l : (List GSpan)) (day : Int) (K : KT) (h : W (spans_Contains_p0 l day) (rE z17R K)) : EvL Try.prog 14 (List.drop 0 z17i0) K (z17p0S l day) :=
  EvL.pE mixed (lookC_ok (l := [(34, .pure slices_ContainsFunc_api_Span_api_Span_Contains_1_C)]) ⟨slices_ContainsFunc_api_Span_api_Span_Contains_1_ok, trivial⟩) [4] 0 5 (.of (z17p0nf l day _ _ (RowIs.lst dGSpan_eGSpan (RowIs.ls eGSpan zGSpan l))) (W_bif h (fun _ h => ⟨_, .refl _, h⟩) (fun _ h => ⟨RowIs.ok dGSpan_eGSpan (RowIs.ls eGSpan zGSpan l), (W_bind false h fun hp0 h => ⟨_, .refl _, h⟩)⟩)))
noncomputable def spans_Contains (l : (List GSpan)) (day : Int) : Option (Bool) := spans_Contains_p0 l day
theorem z17run (l : (List GSpan)) (day : Int) (y_ : Bool) (h : spans_Contains l day = some y_) : EvL Try.prog 14 (items (bodyOf Try.f17)) (retK Try.prog [.tmp 4] (OutOk (spans_Contains_out y_))) (z17p0S l day) :=
  z17p0ok l day _ (W_iff.2 ⟨y_, h, z17Rok y_⟩)
noncomputable def spans_Contains_C : Con
  | [(.c (.sl k1 n2 e3)), (.c (.lit (.int .i64 a4)))] => some ([LstOk eGSpan dGSpan 2 k1 n2 e3, (spans_Contains (lst dGSpan n2 e3) a4).isSome = true], (spans_Contains_out ((spans_Contains (lst dGSpan n2 e3) a4).getD false)))
  | _ => none
theorem spans_Contains_ok : Meets Try.prog 17 spans_Contains_C := by
  refine meets_fun (fn := Try.f17) (c := bodyOf Try.f17) (by kernel_rfl) (by kernel_rfl) (by kernel_rfl) (rs := [.tmp 4]) (by kernel_rfl) (nt := 14) (by kernel_rfl) fun vs p out h hp => ?_
  unfold spans_Contains_C at h
  split at h
  · next k1 n2 e3 a4 =>
    cases h
    obtain ⟨g0, hp⟩ := allq hp
    obtain ⟨g, hp⟩ := allq hp
    obtain ⟨x, hx⟩ := Option.isSome_iff_exists.1 g
    rw [hx]
    exact ⟨[(.c (.sl 2 ((lst dGSpan n2 e3)).length (lsEl eGSpan zGSpan (lst dGSpan n2 e3)))), (i64 a4)], (VLes.cons (VLe.slk g0.1 (RowIs.of_ok g0)) (VLes.cons (VLe.rfl' _) VLes.nil)), rfl, z17run (lst dGSpan n2 e3) a4 x hx⟩
  · cases h

end Go.Ax
