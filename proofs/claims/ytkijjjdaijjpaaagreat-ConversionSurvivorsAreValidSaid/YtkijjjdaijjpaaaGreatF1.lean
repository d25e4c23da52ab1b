import Derived.Test.YtkijjjdaijjpaaaGreatA9
import Derived.Test.YtkijjjdaijjpaaaGreatLay
import Derived.Test.YtkijjjdaijjpaaaGreatA11
import Derived.Test.YtkijjjdaijjpaaaGreatRows
/- Types of the program, and functions of it: printed by a program, checked by the kernel. -/
set_option linter.all false
set_option maxRecDepth 100000
namespace Go.Ax
open Go.Proofs Go.Proofs.YtkijjjdaijjpaaaGreat
theorem mixed : Tryz.prog.follows .mixedOrders = true := by kernel_rfl
theorem dI64_eI64 (x : Int) : dI64 (eI64 x) = x := rfl
theorem scal_I64 (x : Int) (d : D) (h : d ∈ eI64 x) : d.scal = true := by
  simp only [eI64, List.mem_singleton] at h; subst h; rfl
theorem dU64_eU64 (x : Int) : dU64 (eU64 x) = x := rfl
theorem scal_U64 (x : Int) (d : D) (h : d ∈ eU64 x) : d.scal = true := by
  simp only [eU64, List.mem_singleton] at h; subst h; rfl
theorem dU8_eU8 (x : Int) : dU8 (eU8 x) = x := rfl
theorem scal_U8 (x : Int) (d : D) (h : d ∈ eU8 x) : d.scal = true := by
  simp only [eU8, List.mem_singleton] at h; subst h; rfl
theorem dI32_eI32 (x : Int) : dI32 (eI32 x) = x := rfl
theorem scal_I32 (x : Int) (d : D) (h : d ∈ eI32 x) : d.scal = true := by
  simp only [eI32, List.mem_singleton] at h; subst h; rfl
theorem dU32_eU32 (x : Int) : dU32 (eU32 x) = x := rfl
theorem scal_U32 (x : Int) (d : D) (h : d ∈ eU32 x) : d.scal = true := by
  simp only [eU32, List.mem_singleton] at h; subst h; rfl
theorem dU16_eU16 (x : Int) : dU16 (eU16 x) = x := rfl
theorem scal_U16 (x : Int) (d : D) (h : d ∈ eU16 x) : d.scal = true := by
  simp only [eU16, List.mem_singleton] at h; subst h; rfl
theorem dI8_eI8 (x : Int) : dI8 (eI8 x) = x := rfl
theorem scal_I8 (x : Int) (d : D) (h : d ∈ eI8 x) : d.scal = true := by
  simp only [eI8, List.mem_singleton] at h; subst h; rfl
theorem dI16_eI16 (x : Int) : dI16 (eI16 x) = x := rfl
theorem scal_I16 (x : Int) (d : D) (h : d ∈ eI16 x) : d.scal = true := by
  simp only [eI16, List.mem_singleton] at h; subst h; rfl
theorem dBool_eBool (x : Bool) : dBool (eBool x) = x := rfl
theorem scal_Bool (x : Bool) (d : D) (h : d ∈ eBool x) : d.scal = true := by
  simp only [eBool, List.mem_singleton] at h; subst h; rfl
theorem dStr_eStr (x : ByteArray) : dStr (eStr x) = x := rfl
theorem scal_Str (x : ByteArray) (d : D) (h : d ∈ eStr x) : d.scal = true := by
  simp only [eStr, List.mem_singleton] at h; subst h; rfl
structure GPensionhand_Fact where
  Issuer : Int
  Number : Int
  Version : Int
  Withdrawn : Bool
  Person : Int
  Kind : Int
  State : Int
  Seat : Int
  From : Int
  Length : Int
  Share : Int
  Amount : Int
  Ref : Int
def zGPensionhand_Fact : GPensionhand_Fact := ⟨(0 : Int), (0 : Int), (0 : Int), false, (0 : Int), (0 : Int), (0 : Int), (0 : Int), (0 : Int), (0 : Int), (0 : Int), (0 : Int), (0 : Int)⟩
def eGPensionhand_Fact (x : GPensionhand_Fact) : List D := [(di x.Issuer), (di x.Number), (di x.Version), (db x.Withdrawn), (di x.Person), (di x.Kind), (di x.State), (di x.Seat), (di x.From), (di x.Length), (di x.Share), (di x.Amount), (di x.Ref)]
def dGPensionhand_Fact : List D → GPensionhand_Fact
  | [.lit (.int .i64 a1), .lit (.int .i64 a2), .lit (.int .i64 a3), .lit (.bool a4), .lit (.int .i64 a5), .lit (.int .i64 a6), .lit (.int .i64 a7), .lit (.int .i64 a8), .lit (.int .i64 a9), .lit (.int .i64 a10), .lit (.int .i64 a11), .lit (.int .i64 a12), .lit (.int .i64 a13)] => (GPensionhand_Fact.mk a1 a2 a3 a4 a5 a6 a7 a8 a9 a10 a11 a12 a13)
  | _ => zGPensionhand_Fact
theorem dGPensionhand_Fact_eGPensionhand_Fact (x : GPensionhand_Fact) : dGPensionhand_Fact (eGPensionhand_Fact x) = x := rfl
theorem scal_GPensionhand_Fact (x : GPensionhand_Fact) (d : D) (h : d ∈ eGPensionhand_Fact x) : d.scal = true := by
  have : (eGPensionhand_Fact x).all D.scal = true := rfl
  exact List.all_eq_true.1 this d h
structure GSpan where
  From : Int
  To : Int
def zGSpan : GSpan := ⟨(0 : Int), (0 : Int)⟩
def GSpan.s_To (x : GSpan) (v : Int) : GSpan := ⟨x.From, v⟩
def eGSpan (x : GSpan) : List D := [(di x.From), (di x.To)]
def dGSpan : List D → GSpan
  | [.lit (.int .i64 a1), .lit (.int .i64 a2)] => (GSpan.mk a1 a2)
  | _ => zGSpan
theorem dGSpan_eGSpan (x : GSpan) : dGSpan (eGSpan x) = x := rfl
theorem scal_GSpan (x : GSpan) (d : D) (h : d ∈ eGSpan x) : d.scal = true := by
  have : (eGSpan x).all D.scal = true := rfl
  exact List.all_eq_true.1 this d h
structure GFact where
  Issuer : Int
  Number : Int
  Version : Int
  Withdrawn : Bool
  Person : Int
  Kind : Int
  State : Int
  Span : GSpan
  Seat : Int
  Share : Int
  Currency : Int
  Amount : Int
  Ref : Int
def zGFact : GFact := ⟨(0 : Int), (0 : Int), (0 : Int), false, (0 : Int), (0 : Int), (0 : Int), zGSpan, (0 : Int), (0 : Int), (0 : Int), (0 : Int), (0 : Int)⟩
def GFact.s_State (x : GFact) (v : Int) : GFact := ⟨x.Issuer, x.Number, x.Version, x.Withdrawn, x.Person, x.Kind, v, x.Span, x.Seat, x.Share, x.Currency, x.Amount, x.Ref⟩
def GFact.s_Span (x : GFact) (v : GSpan) : GFact := ⟨x.Issuer, x.Number, x.Version, x.Withdrawn, x.Person, x.Kind, x.State, v, x.Seat, x.Share, x.Currency, x.Amount, x.Ref⟩
def GFact.s_Seat (x : GFact) (v : Int) : GFact := ⟨x.Issuer, x.Number, x.Version, x.Withdrawn, x.Person, x.Kind, x.State, x.Span, v, x.Share, x.Currency, x.Amount, x.Ref⟩
def GFact.s_Share (x : GFact) (v : Int) : GFact := ⟨x.Issuer, x.Number, x.Version, x.Withdrawn, x.Person, x.Kind, x.State, x.Span, x.Seat, v, x.Currency, x.Amount, x.Ref⟩
def GFact.s_Currency (x : GFact) (v : Int) : GFact := ⟨x.Issuer, x.Number, x.Version, x.Withdrawn, x.Person, x.Kind, x.State, x.Span, x.Seat, x.Share, v, x.Amount, x.Ref⟩
def GFact.s_Amount (x : GFact) (v : Int) : GFact := ⟨x.Issuer, x.Number, x.Version, x.Withdrawn, x.Person, x.Kind, x.State, x.Span, x.Seat, x.Share, x.Currency, v, x.Ref⟩
def GFact.s_Ref (x : GFact) (v : Int) : GFact := ⟨x.Issuer, x.Number, x.Version, x.Withdrawn, x.Person, x.Kind, x.State, x.Span, x.Seat, x.Share, x.Currency, x.Amount, v⟩
def eGFact (x : GFact) : List D := [(di x.Issuer), (di x.Number), (di x.Version), (db x.Withdrawn), (di x.Person), (di x.Kind), (di x.State), (di x.Span.From), (di x.Span.To), (di x.Seat), (di x.Share), (di x.Currency), (di x.Amount), (di x.Ref)]
def dGFact : List D → GFact
  | [.lit (.int .i64 a1), .lit (.int .i64 a2), .lit (.int .i64 a3), .lit (.bool a4), .lit (.int .i64 a5), .lit (.int .i64 a6), .lit (.int .i64 a7), .lit (.int .i64 a8), .lit (.int .i64 a9), .lit (.int .i64 a10), .lit (.int .i64 a11), .lit (.int .i64 a12), .lit (.int .i64 a13), .lit (.int .i64 a14)] => (GFact.mk a1 a2 a3 a4 a5 a6 a7 (GSpan.mk a8 a9) a10 a11 a12 a13 a14)
  | _ => zGFact
theorem dGFact_eGFact (x : GFact) : dGFact (eGFact x) = x := rfl
theorem scal_GFact (x : GFact) (d : D) (h : d ∈ eGFact x) : d.scal = true := by
  have : (eGFact x).all D.scal = true := rfl
  exact List.all_eq_true.1 this d h
structure GHeir where
  Person : Int
  Kind : Int
  Days : Int
def zGHeir : GHeir := ⟨(0 : Int), (0 : Int), (0 : Int)⟩
def eGHeir (x : GHeir) : List D := [(di x.Person), (di x.Kind), (di x.Days)]
def dGHeir : List D → GHeir
  | [.lit (.int .i64 a1), .lit (.int .i64 a2), .lit (.int .i64 a3)] => (GHeir.mk a1 a2 a3)
  | _ => zGHeir
theorem dGHeir_eGHeir (x : GHeir) : dGHeir (eGHeir x) = x := rfl
theorem scal_GHeir (x : GHeir) (d : D) (h : d ∈ eGHeir x) : d.scal = true := by
  have : (eGHeir x).all D.scal = true := rfl
  exact List.all_eq_true.1 this d h
structure GRational_wide where
  hi : Int
  lo : Int
def zGRational_wide : GRational_wide := ⟨(0 : Int), (0 : Int)⟩
def eGRational_wide (x : GRational_wide) : List D := [(.lit (.int .u64 x.hi)), (.lit (.int .u64 x.lo))]
def dGRational_wide : List D → GRational_wide
  | [.lit (.int .u64 a1), .lit (.int .u64 a2)] => (GRational_wide.mk a1 a2)
  | _ => zGRational_wide
theorem dGRational_wide_eGRational_wide (x : GRational_wide) : dGRational_wide (eGRational_wide x) = x := rfl
theorem scal_GRational_wide (x : GRational_wide) (d : D) (h : d ∈ eGRational_wide x) : d.scal = true := by
  have : (eGRational_wide x).all D.scal = true := rfl
  exact List.all_eq_true.1 this d h
structure GFraction where
  Num : Int
  Den : Int
def zGFraction : GFraction := ⟨(0 : Int), (0 : Int)⟩
def eGFraction (x : GFraction) : List D := [(di x.Num), (di x.Den)]
def dGFraction : List D → GFraction
  | [.lit (.int .i64 a1), .lit (.int .i64 a2)] => (GFraction.mk a1 a2)
  | _ => zGFraction
theorem dGFraction_eGFraction (x : GFraction) : dGFraction (eGFraction x) = x := rfl
theorem scal_GFraction (x : GFraction) (d : D) (h : d ∈ eGFraction x) : d.scal = true := by
  have : (eGFraction x).all D.scal = true := rfl
  exact List.all_eq_true.1 this d h
structure GPart where
  Person : Int
  Amount : Int
def zGPart : GPart := ⟨(0 : Int), (0 : Int)⟩
def GPart.s_Amount (x : GPart) (v : Int) : GPart := ⟨x.Person, v⟩
def eGPart (x : GPart) : List D := [(di x.Person), (di x.Amount)]
def dGPart : List D → GPart
  | [.lit (.int .i64 a1), .lit (.int .i64 a2)] => (GPart.mk a1 a2)
  | _ => zGPart
theorem dGPart_eGPart (x : GPart) : dGPart (eGPart x) = x := rfl
theorem scal_GPart (x : GPart) (d : D) (h : d ∈ eGPart x) : d.scal = true := by
  have : (eGPart x).all D.scal = true := rfl
  exact List.all_eq_true.1 this d h
structure GConversion_remainder where
  at_ : Int
  num : Int
  den : Int
def zGConversion_remainder : GConversion_remainder := ⟨(0 : Int), (0 : Int), (0 : Int)⟩
def eGConversion_remainder (x : GConversion_remainder) : List D := [(di x.at_), (di x.num), (di x.den)]
def dGConversion_remainder : List D → GConversion_remainder
  | [.lit (.int .i64 a1), .lit (.int .i64 a2), .lit (.int .i64 a3)] => (GConversion_remainder.mk a1 a2 a3)
  | _ => zGConversion_remainder
theorem dGConversion_remainder_eGConversion_remainder (x : GConversion_remainder) : dGConversion_remainder (eGConversion_remainder x) = x := rfl
theorem scal_GConversion_remainder (x : GConversion_remainder) (d : D) (h : d ∈ eGConversion_remainder x) : d.scal = true := by
  have : (eGConversion_remainder x).all D.scal = true := rfl
  exact List.all_eq_true.1 this d h
structure GNet where
  State : Int
  Benefit : Int
  Currency : Int
  Independent : Int
  ProRata : Int
  Deducted : Int
  Amount : Int
def zGNet : GNet := ⟨(0 : Int), (0 : Int), (0 : Int), (0 : Int), (0 : Int), (0 : Int), (0 : Int)⟩
def GNet.s_Amount (x : GNet) (v : Int) : GNet := ⟨x.State, x.Benefit, x.Currency, x.Independent, x.ProRata, x.Deducted, v⟩
def eGNet (x : GNet) : List D := [(di x.State), (di x.Benefit), (di x.Currency), (di x.Independent), (di x.ProRata), (di x.Deducted), (di x.Amount)]
def dGNet : List D → GNet
  | [.lit (.int .i64 a1), .lit (.int .i64 a2), .lit (.int .i64 a3), .lit (.int .i64 a4), .lit (.int .i64 a5), .lit (.int .i64 a6), .lit (.int .i64 a7)] => (GNet.mk a1 a2 a3 a4 a5 a6 a7)
  | _ => zGNet
theorem dGNet_eGNet (x : GNet) : dGNet (eGNet x) = x := rfl
theorem scal_GNet (x : GNet) (d : D) (h : d ∈ eGNet x) : d.scal = true := by
  have : (eGNet x).all D.scal = true := rfl
  exact List.all_eq_true.1 this d h
abbrev lI64 (l : List Int) : Nat → List D := lsEl eI64 (0 : Int) l
abbrev sI64 (l : List Int) : V := .c (.sl 1 l.length (lsEl eI64 (0 : Int) l))
abbrev rI64 (o t : Nat) (l : List Int) : Nat × Option Ob := (o, some (.row t 1 l.length (lsEl eI64 (0 : Int) l)))
abbrev kI64 (l : List Int) : Prop := LstOk eI64 dI64 1 1 l.length (lsEl eI64 (0 : Int) l)
abbrev uI64 : AC (List Int) := aL eI64 dI64 (0 : Int) 1
abbrev lU8 (l : List Int) : Nat → List D := lsEl eU8 (0 : Int) l
abbrev sU8 (l : List Int) : V := .c (.sl 1 l.length (lsEl eU8 (0 : Int) l))
abbrev rU8 (o t : Nat) (l : List Int) : Nat × Option Ob := (o, some (.row t 1 l.length (lsEl eU8 (0 : Int) l)))
abbrev kU8 (l : List Int) : Prop := LstOk eU8 dU8 1 1 l.length (lsEl eU8 (0 : Int) l)
abbrev uU8 : AC (List Int) := aL eU8 dU8 (0 : Int) 1
abbrev lBool (l : List Bool) : Nat → List D := lsEl eBool false l
abbrev rBool (o t : Nat) (l : List Bool) : Nat × Option Ob := (o, some (.row t 1 l.length (lsEl eBool false l)))
abbrev lGPensionhand_Fact (l : List GPensionhand_Fact) : Nat → List D := lsEl eGPensionhand_Fact zGPensionhand_Fact l
abbrev sGPensionhand_Fact (l : List GPensionhand_Fact) : V := .c (.sl 13 l.length (lsEl eGPensionhand_Fact zGPensionhand_Fact l))
abbrev kGPensionhand_Fact (l : List GPensionhand_Fact) : Prop := LstOk eGPensionhand_Fact dGPensionhand_Fact 13 13 l.length (lsEl eGPensionhand_Fact zGPensionhand_Fact l)
abbrev uGPensionhand_Fact : AC (List GPensionhand_Fact) := aL eGPensionhand_Fact dGPensionhand_Fact zGPensionhand_Fact 13
def fGPensionhand_Fact : List D → Bool
  | [.lit (.int .i64 _), .lit (.int .i64 _), .lit (.int .i64 _), .lit (.bool _), .lit (.int .i64 _), .lit (.int .i64 _), .lit (.int .i64 _), .lit (.int .i64 _), .lit (.int .i64 _), .lit (.int .i64 _), .lit (.int .i64 _), .lit (.int .i64 _), .lit (.int .i64 _)] => true
  | _ => false
theorem feGPensionhand_Fact (ds : List D) (h : fGPensionhand_Fact ds = true) : eGPensionhand_Fact (dGPensionhand_Fact ds) = ds := by
  unfold fGPensionhand_Fact at h
  split at h
  · rfl
  · cases h
abbrev wGPensionhand_Fact : AC GPensionhand_Fact := aG fGPensionhand_Fact eGPensionhand_Fact dGPensionhand_Fact feGPensionhand_Fact
abbrev lGSpan (l : List GSpan) : Nat → List D := lsEl eGSpan zGSpan l
abbrev sGSpan (l : List GSpan) : V := .c (.sl 2 l.length (lsEl eGSpan zGSpan l))
abbrev rGSpan (o t : Nat) (l : List GSpan) : Nat × Option Ob := (o, some (.row t 2 l.length (lsEl eGSpan zGSpan l)))
abbrev kGSpan (l : List GSpan) : Prop := LstOk eGSpan dGSpan 2 2 l.length (lsEl eGSpan zGSpan l)
abbrev uGSpan : AC (List GSpan) := aL eGSpan dGSpan zGSpan 2
def fGSpan : List D → Bool
  | [.lit (.int .i64 _), .lit (.int .i64 _)] => true
  | _ => false
theorem feGSpan (ds : List D) (h : fGSpan ds = true) : eGSpan (dGSpan ds) = ds := by
  unfold fGSpan at h
  split at h
  · rfl
  · cases h
abbrev wGSpan : AC GSpan := aG fGSpan eGSpan dGSpan feGSpan
abbrev lGFact (l : List GFact) : Nat → List D := lsEl eGFact zGFact l
abbrev sGFact (l : List GFact) : V := .c (.sl 14 l.length (lsEl eGFact zGFact l))
abbrev rGFact (o t : Nat) (l : List GFact) : Nat × Option Ob := (o, some (.row t 14 l.length (lsEl eGFact zGFact l)))
abbrev kGFact (l : List GFact) : Prop := LstOk eGFact dGFact 14 14 l.length (lsEl eGFact zGFact l)
abbrev uGFact : AC (List GFact) := aL eGFact dGFact zGFact 14
def fGFact : List D → Bool
  | [.lit (.int .i64 _), .lit (.int .i64 _), .lit (.int .i64 _), .lit (.bool _), .lit (.int .i64 _), .lit (.int .i64 _), .lit (.int .i64 _), .lit (.int .i64 _), .lit (.int .i64 _), .lit (.int .i64 _), .lit (.int .i64 _), .lit (.int .i64 _), .lit (.int .i64 _), .lit (.int .i64 _)] => true
  | _ => false
theorem feGFact (ds : List D) (h : fGFact ds = true) : eGFact (dGFact ds) = ds := by
  unfold fGFact at h
  split at h
  · rfl
  · cases h
abbrev wGFact : AC GFact := aG fGFact eGFact dGFact feGFact
abbrev lGHeir (l : List GHeir) : Nat → List D := lsEl eGHeir zGHeir l
abbrev sGHeir (l : List GHeir) : V := .c (.sl 3 l.length (lsEl eGHeir zGHeir l))
abbrev rGHeir (o t : Nat) (l : List GHeir) : Nat × Option Ob := (o, some (.row t 3 l.length (lsEl eGHeir zGHeir l)))
abbrev kGHeir (l : List GHeir) : Prop := LstOk eGHeir dGHeir 3 3 l.length (lsEl eGHeir zGHeir l)
abbrev uGHeir : AC (List GHeir) := aL eGHeir dGHeir zGHeir 3
def fGRational_wide : List D → Bool
  | [.lit (.int .u64 _), .lit (.int .u64 _)] => true
  | _ => false
theorem feGRational_wide (ds : List D) (h : fGRational_wide ds = true) : eGRational_wide (dGRational_wide ds) = ds := by
  unfold fGRational_wide at h
  split at h
  · rfl
  · cases h
abbrev wGRational_wide : AC GRational_wide := aG fGRational_wide eGRational_wide dGRational_wide feGRational_wide
abbrev lGFraction (l : List GFraction) : Nat → List D := lsEl eGFraction zGFraction l
abbrev sGFraction (l : List GFraction) : V := .c (.sl 2 l.length (lsEl eGFraction zGFraction l))
abbrev rGFraction (o t : Nat) (l : List GFraction) : Nat × Option Ob := (o, some (.row t 2 l.length (lsEl eGFraction zGFraction l)))
abbrev lGPart (l : List GPart) : Nat → List D := lsEl eGPart zGPart l
abbrev sGPart (l : List GPart) : V := .c (.sl 2 l.length (lsEl eGPart zGPart l))
abbrev rGPart (o t : Nat) (l : List GPart) : Nat × Option Ob := (o, some (.row t 2 l.length (lsEl eGPart zGPart l)))
abbrev lGConversion_remainder (l : List GConversion_remainder) : Nat → List D := lsEl eGConversion_remainder zGConversion_remainder l
abbrev rGConversion_remainder (o t : Nat) (l : List GConversion_remainder) : Nat × Option Ob := (o, some (.row t 3 l.length (lsEl eGConversion_remainder zGConversion_remainder l)))
abbrev kGConversion_remainder (l : List GConversion_remainder) : Prop := LstOk eGConversion_remainder dGConversion_remainder 3 3 l.length (lsEl eGConversion_remainder zGConversion_remainder l)
abbrev lGNet (l : List GNet) : Nat → List D := lsEl eGNet zGNet l
abbrev sGNet (l : List GNet) : V := .c (.sl 7 l.length (lsEl eGNet zGNet l))
abbrev rGNet (o t : Nat) (l : List GNet) : Nat × Option Ob := (o, some (.row t 7 l.length (lsEl eGNet zGNet l)))
abbrev kGNet (l : List GNet) : Prop := LstOk eGNet dGNet 7 7 l.length (lsEl eGNet zGNet l)
abbrev uGNet : AC (List GNet) := aL eGNet dGNet zGNet 7
def fGNet : List D → Bool
  | [.lit (.int .i64 _), .lit (.int .i64 _), .lit (.int .i64 _), .lit (.int .i64 _), .lit (.int .i64 _), .lit (.int .i64 _), .lit (.int .i64 _)] => true
  | _ => false
theorem feGNet (ds : List D) (h : fGNet ds = true) : eGNet (dGNet ds) = ds := by
  unfold fGNet at h
  split at h
  · rfl
  · cases h
abbrev wGNet : AC GNet := aG fGNet eGNet dGNet feGNet
abbrev pGNet : AC GNet := aP 7 fGNet eGNet dGNet feGNet

noncomputable def z8i0 : List Code := items (bodyOf Tryz.f8)
def plain_Mod_out (x_1 : Int) : Out := .data (i64 x_1)
def z8R (x_1 : Int) : St := ⟨[sv 4 (i64 x_1)], [], 0⟩
def z8p0S (n m : Int) : St := ⟨[sv 0 (i64 n), sv 1 (i64 m)], [], 0⟩
noncomputable def plain_Mod_p0 (n m : Int) : Option (Int) := gd (m ≠ 0) ((bif (decide ((Int.tmod n m) < 0)) then (some (w64 ((Int.tmod n m) + m))) else (some (Int.tmod n m))))
theorem z8p0ok {n m : Int} {K : KT} (h : W (plain_Mod_p0 n m) (rE z8R K)) : EvL Tryz.prog 15 (List.drop 0 z8i0) K (z8p0S n m) :=
  EvL.qE mixed [] [4] 0 6 (.nx (fun K => (m ≠ 0) ∧ ((bif (decide ((Int.tmod n m) < 0)) then wK K .ret (z8R (w64 ((Int.tmod n m) + m))) else wK K .ret (z8R (Int.tmod n m))))) (W_gd h fun _ h => (W_bif h (fun _ h => (l0 h)) (fun _ h => (l0 h)))))
noncomputable def plain_Mod (n m : Int) : Option (Int) := plain_Mod_p0 n m
noncomputable def plain_Mod_C : Con := con2 (aI .i64) (aI .i64) plain_Mod (0 : Int) plain_Mod_out
theorem plain_Mod_ok : Meets Tryz.prog 8 plain_Mod_C := meets2 Tryz.f8 (bodyOf Tryz.f8) [.tmp 4] 15 fun u0 u1 y h => @z8p0ok u0 u1 _ (W_iff.2 ⟨y, h, (rtI (i64 y) (VLe.rfl' _))⟩)
noncomputable abbrev e8 : FE Tryz.prog := ⟨8, .pure plain_Mod_C, plain_Mod_ok⟩

noncomputable def z14i0 : List Code := items (bodyOf Tryz.f14)
def hand_Pick_out (x_1 : Int) : Out := .data (i64 x_1)
def z14R (x_1 : Int) : St := ⟨[sv 4 (i64 x_1)], [], 0⟩
def z14p0S (n : (List Int)) (i_1 : Int) : St := ⟨[sv 0 (sI64 n), sv 1 (i64 i_1)], [], 0⟩
noncomputable def hand_Pick_p0 (n : (List Int)) (i_1 : Int) : Option (Int) := (bif ((n.length : Int) == 0) then (some 0) else (plain_Mod i_1 (n.length : Int)).bind fun r_1 => (gd (0 ≤ r_1 ∧ r_1 < (n.length : Int)) ((some (n.getD (Int.toNat r_1) (0 : Int))))))
theorem z14p0ok {n : (List Int)} {i_1 : Int} {K : KT} (h : W (hand_Pick_p0 n i_1) (rE z14R K)) : EvL Tryz.prog 15 (List.drop 0 z14i0) K (z14p0S n i_1) :=
  EvL.qE mixed [e8] [4] 0 5 (.nx (fun K => let a1_ := plain_Mod i_1 (n.length : Int); (bif ((n.length : Int) == 0) then wK K .ret (z14R 0) else (a1_.isSome = true) ∧ (0 ≤ (a1_.getD 0)) ∧ ((a1_.getD 0) < (n.length : Int)) ∧ (wK K .ret (z14R (n.getD (Int.toNat (a1_.getD 0)) (0 : Int)))))) (W_bif h (fun _ h => (l0 h)) (fun _ h => (W_bind 0 h fun _ h => (W_gd2 h fun _ h => (l0 h))))))
noncomputable def hand_Pick (n : (List Int)) (i_1 : Int) : Option (Int) := hand_Pick_p0 n i_1
noncomputable def hand_Pick_C : Con := con2 uI64 (aI .i64) hand_Pick (0 : Int) hand_Pick_out
theorem hand_Pick_ok : Meets Tryz.prog 14 hand_Pick_C := meets2 Tryz.f14 (bodyOf Tryz.f14) [.tmp 4] 15 fun u0 u1 y h => @z14p0ok u0 u1 _ (W_iff.2 ⟨y, h, (rtI (i64 y) (VLe.rfl' _))⟩)
noncomputable abbrev e14 : FE Tryz.prog := ⟨14, .pure hand_Pick_C, hand_Pick_ok⟩

noncomputable def z6i0 : List Code := items (bodyOf Tryz.f6)
noncomputable def z6i1 : List Code := items (inside (inside (nthI z6i0 3)))
def hand_Lives_out (x_1 : (List GFact)) : Out := .own true 38 14 (x_1).length (lsEl eGFact zGFact x_1)
def z6R (x_1 : (List GFact)) : St := ⟨[sv 2 (.row 0 14 0 x_1.length)], [(rGFact 0 38 x_1)], 1⟩
def z6l1S (n : (List Int)) (s : ((List GFact) × Int)) : St := match s with | (out_2, p_1) => ⟨[sv 0 (sI64 n), sv 3 (.row 0 14 0 out_2.length), sv 4 (i64 p_1)], [(rGFact 0 38 out_2)], 1⟩
def z6l1C0 (n : (List Int)) (s : (List GFact)) : St := match s with | out_4 => ⟨[sv 0 (sI64 n), sv 3 (.row 0 14 0 out_4.length)], [(rGFact 0 38 out_4)], 1⟩
def z6l1E (n : (List Int)) (r : (((List GFact)))) (K : KT) : Prop := match r with | s => K (.exit 0) (z6l1C0 n s)
def z6p0S (n : (List Int)) (out_1 : (List GFact)) (p_3 : Int) : St := ⟨[sv 0 (sI64 n), sv 3 (.row 0 14 0 out_1.length), sv 4 (i64 p_3)], [(rGFact 0 38 out_1)], 1⟩
noncomputable def hand_Lives_p0 (n : (List Int)) (out_1 : (List GFact)) (p_3 : Int) : Option (((List GFact) × Int) ⊕ (((List GFact)))) := (some (Sum.inl (out_1, (w64 (p_3 + 1)))))
theorem z6p0ok {n : (List Int)} {out_1 : (List GFact)} {p_3 : Int} {K : KT} (h : W (hand_Lives_p0 n out_1 p_3) (nE (z6l1S n) (z6l1E n) K)) : EvL Tryz.prog 163 (List.drop 3 z6i1) K (z6p0S n out_1 p_3) :=
  EvL.qE mixed [] [0, 3, 4] 3 1 (.nx (fun K => wK K .normal (z6l1S n (out_1, (w64 (p_3 + 1))))) (l0 h))
def z6p1S (n : (List Int)) (out_3 : (List GFact)) (p_2 : Int) : St := ⟨[sv 0 (sI64 n), sv 3 (.row 0 14 0 out_3.length), sv 4 (i64 p_2)], [(rGFact 0 38 out_3)], 1⟩
noncomputable def hand_Lives_p1 (n : (List Int)) (out_3 : (List GFact)) (p_2 : Int) : Option (((List GFact) × Int) ⊕ (((List GFact)))) := (hand_Pick n p_2).bind fun r_1 => ((plain_Mod r_1 3).bind fun r_2 => ((hand_Pick n (w64 (p_2 + 2))).bind fun r_3 => ((plain_Mod r_3 3).bind fun r_4 => ((hand_Pick n (w64 (p_2 + 4))).bind fun r_5 => ((plain_Mod r_5 6000).bind fun r_6 => ((hand_Pick n (w64 (p_2 + 6))).bind fun r_7 => ((plain_Mod r_7 3000).bind fun r_8 => (gd (capB (out_3.length + 1) 112) (gd (capB ((out_3.length + 1) + 1) 112) ((hand_Pick n (w64 (p_2 + 8))).bind fun r_9 => ((plain_Mod r_9 900000).bind fun r_10 => (gd (capB (((out_3.length + 1) + 1) + 1) 112) ((hand_Pick n (w64 (p_2 + 10))).bind fun r_11 => ((plain_Mod r_11 3000).bind fun r_12 => ((hand_Pick n (w64 (p_2 + 12))).bind fun r_13 => ((plain_Mod r_13 900000).bind fun r_14 => (gd (capB ((((out_3.length + 1) + 1) + 1) + 1) 112) (gd (capB (((((out_3.length + 1) + 1) + 1) + 1) + 1) 112) (gd (capB ((((((out_3.length + 1) + 1) + 1) + 1) + 1) + 1) 112) ((hand_Lives_p0 n ((((((out_3 ++ ([(GFact.mk r_2 (w64 (900 + p_2)) 1 false p_2 11 0 (GSpan.mk (w64 (13000 + r_8)) (w64 ((w64 (13000 + r_8)) + 1))) 0 0 0 0 0)] : List GFact)) ++ ([(GFact.mk r_2 (w64 (910 + p_2)) 1 false p_2 5 r_2 (GSpan.mk 20000 60000) 0 0 0 0 0)] : List GFact)) ++ ([(GFact.mk r_2 (w64 (920 + p_2)) 1 false p_2 1 r_2 (GSpan.mk 22000 (w64 (27000 + r_6))) r_2 100 (w64 (1 + r_2)) (w64 (900000 + r_10)) 0)] : List GFact)) ++ ([(GFact.mk r_4 (w64 (930 + p_2)) 1 false p_2 1 r_4 (GSpan.mk (w64 (27000 + r_6)) (w64 (34400 + r_12))) r_4 50 (w64 (1 + r_4)) (w64 (700000 + r_14)) 0)] : List GFact)) ++ ([(GFact.mk r_2 (w64 (940 + p_2)) 1 false p_2 10 r_2 (GSpan.mk 32000 38500) 0 0 0 0 3)] : List GFact)) ++ ([(GFact.mk r_2 (w64 (950 + p_2)) 1 false p_2 14 0 (GSpan.mk 26000 50000) 0 0 0 0 (w64 (3 - p_2)))] : List GFact)) p_2)))))))))))))))))))))
theorem z6p1nf (n : (List Int)) (out_3 : (List GFact)) (p_2 : Int) (K : KT) {L1_ : List Int} (hL1_ : lst dI64 n.length (lI64 n) = L1_) {L2_ : List Int} (hL2_ : lst dI64 n.length (lI64 n) = L2_) {L3_ : List Int} (hL3_ : lst dI64 n.length (lI64 n) = L3_) {L4_ : List Int} (hL4_ : lst dI64 n.length (lI64 n) = L4_) {L5_ : List Int} (hL5_ : lst dI64 n.length (lI64 n) = L5_) {L6_ : List Int} (hL6_ : lst dI64 n.length (lI64 n) = L6_) {L7_ : List Int} (hL7_ : lst dI64 n.length (lI64 n) = L7_) :
    ev Tryz.prog (lookF [e8, e14]) 163 (ofItems ((List.drop 2 z6i1).take 1)) (cN [0, 3, 4] K) (z6p1S n out_3 p_2) =
    (let a7_ := out_3.length + 1; let a1_ := a7_ + 1; let a2_ := (plain_Mod ((hand_Pick L1_ p_2).getD 0) 3).getD 0; let a3_ := plain_Mod ((hand_Pick L2_ (w64 (p_2 + 2))).getD 0) 3; let a4_ := ((a1_ + 1) + 1) + 1; let a5_ := plain_Mod ((hand_Pick L3_ (w64 (p_2 + 4))).getD 0) 6000; let a6_ := plain_Mod ((hand_Pick L4_ (w64 (p_2 + 6))).getD 0) 3000; let a8_ := hand_Pick L6_ (w64 (p_2 + 10)); let a9_ := hand_Pick L7_ (w64 (p_2 + 12)); let a10_ := plain_Mod ((hand_Pick L5_ (w64 (p_2 + 8))).getD 0) 900000; let a11_ := plain_Mod (a9_.getD 0) 900000; (kI64 n) ∧ ((hand_Pick L1_ p_2).isSome = true) ∧ ((plain_Mod ((hand_Pick L1_ p_2).getD 0) 3).isSome = true) ∧ (kI64 n) ∧ ((hand_Pick L2_ (w64 (p_2 + 2))).isSome = true) ∧ (a3_.isSome = true) ∧ ((kI64 n) ∧ ((hand_Pick L3_ (w64 (p_2 + 4))).isSome = true) ∧ (a5_.isSome = true) ∧ ((kI64 n) ∧ ((hand_Pick L4_ (w64 (p_2 + 6))).isSome = true) ∧ (a6_.isSome = true) ∧ ((out_3.length = out_3.length) ∧ (a7_ * 112 ≤ 140737488355328) ∧ (a7_ ≤ 140737488355328) ∧ ((a7_ = a7_) ∧ (a1_ * 112 ≤ 140737488355328) ∧ (a1_ ≤ 140737488355328) ∧ ((kI64 n) ∧ ((hand_Pick L5_ (w64 (p_2 + 8))).isSome = true) ∧ (a10_.isSome = true) ∧ (a1_ = a1_) ∧ ((a1_ + 1) * 112 ≤ 140737488355328) ∧ ((a1_ + 1) ≤ 140737488355328) ∧ ((kI64 n) ∧ (a8_.isSome = true) ∧ ((plain_Mod (a8_.getD 0) 3000).isSome = true) ∧ (kI64 n) ∧ (a9_.isSome = true) ∧ (a11_.isSome = true) ∧ ((a1_ + 1) = (a1_ + 1)) ∧ (((a1_ + 1) + 1) * 112 ≤ 140737488355328) ∧ (((a1_ + 1) + 1) ≤ 140737488355328) ∧ ((((a1_ + 1) + 1) = ((a1_ + 1) + 1)) ∧ (a4_ * 112 ≤ 140737488355328) ∧ (a4_ ≤ 140737488355328) ∧ ((a4_ = a4_) ∧ ((a4_ + 1) * 112 ≤ 140737488355328) ∧ ((a4_ + 1) ≤ 140737488355328) ∧ (wK K .normal (⟨[sv 0 (sI64 n), sv 3 (.row 0 14 0 (a4_ + 1)), sv 4 (i64 p_2)], [(0, some (.row 38 14 (a4_ + 1) (fun i => bif Nat.blt i a4_ then (fun i => bif Nat.blt i ((a1_ + 1) + 1) then (fun i => bif Nat.blt i (a1_ + 1) then (fun i => bif Nat.blt i a1_ then (fun i => bif Nat.blt i a7_ then (fun i => bif Nat.blt i out_3.length then (lGFact out_3) i else (fun i => (litE 14 (eGFact (GFact.mk a2_ (w64 (900 + p_2)) 1 false p_2 11 0 (GSpan.mk (w64 (13000 + (a6_.getD 0))) (w64 ((w64 (13000 + (a6_.getD 0))) + 1))) 0 0 0 0 0))) (0 + i)) (i - out_3.length)) i else (fun i => (litE 14 (eGFact (GFact.mk a2_ (w64 (910 + p_2)) 1 false p_2 5 a2_ (GSpan.mk 20000 60000) 0 0 0 0 0))) (0 + i)) (i - a7_)) i else (fun i => (litE 14 (eGFact (GFact.mk a2_ (w64 (920 + p_2)) 1 false p_2 1 a2_ (GSpan.mk 22000 (w64 (27000 + (a5_.getD 0)))) a2_ 100 (w64 (1 + a2_)) (w64 (900000 + (a10_.getD 0))) 0))) (0 + i)) (i - a1_)) i else (fun i => (litE 14 (eGFact (GFact.mk (a3_.getD 0) (w64 (930 + p_2)) 1 false p_2 1 (a3_.getD 0) (GSpan.mk (w64 (27000 + (a5_.getD 0))) (w64 (34400 + ((plain_Mod (a8_.getD 0) 3000).getD 0)))) (a3_.getD 0) 50 (w64 (1 + (a3_.getD 0))) (w64 (700000 + (a11_.getD 0))) 0))) (0 + i)) (i - (a1_ + 1))) i else (fun i => (litE 14 (eGFact (GFact.mk a2_ (w64 (940 + p_2)) 1 false p_2 10 a2_ (GSpan.mk 32000 38500) 0 0 0 0 3))) (0 + i)) (i - ((a1_ + 1) + 1))) i else (fun i => (litE 14 (eGFact (GFact.mk a2_ (w64 (950 + p_2)) 1 false p_2 14 0 (GSpan.mk 26000 50000) 0 0 0 0 (w64 (3 - p_2))))) (0 + i)) (i - a4_))))], 1⟩))))))))))) := by subst hL1_ hL2_ hL3_ hL4_ hL5_ hL6_ hL7_; kernel_rfl
theorem z6p1ok {n : (List Int)} {out_3 : (List GFact)} {p_2 : Int} {K : KT} (h : W (hand_Lives_p1 n out_3 p_2) (nE (z6l1S n) (z6l1E n) K)) : EvL Tryz.prog 163 (List.drop 2 z6i1) K (z6p1S n out_3 p_2) :=
  EvL.qD mixed [e8, e14] [0, 3, 4] 2 1 3 (.of (z6p1nf n out_3 p_2 _ (lb dI64_eI64) (lb dI64_eI64) (lb dI64_eI64) (lb dI64_eI64) (lb dI64_eI64) (lb dI64_eI64) (lb dI64_eI64)) (⟨kb dI64_eI64, (W_bind 0 h fun _ h => (W_bind 0 h fun _ h => ⟨kb dI64_eI64, (W_bind 0 h fun _ h => (W_bind 0 h fun _ h => ⟨kb dI64_eI64, (W_bind 0 h fun _ h => (W_bind 0 h fun _ h => ⟨kb dI64_eI64, (W_bind 0 h fun _ h => (W_bind 0 h fun _ h => ⟨rfl, (W_gd2 h fun _ h => ⟨rfl, (W_gd2 h fun _ h => ⟨kb dI64_eI64, (W_bind 0 h fun _ h => (W_bind 0 h fun _ h => ⟨rfl, (W_gd2 h fun _ h => ⟨kb dI64_eI64, (W_bind 0 h fun _ h => (W_bind 0 h fun _ h => ⟨kb dI64_eI64, (W_bind 0 h fun _ h => (W_bind 0 h fun _ h => ⟨rfl, (W_gd2 h fun _ h => ⟨rfl, (W_gd2 h fun _ h => ⟨rfl, (W_gd2 h fun _ h => (lf (z6p0ok h) (.of (.q rfl (.cons rfl (.rown (len_app (len_app (len_app (len_app (len_app (len_app rfl rfl) rfl) rfl) rfl) rfl) rfl)) (.q rfl .nil))) (.row rfl (RowIs.app (RowIs.app (RowIs.app (RowIs.app (RowIs.app (RowIs.app .b (RowIs.zero (RowIs.l1 (enc := eGFact) (z := zGFact) 14 (GFact.mk ((plain_Mod ((hand_Pick n p_2).getD 0) 3).getD 0) (w64 (900 + p_2)) 1 false p_2 11 0 (GSpan.mk (w64 (13000 + ((plain_Mod ((hand_Pick n (w64 (p_2 + 6))).getD 0) 3000).getD 0))) (w64 ((w64 (13000 + ((plain_Mod ((hand_Pick n (w64 (p_2 + 6))).getD 0) 3000).getD 0))) + 1))) 0 0 0 0 0) rfl))) (RowIs.zero (RowIs.l1 (enc := eGFact) (z := zGFact) 14 (GFact.mk ((plain_Mod ((hand_Pick n p_2).getD 0) 3).getD 0) (w64 (910 + p_2)) 1 false p_2 5 ((plain_Mod ((hand_Pick n p_2).getD 0) 3).getD 0) (GSpan.mk 20000 60000) 0 0 0 0 0) rfl))) (RowIs.zero (RowIs.l1 (enc := eGFact) (z := zGFact) 14 (GFact.mk ((plain_Mod ((hand_Pick n p_2).getD 0) 3).getD 0) (w64 (920 + p_2)) 1 false p_2 1 ((plain_Mod ((hand_Pick n p_2).getD 0) 3).getD 0) (GSpan.mk 22000 (w64 (27000 + ((plain_Mod ((hand_Pick n (w64 (p_2 + 4))).getD 0) 6000).getD 0)))) ((plain_Mod ((hand_Pick n p_2).getD 0) 3).getD 0) 100 (w64 (1 + ((plain_Mod ((hand_Pick n p_2).getD 0) 3).getD 0))) (w64 (900000 + ((plain_Mod ((hand_Pick n (w64 (p_2 + 8))).getD 0) 900000).getD 0))) 0) rfl))) (RowIs.zero (RowIs.l1 (enc := eGFact) (z := zGFact) 14 (GFact.mk ((plain_Mod ((hand_Pick n (w64 (p_2 + 2))).getD 0) 3).getD 0) (w64 (930 + p_2)) 1 false p_2 1 ((plain_Mod ((hand_Pick n (w64 (p_2 + 2))).getD 0) 3).getD 0) (GSpan.mk (w64 (27000 + ((plain_Mod ((hand_Pick n (w64 (p_2 + 4))).getD 0) 6000).getD 0))) (w64 (34400 + ((plain_Mod ((hand_Pick n (w64 (p_2 + 10))).getD 0) 3000).getD 0)))) ((plain_Mod ((hand_Pick n (w64 (p_2 + 2))).getD 0) 3).getD 0) 50 (w64 (1 + ((plain_Mod ((hand_Pick n (w64 (p_2 + 2))).getD 0) 3).getD 0))) (w64 (700000 + ((plain_Mod ((hand_Pick n (w64 (p_2 + 12))).getD 0) 900000).getD 0))) 0) rfl))) (RowIs.zero (RowIs.l1 (enc := eGFact) (z := zGFact) 14 (GFact.mk ((plain_Mod ((hand_Pick n p_2).getD 0) 3).getD 0) (w64 (940 + p_2)) 1 false p_2 10 ((plain_Mod ((hand_Pick n p_2).getD 0) 3).getD 0) (GSpan.mk 32000 38500) 0 0 0 0 3) rfl))) (RowIs.zero (RowIs.l1 (enc := eGFact) (z := zGFact) 14 (GFact.mk ((plain_Mod ((hand_Pick n p_2).getD 0) 3).getD 0) (w64 (950 + p_2)) 1 false p_2 14 0 (GSpan.mk 26000 50000) 0 0 0 0 (w64 (3 - p_2))) rfl))) .nil rfl) rfl)))⟩)⟩)⟩))⟩))⟩)⟩))⟩)⟩)⟩))⟩))⟩))⟩))⟩))
def z6p2S (n : (List Int)) (out_2 : (List GFact)) (p_1 : Int) : St := ⟨[sv 0 (sI64 n), sv 3 (.row 0 14 0 out_2.length), sv 4 (i64 p_1)], [(rGFact 0 38 out_2)], 1⟩
noncomputable def hand_Lives_p2 (n : (List Int)) (out_2 : (List GFact)) (p_1 : Int) : Option (((List GFact) × Int) ⊕ (((List GFact)))) := (bif (decide (p_1 ≤ 2)) then (hand_Lives_p1 n out_2 p_1) else (some (Sum.inr out_2)))
theorem z6p2ok {n : (List Int)} {out_2 : (List GFact)} {p_1 : Int} {K : KT} (h : W (hand_Lives_p2 n out_2 p_1) (nE (z6l1S n) (z6l1E n) K)) : EvL Tryz.prog 163 (List.drop 0 z6i1) K (z6p2S n out_2 p_1) :=
  EvL.qD mixed [] [0, 3, 4] 0 2 2 (.nx (fun K => (bif (decide (p_1 ≤ 2)) then wK K .normal (z6p1S n out_2 p_1) else wK K (.exit 0) (⟨[sv 0 (sI64 n), sv 3 (.row 0 14 0 out_2.length), sv 4 (i64 p_1)], [(rGFact 0 38 out_2)], 1⟩))) (W_bif h (fun _ h => (l0 (z6p1ok h))) (fun _ h => (lf h (.cn [0, 3])))))
noncomputable def hand_Lives_l1 (n : (List Int)) (s : ((List GFact) × Int)) : Option (((List GFact) × Int) ⊕ (((List GFact)))) := match s with | (out_2, p_1) => hand_Lives_p2 n out_2 p_1
theorem z6l1ok (n : (List Int)) (s : ((List GFact) × Int)) : Pp Tryz.prog 163 (List.drop 0 z6i1) (z6l1S n s) (hand_Lives_l1 n s) (nextE (z6l1S n) (z6l1E n)) := fun K h => match s, h with | (out_2, p_1), h => (z6p2ok h)
theorem z6l1Ethen (n : (List Int)) : ∀ (r : (((List GFact)))) (J : St → Prop) (K : KT), z6l1E n r K → z6l1E n r (thenK J K)
  | s, _, _, h => h
def z6p3S (n : (List Int)) (out_4 : (List GFact)) : St := ⟨[sv 0 (sI64 n), sv 3 (.row 0 14 0 out_4.length)], [(rGFact 0 38 out_4)], 1⟩
noncomputable def hand_Lives_p3 (n : (List Int)) (out_4 : (List GFact)) : Option ((List GFact)) := (hand_Pick n 15).bind fun r_15 => ((plain_Mod r_15 2000).bind fun r_16 => ((hand_Pick n 16).bind fun r_17 => ((plain_Mod r_17 2000).bind fun r_18 => (gd (capB (out_4.length + 1) 112) ((hand_Pick n 17).bind fun r_19 => ((plain_Mod r_19 900).bind fun r_20 => ((hand_Pick n 17).bind fun r_21 => ((plain_Mod r_21 900).bind fun r_22 => (gd (capB ((out_4.length + 1) + 1) 112) ((hand_Pick n 18).bind fun r_23 => ((plain_Mod r_23 1200).bind fun r_24 => ((hand_Pick n 19).bind fun r_25 => ((plain_Mod r_25 300).bind fun r_26 => (gd (capB (((out_4.length + 1) + 1) + 1) 112) ((some (((out_4 ++ ([(GFact.mk 0 961 1 false 1 13 0 (GSpan.mk (w64 (34000 + r_16)) (w64 (36500 + r_18))) 0 0 0 0 0)] : List GFact)) ++ ([(GFact.mk 1 962 1 false 2 12 0 (GSpan.mk (w64 (35600 + r_20)) (w64 (35601 + r_22))) 0 0 0 0 0)] : List GFact)) ++ ([(GFact.mk 0 963 1 false 1 8 0 (GSpan.mk (w64 (35000 + r_24)) (w64 (36250 + r_26))) 0 0 0 0 0)] : List GFact))))))))))))))))))
theorem z6p3nf (n : (List Int)) (out_4 : (List GFact)) (K : KT) {L1_ : List Int} (hL1_ : lst dI64 n.length (lI64 n) = L1_) {L2_ : List Int} (hL2_ : lst dI64 n.length (lI64 n) = L2_) {L3_ : List Int} (hL3_ : lst dI64 n.length (lI64 n) = L3_) {L4_ : List Int} (hL4_ : lst dI64 n.length (lI64 n) = L4_) {L5_ : List Int} (hL5_ : lst dI64 n.length (lI64 n) = L5_) {L6_ : List Int} (hL6_ : lst dI64 n.length (lI64 n) = L6_) :
    ev Tryz.prog (lookF [e8, e14]) 163 (ofItems ((List.drop 4 z6i0).take 5)) (cN [2] K) (z6p3S n out_4) =
    (let a1_ := out_4.length + 1; let a2_ := plain_Mod ((hand_Pick L1_ 15).getD 0) 2000; let a3_ := plain_Mod ((hand_Pick L2_ 16).getD 0) 2000; let a4_ := plain_Mod ((hand_Pick L5_ 18).getD 0) 1200; let a5_ := plain_Mod ((hand_Pick L3_ 17).getD 0) 900; let a6_ := plain_Mod ((hand_Pick L4_ 17).getD 0) 900; let a7_ := plain_Mod ((hand_Pick L6_ 19).getD 0) 300; (kI64 n) ∧ ((hand_Pick L1_ 15).isSome = true) ∧ (a2_.isSome = true) ∧ (kI64 n) ∧ ((hand_Pick L2_ 16).isSome = true) ∧ (a3_.isSome = true) ∧ (out_4.length = out_4.length) ∧ (a1_ * 112 ≤ 140737488355328) ∧ (a1_ ≤ 140737488355328) ∧ ((kI64 n) ∧ ((hand_Pick L3_ 17).isSome = true) ∧ (a5_.isSome = true) ∧ (kI64 n) ∧ ((hand_Pick L4_ 17).isSome = true) ∧ (a6_.isSome = true) ∧ (a1_ = a1_) ∧ ((a1_ + 1) * 112 ≤ 140737488355328) ∧ ((a1_ + 1) ≤ 140737488355328) ∧ ((kI64 n) ∧ ((hand_Pick L5_ 18).isSome = true) ∧ (a4_.isSome = true) ∧ (kI64 n) ∧ ((hand_Pick L6_ 19).isSome = true) ∧ (a7_.isSome = true) ∧ ((a1_ + 1) = (a1_ + 1)) ∧ (((a1_ + 1) + 1) * 112 ≤ 140737488355328) ∧ (((a1_ + 1) + 1) ≤ 140737488355328) ∧ (wK K .ret (⟨[sv 2 (.row 0 14 0 ((a1_ + 1) + 1))], [(0, some (.row 38 14 ((a1_ + 1) + 1) (fun i => bif Nat.blt i (a1_ + 1) then (fun i => bif Nat.blt i a1_ then (fun i => bif Nat.blt i out_4.length then (lGFact out_4) i else (fun i => (litE 14 (eGFact (GFact.mk 0 961 1 false 1 13 0 (GSpan.mk (w64 (34000 + (a2_.getD 0))) (w64 (36500 + (a3_.getD 0)))) 0 0 0 0 0))) (0 + i)) (i - out_4.length)) i else (fun i => (litE 14 (eGFact (GFact.mk 1 962 1 false 2 12 0 (GSpan.mk (w64 (35600 + (a5_.getD 0))) (w64 (35601 + (a6_.getD 0)))) 0 0 0 0 0))) (0 + i)) (i - a1_)) i else (fun i => (litE 14 (eGFact (GFact.mk 0 963 1 false 1 8 0 (GSpan.mk (w64 (35000 + (a4_.getD 0))) (w64 (36250 + (a7_.getD 0)))) 0 0 0 0 0))) (0 + i)) (i - (a1_ + 1)))))], 1⟩))))) := by subst hL1_ hL2_ hL3_ hL4_ hL5_ hL6_; kernel_rfl
theorem z6p3ok {n : (List Int)} {out_4 : (List GFact)} {K : KT} (h : W (hand_Lives_p3 n out_4) (rE z6R K)) : EvL Tryz.prog 163 (List.drop 4 z6i0) K (z6p3S n out_4) :=
  EvL.qE mixed [e8, e14] [2] 4 5 (.of (z6p3nf n out_4 _ (lb dI64_eI64) (lb dI64_eI64) (lb dI64_eI64) (lb dI64_eI64) (lb dI64_eI64) (lb dI64_eI64)) (⟨kb dI64_eI64, (W_bind 0 h fun _ h => (W_bind 0 h fun _ h => ⟨kb dI64_eI64, (W_bind 0 h fun _ h => (W_bind 0 h fun _ h => ⟨rfl, (W_gd2 h fun _ h => ⟨kb dI64_eI64, (W_bind 0 h fun _ h => (W_bind 0 h fun _ h => ⟨kb dI64_eI64, (W_bind 0 h fun _ h => (W_bind 0 h fun _ h => ⟨rfl, (W_gd2 h fun _ h => ⟨kb dI64_eI64, (W_bind 0 h fun _ h => (W_bind 0 h fun _ h => ⟨kb dI64_eI64, (W_bind 0 h fun _ h => (W_bind 0 h fun _ h => ⟨rfl, (W_gd2 h fun _ h => (lf h (.of (.cons rfl (.rown (len_app (len_app (len_app rfl rfl) rfl) rfl)) .nil) (.row rfl (RowIs.app (RowIs.app (RowIs.app .b (RowIs.zero (RowIs.l1 (enc := eGFact) (z := zGFact) 14 (GFact.mk 0 961 1 false 1 13 0 (GSpan.mk (w64 (34000 + ((plain_Mod ((hand_Pick n 15).getD 0) 2000).getD 0))) (w64 (36500 + ((plain_Mod ((hand_Pick n 16).getD 0) 2000).getD 0)))) 0 0 0 0 0) rfl))) (RowIs.zero (RowIs.l1 (enc := eGFact) (z := zGFact) 14 (GFact.mk 1 962 1 false 2 12 0 (GSpan.mk (w64 (35600 + ((plain_Mod ((hand_Pick n 17).getD 0) 900).getD 0))) (w64 (35601 + ((plain_Mod ((hand_Pick n 17).getD 0) 900).getD 0)))) 0 0 0 0 0) rfl))) (RowIs.zero (RowIs.l1 (enc := eGFact) (z := zGFact) 14 (GFact.mk 0 963 1 false 1 8 0 (GSpan.mk (w64 (35000 + ((plain_Mod ((hand_Pick n 18).getD 0) 1200).getD 0))) (w64 (36250 + ((plain_Mod ((hand_Pick n 19).getD 0) 300).getD 0)))) 0 0 0 0 0) rfl))) .nil rfl) rfl)))⟩))⟩))⟩)⟩))⟩))⟩)⟩))⟩))⟩))
def z6p4S (n : (List Int)) : St := ⟨[sv 0 (sI64 n), sv 3 (.c .nil), sv 4 (i64 1)], [], 0⟩
noncomputable def hand_Lives_p4_g (n : (List Int)) (r : (((List GFact)))) : Option ((List GFact)) := match r with | out_4 => (hand_Lives_p3 n out_4)
noncomputable def hand_Lives_p4 (n : (List Int)) : Option ((List GFact)) := (fixL (hand_Lives_l1 n) (([] : List GFact), 1)).bind (hand_Lives_p4_g n)
theorem z6p4at : List.drop 3 z6i0 = .block 0 (.loop (inside (inside (nthI z6i0 3)))) :: List.drop 4 z6i0 := by kernel_rfl
theorem z6p4k (n : (List Int)) (K : KT) : ∀ r : (((List GFact))), W (hand_Lives_p4_g n r) (rE z6R K) → z6l1E n r (wK (blockK 0 (thenK (EvL Tryz.prog 163 (List.drop 4 z6i0) K) K)))
  | out_4, h => ⟨(z6p3S n out_4), (.refl _), (z6p3ok h)⟩
theorem z6p4ok {n : (List Int)} {K : KT} (h : W (hand_Lives_p4 n) (rE z6R K)) : EvL Tryz.prog 163 (List.drop 3 z6i0) K (z6p4S n) :=
  EvL.at_ z6p4at (EvL.cons_loop (EvOk.weak (EvOk.ent (.trans (.nilrow 3 0 38 14 (lsEl eGFact zGFact []) (Nat.le_of_ble_eq_true rfl) rfl) (.cn [0, 3, 4])) (EvOk.loopF (x := inside (inside (nthI z6i0 3))) (f := hand_Lives_l1 n) (emb := z6l1S n) (E := z6l1E n) (z6l1ok n) (z6l1Ethen n) (W_loop h (z6p4k n K))))))
def z6p5S (n : (List Int)) : St := ⟨[sv 0 (sI64 n)], [], 0⟩
noncomputable def hand_Lives_p5 (n : (List Int)) : Option ((List GFact)) := (hand_Lives_p4 n)
theorem z6p5ok {n : (List Int)} {K : KT} (h : W (hand_Lives_p5 n) (rE z6R K)) : EvL Tryz.prog 163 (List.drop 0 z6i0) K (z6p5S n) :=
  EvL.qD mixed [] [0, 3, 4] 0 3 3 (.nx (fun K => wK K .normal (z6p4S n)) (l0 (z6p4ok h)))
noncomputable def hand_Lives (n : (List Int)) : Option ((List GFact)) := hand_Lives_p5 n
noncomputable def hand_Lives_C : Con := con1 uI64 hand_Lives ([] : List GFact) hand_Lives_out
theorem hand_Lives_ok : Meets Tryz.prog 6 hand_Lives_C := meets1 Tryz.f6 (bodyOf Tryz.f6) [.tmp 2] 163 fun u0 y h => @z6p5ok u0 _ (W_iff.2 ⟨y, h, (rtI (.row 0 14 0 y.length) (⟨_, _, _, rfl, rfl, rfl, fun _ _ => rfl, fun _ i hi d hd => scal_GFact _ d hd⟩))⟩)
noncomputable abbrev e6 : FE Tryz.prog := ⟨6, .pure hand_Lives_C, hand_Lives_ok⟩

noncomputable def z38i0 : List Code := items (bodyOf Tryz.f38)
def hand_length_out (x_1 : Int) : Out := .data (i64 x_1)
def z38R (x_1 : Int) : St := ⟨[sv 2 (i64 x_1)], [], 0⟩
def z38p0S (n : Int) : St := ⟨[sv 0 (i64 n)], [], 0⟩
noncomputable def hand_length_p0 (n : Int) : Option (Int) := (plain_Mod n 4).bind fun r_1 => ((bif (r_1 == 0) then (plain_Mod (w64 (Int.tdiv n 4)) 9000).bind fun r_2 => ((some (w64 (1 + r_2)))) else (bif (r_1 == 1) then (plain_Mod (w64 (Int.tdiv n 4)) 1200).bind fun r_3 => ((some (w64 (1 + r_3)))) else (bif (r_1 == 2) then (plain_Mod (w64 (Int.tdiv n 4)) 120).bind fun r_4 => ((some (w64 (1 + r_4)))) else (plain_Mod (w64 (Int.tdiv n 4)) 12).bind fun r_5 => ((some (w64 (1 + r_5))))))))
theorem z38p0ok {n : Int} {K : KT} (h : W (hand_length_p0 n) (rE z38R K)) : EvL Tryz.prog 27 (List.drop 0 z38i0) K (z38p0S n) :=
  EvL.qE mixed [e8] [2] 0 5 (.nx (fun K => let a1_ := w64 (Int.tdiv n 4); let a2_ := (plain_Mod n 4).getD 0; ((plain_Mod n 4).isSome = true) ∧ ((bif (a2_ == 0) then ((4 : Int) ≠ 0) ∧ ((plain_Mod a1_ 9000).isSome = true) ∧ (wK K .ret (z38R (w64 (1 + ((plain_Mod a1_ 9000).getD 0))))) else (bif (a2_ == 1) then ((4 : Int) ≠ 0) ∧ ((plain_Mod a1_ 1200).isSome = true) ∧ (wK K .ret (z38R (w64 (1 + ((plain_Mod a1_ 1200).getD 0))))) else (bif (a2_ == 2) then ((4 : Int) ≠ 0) ∧ ((plain_Mod a1_ 120).isSome = true) ∧ (wK K .ret (z38R (w64 (1 + ((plain_Mod a1_ 120).getD 0))))) else ((4 : Int) ≠ 0) ∧ ((plain_Mod a1_ 12).isSome = true) ∧ (wK K .ret (z38R (w64 (1 + ((plain_Mod a1_ 12).getD 0)))))))))) (W_bind 0 h fun _ h => (W_bif h (fun _ h => ⟨(by decide), (W_bind 0 h fun _ h => (l0 h))⟩) (fun _ h => (W_bif h (fun _ h => ⟨(by decide), (W_bind 0 h fun _ h => (l0 h))⟩) (fun _ h => (W_bif h (fun _ h => ⟨(by decide), (W_bind 0 h fun _ h => (l0 h))⟩) (fun _ h => ⟨(by decide), (W_bind 0 h fun _ h => (l0 h))⟩))))))))
noncomputable def hand_length (n : Int) : Option (Int) := hand_length_p0 n
noncomputable def hand_length_C : Con := con1 (aI .i64) hand_length (0 : Int) hand_length_out
theorem hand_length_ok : Meets Tryz.prog 38 hand_length_C := meets1 Tryz.f38 (bodyOf Tryz.f38) [.tmp 2] 27 fun u0 y h => @z38p0ok u0 _ (W_iff.2 ⟨y, h, (rtI (i64 y) (VLe.rfl' _))⟩)
noncomputable abbrev e38 : FE Tryz.prog := ⟨38, .pure hand_length_C, hand_length_ok⟩

noncomputable def z39i0 : List Code := items (bodyOf Tryz.f39)
def ref12_Uses_out (x_1 : ByteArray) : Out := .data (str x_1)
def z39R (x_1 : ByteArray) : St := ⟨[sv 2 (str x_1)], [], 0⟩
def z39p0S (kind : Int) : St := ⟨[sv 0 (i64 kind)], [], 0⟩
noncomputable def ref12_Uses_p0 (kind : Int) : Option (ByteArray) := (bif (bif (decide (kind < 1)) then true else (decide (15 ≤ kind))) then (some (bstr [])) else gd (0 ≤ kind ∧ kind < ((15 : Nat) : Int)) ((some (([(bstr []), (bstr [83, 80, 84, 72, 67, 65]), (bstr [83, 80, 72, 67, 65]), (bstr [83, 80, 72, 67, 65]), (bstr [83, 80, 84]), (bstr [83, 80]), (bstr [83, 80, 67, 65]), (bstr [83, 80]), (bstr [83, 80]), (bstr [83, 80]), (bstr [83, 80, 82]), (bstr [80]), (bstr [80]), (bstr [80]), (bstr [80, 82])] : List ByteArray).getD (0 + (Int.toNat kind)) (bstr [])))))
theorem z39p0ok {kind : Int} {K : KT} (h : W (ref12_Uses_p0 kind) (rE z39R K)) : EvL Tryz.prog 17 (List.drop 0 z39i0) K (z39p0S kind) :=
  EvL.qE mixed [] [2] 0 6 (.nx (fun K => (bif (bif (decide (kind < 1)) then true else (decide (15 ≤ kind))) then wK K .ret (z39R (bstr [])) else (0 ≤ kind) ∧ (kind < ((15 : Nat) : Int)) ∧ (wK K .ret (z39R (([(bstr []), (bstr [83, 80, 84, 72, 67, 65]), (bstr [83, 80, 72, 67, 65]), (bstr [83, 80, 72, 67, 65]), (bstr [83, 80, 84]), (bstr [83, 80]), (bstr [83, 80, 67, 65]), (bstr [83, 80]), (bstr [83, 80]), (bstr [83, 80]), (bstr [83, 80, 82]), (bstr [80]), (bstr [80]), (bstr [80]), (bstr [80, 82])] : List ByteArray).getD (0 + (Int.toNat kind)) (bstr [])))))) (W_bif h (fun _ h => (l0 h)) (fun _ h => (W_gd2 h fun hx0 h => (l0 h)))))
noncomputable def ref12_Uses (kind : Int) : Option (ByteArray) := ref12_Uses_p0 kind
noncomputable def ref12_Uses_C : Con := con1 (aI .i64) ref12_Uses (bstr []) ref12_Uses_out
theorem ref12_Uses_ok : Meets Tryz.prog 39 ref12_Uses_C := meets1 Tryz.f39 (bodyOf Tryz.f39) [.tmp 2] 17 fun u0 y h => @z39p0ok u0 _ (W_iff.2 ⟨y, h, (rtI (str y) (VLe.rfl' _))⟩)
noncomputable abbrev e39 : FE Tryz.prog := ⟨39, .pure ref12_Uses_C, ref12_Uses_ok⟩

noncomputable def z15i0 : List Code := items (bodyOf Tryz.f15)
noncomputable def z15i1 : List Code := items (inside (inside (nthI z15i0 9)))
def hand_Make_out (x_1 : GFact) : Out := .data (.agg [(i64 x_1.Issuer), (i64 x_1.Number), (i64 x_1.Version), (bl x_1.Withdrawn), (i64 x_1.Person), (i64 x_1.Kind), (i64 x_1.State), (i64 x_1.Span.From), (i64 x_1.Span.To), (i64 x_1.Seat), (i64 x_1.Share), (i64 x_1.Currency), (i64 x_1.Amount), (i64 x_1.Ref)])
def z15R (x_1 : GFact) : St := ⟨[sv 2 (.ptr 0 14 0 0)], [(0, some (.box [(i64 x_1.Issuer), (i64 x_1.Number), (i64 x_1.Version), (bl x_1.Withdrawn), (i64 x_1.Person), (i64 x_1.Kind), (i64 x_1.State), (i64 x_1.Span.From), (i64 x_1.Span.To), (i64 x_1.Seat), (i64 x_1.Share), (i64 x_1.Currency), (i64 x_1.Amount), (i64 x_1.Ref)]))], 1⟩
def z15l1S (from_1 to_1 : Int) (u : ByteArray) (r_1 : GPensionhand_Fact) (f : GFact) (s : (Int × GFact)) : St := match s with | (i_1, f_2) => ⟨[sv 1 (.ptr 0 13 0 0), sv 2 (.ptr 1 14 0 0), sv 3 (.ptr 2 14 0 0), sv 4 (i64 from_1), sv 5 (i64 to_1), sv 6 (str u), sv 7 (i64 i_1)], [(0, some (.bx (eGPensionhand_Fact r_1))), (1, some (.bx (eGFact (GFact.mk 0 0 0 false 0 0 0 (GSpan.mk 0 0) 0 0 0 0 0)))), (2, some (.bx (eGFact f_2)))], 3⟩
def z15l1C0 (from_1 to_1 : Int) (u : ByteArray) (r_1 : GPensionhand_Fact) (f : GFact) (s : GFact) : St := match s with | f_4 => ⟨[sv 2 (.ptr 0 14 0 0), sv 3 (.ptr 1 14 0 0)], [(0, some (.bx (eGFact (GFact.mk 0 0 0 false 0 0 0 (GSpan.mk 0 0) 0 0 0 0 0)))), (1, some (.bx (eGFact f_4)))], 2⟩
def z15l1E (from_1 to_1 : Int) (u : ByteArray) (r_1 : GPensionhand_Fact) (f : GFact) (r : ((GFact))) (K : KT) : Prop := match r with | s => K (.exit 1) (z15l1C0 from_1 to_1 u r_1 f s)
def z15p0S (from_1 to_1 : Int) (u : ByteArray) (i_3 : Int) (r_1 : GPensionhand_Fact) (f_1 : GFact) : St := ⟨[sv 1 (.ptr 0 13 0 0), sv 2 (.ptr 1 14 0 0), sv 3 (.ptr 2 14 0 0), sv 4 (i64 from_1), sv 5 (i64 to_1), sv 6 (str u), sv 7 (i64 i_3)], [(0, some (.bx (eGPensionhand_Fact r_1))), (1, some (.bx (eGFact (GFact.mk 0 0 0 false 0 0 0 (GSpan.mk 0 0) 0 0 0 0 0)))), (2, some (.bx (eGFact f_1)))], 3⟩
noncomputable def hand_Make_p0 (from_1 to_1 : Int) (u : ByteArray) (i_3 : Int) (r_1 : GPensionhand_Fact) (f_1 : GFact) : Option ((Int × GFact) ⊕ ((GFact))) := (some (Sum.inl ((w64 (i_3 + 1)), f_1)))
theorem z15p0ok {from_1 to_1 : Int} {u : ByteArray} {i_3 : Int} {r_1 : GPensionhand_Fact} {f_1 f : GFact} {K : KT} (h : W (hand_Make_p0 from_1 to_1 u i_3 r_1 f_1) (nE (z15l1S from_1 to_1 u r_1 f) (z15l1E from_1 to_1 u r_1 f) K)) : EvL Tryz.prog 156 (List.drop 3 z15i1) K (z15p0S from_1 to_1 u i_3 r_1 f_1) :=
  EvL.qE mixed [] [1, 2, 3, 4, 5, 6, 7, 120, 121, 122, 123, 124] 3 1 (.nx (fun K => wK K .normal (z15l1S from_1 to_1 u r_1 f ((w64 (i_3 + 1)), f_1))) (l0 h))
def z15p1S (from_1 to_1 : Int) (u : ByteArray) (i_2 : Int) (r_1 : GPensionhand_Fact) (f_3 : GFact) : St := ⟨[sv 1 (.ptr 0 13 0 0), sv 2 (.ptr 1 14 0 0), sv 3 (.ptr 2 14 0 0), sv 4 (i64 from_1), sv 5 (i64 to_1), sv 6 (str u), sv 7 (i64 i_2)], [(0, some (.bx (eGPensionhand_Fact r_1))), (1, some (.bx (eGFact (GFact.mk 0 0 0 false 0 0 0 (GSpan.mk 0 0) 0 0 0 0 0)))), (2, some (.bx (eGFact f_3)))], 3⟩
noncomputable def hand_Make_p1 (from_1 to_1 : Int) (u : ByteArray) (i_2 : Int) (r_1 : GPensionhand_Fact) (f_3 : GFact) : Option ((Int × GFact) ⊕ ((GFact))) := gd (0 ≤ i_2 ∧ i_2 < (u.size : Int)) ((bif (((u.data.getD (Int.toNat i_2) 0).toNat : Int) == 83) then (plain_Mod r_1.State 3).bind fun r_11 => ((hand_Make_p0 from_1 to_1 u i_2 r_1 (GFact.mk f_3.Issuer f_3.Number f_3.Version f_3.Withdrawn f_3.Person f_3.Kind r_11 f_3.Span f_3.Seat f_3.Share f_3.Currency f_3.Amount f_3.Ref))) else (bif (((u.data.getD (Int.toNat i_2) 0).toNat : Int) == 80) then (hand_Make_p0 from_1 to_1 u i_2 r_1 (GFact.mk f_3.Issuer f_3.Number f_3.Version f_3.Withdrawn f_3.Person f_3.Kind f_3.State (GSpan.mk from_1 to_1) f_3.Seat f_3.Share f_3.Currency f_3.Amount f_3.Ref)) else (bif (((u.data.getD (Int.toNat i_2) 0).toNat : Int) == 84) then (plain_Mod r_1.Seat 3).bind fun r_12 => ((bif (bif (f_3.Kind == 4) then (r_12 == f_3.State) else false) then (plain_Mod (w64 (f_3.State + 1)) 3).bind fun r_13 => ((hand_Make_p0 from_1 to_1 u i_2 r_1 (GFact.mk f_3.Issuer f_3.Number f_3.Version f_3.Withdrawn f_3.Person f_3.Kind f_3.State f_3.Span r_13 f_3.Share f_3.Currency f_3.Amount f_3.Ref))) else (hand_Make_p0 from_1 to_1 u i_2 r_1 (GFact.mk f_3.Issuer f_3.Number f_3.Version f_3.Withdrawn f_3.Person f_3.Kind f_3.State f_3.Span r_12 f_3.Share f_3.Currency f_3.Amount f_3.Ref)))) else (bif (((u.data.getD (Int.toNat i_2) 0).toNat : Int) == 72) then (plain_Mod r_1.Share 100).bind fun r_14 => ((hand_Make_p0 from_1 to_1 u i_2 r_1 (GFact.mk f_3.Issuer f_3.Number f_3.Version f_3.Withdrawn f_3.Person f_3.Kind f_3.State f_3.Span f_3.Seat (w64 (1 + r_14)) f_3.Currency f_3.Amount f_3.Ref))) else (bif (((u.data.getD (Int.toNat i_2) 0).toNat : Int) == 67) then (plain_Mod (w64 (r_1.Seat + (Int.tmod r_1.State 3))) 3).bind fun r_15 => ((hand_Make_p0 from_1 to_1 u i_2 r_1 (GFact.mk f_3.Issuer f_3.Number f_3.Version f_3.Withdrawn f_3.Person f_3.Kind f_3.State f_3.Span f_3.Seat f_3.Share (w64 (1 + r_15)) f_3.Amount f_3.Ref))) else (bif (((u.data.getD (Int.toNat i_2) 0).toNat : Int) == 65) then (plain_Mod r_1.Amount 3000000).bind fun r_16 => ((hand_Make_p0 from_1 to_1 u i_2 r_1 (GFact.mk f_3.Issuer f_3.Number f_3.Version f_3.Withdrawn f_3.Person f_3.Kind f_3.State f_3.Span f_3.Seat f_3.Share f_3.Currency r_16 f_3.Ref))) else (plain_Mod r_1.Ref 4).bind fun r_17 => ((bif ((w64 (1 + r_17)) == f_3.Person) then (plain_Mod f_3.Person 4).bind fun r_18 => ((hand_Make_p0 from_1 to_1 u i_2 r_1 (GFact.mk f_3.Issuer f_3.Number f_3.Version f_3.Withdrawn f_3.Person f_3.Kind f_3.State f_3.Span f_3.Seat f_3.Share f_3.Currency f_3.Amount (w64 (1 + r_18))))) else (hand_Make_p0 from_1 to_1 u i_2 r_1 (GFact.mk f_3.Issuer f_3.Number f_3.Version f_3.Withdrawn f_3.Person f_3.Kind f_3.State f_3.Span f_3.Seat f_3.Share f_3.Currency f_3.Amount (w64 (1 + r_17)))))))))))))
theorem z15p1ok {from_1 to_1 : Int} {u : ByteArray} {i_2 : Int} {r_1 : GPensionhand_Fact} {f_3 f : GFact} {K : KT} (h : W (hand_Make_p1 from_1 to_1 u i_2 r_1 f_3) (nE (z15l1S from_1 to_1 u r_1 f) (z15l1E from_1 to_1 u r_1 f) K)) : EvL Tryz.prog 156 (List.drop 2 z15i1) K (z15p1S from_1 to_1 u i_2 r_1 f_3) :=
  EvL.qD mixed [e8] [1, 2, 3, 4, 5, 6, 7, 120, 121, 122, 123, 124] 2 1 3 (.nx (fun K => let a1_ := ((u.data.getD (Int.toNat i_2) 0).toNat : Int); let a2_ := eGFact (GFact.mk 0 0 0 false 0 0 0 (GSpan.mk 0 0) 0 0 0 0 0); let a3_ := plain_Mod (w64 (r_1.Seat + (Int.tmod r_1.State 3))) 3; let a4_ := w64 (1 + ((plain_Mod r_1.Ref 4).getD 0)); let a5_ := plain_Mod r_1.Seat 3; let a6_ := plain_Mod (w64 (f_3.State + 1)) 3; let a7_ := plain_Mod r_1.Amount 3000000; (0 ≤ i_2) ∧ (i_2 < (u.size : Int)) ∧ ((bif (a1_ == 83) then ((plain_Mod r_1.State 3).isSome = true) ∧ (wK K .normal (z15p0S from_1 to_1 u i_2 r_1 (GFact.s_State f_3 ((plain_Mod r_1.State 3).getD 0)))) else (bif (a1_ == 80) then wK K .normal (z15p0S from_1 to_1 u i_2 r_1 (GFact.s_Span f_3 (GSpan.mk from_1 to_1))) else (bif (a1_ == 84) then (a5_.isSome = true) ∧ ((bif (bif (f_3.Kind == 4) then ((a5_.getD 0) == f_3.State) else false) then (a6_.isSome = true) ∧ (wK K .normal (⟨[sv 1 (.ptr 0 13 0 0), sv 2 (.ptr 1 14 0 0), sv 3 (.ptr 2 14 0 0), sv 4 (i64 from_1), sv 5 (i64 to_1), sv 6 (str u), sv 7 (i64 i_2), un 120, un 121, un 122, un 123, un 124], [(0, some (.bx (eGPensionhand_Fact r_1))), (1, some (.bx a2_)), (2, some (.bx (eGFact (GFact.s_Seat f_3 (a6_.getD 0)))))], 3⟩)) else wK K .normal (⟨[sv 1 (.ptr 0 13 0 0), sv 2 (.ptr 1 14 0 0), sv 3 (.ptr 2 14 0 0), sv 4 (i64 from_1), sv 5 (i64 to_1), sv 6 (str u), sv 7 (i64 i_2), un 120, un 121, un 122, un 123, un 124], [(0, some (.bx (eGPensionhand_Fact r_1))), (1, some (.bx a2_)), (2, some (.bx (eGFact (GFact.s_Seat f_3 (a5_.getD 0)))))], 3⟩))) else (bif (a1_ == 72) then ((plain_Mod r_1.Share 100).isSome = true) ∧ (wK K .normal (z15p0S from_1 to_1 u i_2 r_1 (GFact.s_Share f_3 (w64 (1 + ((plain_Mod r_1.Share 100).getD 0)))))) else (bif (a1_ == 67) then ((3 : Int) ≠ 0) ∧ (a3_.isSome = true) ∧ (wK K .normal (z15p0S from_1 to_1 u i_2 r_1 (GFact.s_Currency f_3 (w64 (1 + (a3_.getD 0)))))) else (bif (a1_ == 65) then (a7_.isSome = true) ∧ (wK K .normal (z15p0S from_1 to_1 u i_2 r_1 (GFact.s_Amount f_3 (a7_.getD 0)))) else ((plain_Mod r_1.Ref 4).isSome = true) ∧ ((bif (a4_ == f_3.Person) then ((plain_Mod f_3.Person 4).isSome = true) ∧ (wK K .normal (z15p0S from_1 to_1 u i_2 r_1 (GFact.s_Ref f_3 (w64 (1 + ((plain_Mod f_3.Person 4).getD 0)))))) else wK K .normal (z15p0S from_1 to_1 u i_2 r_1 (GFact.s_Ref f_3 a4_)))))))))))) (W_gd2 h fun _ h => (W_bif h (fun _ h => (W_bind 0 h fun _ h => (l0 (z15p0ok h)))) (fun _ h => (W_bif h (fun _ h => (l0 (z15p0ok h))) (fun _ h => (W_bif h (fun _ h => (W_bind 0 h fun _ h => (W_bif h (fun _ h => (W_bind 0 h fun _ h => (lf (z15p0ok h) (.cn [1, 2, 3, 4, 5, 6, 7])))) (fun _ h => (lf (z15p0ok h) (.cn [1, 2, 3, 4, 5, 6, 7])))))) (fun _ h => (W_bif h (fun _ h => (W_bind 0 h fun _ h => (l0 (z15p0ok h)))) (fun _ h => (W_bif h (fun _ h => ⟨(by decide), (W_bind 0 h fun _ h => (l0 (z15p0ok h)))⟩) (fun _ h => (W_bif h (fun _ h => (W_bind 0 h fun _ h => (l0 (z15p0ok h)))) (fun _ h => (W_bind 0 h fun _ h => (W_bif h (fun _ h => (W_bind 0 h fun _ h => (l0 (z15p0ok h)))) (fun _ h => (l0 (z15p0ok h)))))))))))))))))))
def z15p2S (from_1 to_1 : Int) (u : ByteArray) (i_1 : Int) (r_1 : GPensionhand_Fact) (f_2 : GFact) : St := ⟨[sv 1 (.ptr 0 13 0 0), sv 2 (.ptr 1 14 0 0), sv 3 (.ptr 2 14 0 0), sv 4 (i64 from_1), sv 5 (i64 to_1), sv 6 (str u), sv 7 (i64 i_1)], [(0, some (.bx (eGPensionhand_Fact r_1))), (1, some (.bx (eGFact (GFact.mk 0 0 0 false 0 0 0 (GSpan.mk 0 0) 0 0 0 0 0)))), (2, some (.bx (eGFact f_2)))], 3⟩
noncomputable def hand_Make_p2 (from_1 to_1 : Int) (u : ByteArray) (i_1 : Int) (r_1 : GPensionhand_Fact) (f_2 : GFact) : Option ((Int × GFact) ⊕ ((GFact))) := (bif (decide (i_1 < (u.size : Int))) then (hand_Make_p1 from_1 to_1 u i_1 r_1 f_2) else (some (Sum.inr f_2)))
theorem z15p2ok {from_1 to_1 : Int} {u : ByteArray} {i_1 : Int} {r_1 : GPensionhand_Fact} {f_2 f : GFact} {K : KT} (h : W (hand_Make_p2 from_1 to_1 u i_1 r_1 f_2) (nE (z15l1S from_1 to_1 u r_1 f) (z15l1E from_1 to_1 u r_1 f) K)) : EvL Tryz.prog 156 (List.drop 0 z15i1) K (z15p2S from_1 to_1 u i_1 r_1 f_2) :=
  EvL.qD mixed [] [1, 2, 3, 4, 5, 6, 7, 120, 121, 122, 123, 124] 0 2 2 (.nx (fun K => (bif (decide (i_1 < (u.size : Int))) then wK K .normal (z15p1S from_1 to_1 u i_1 r_1 f_2) else wK K (.exit 1) (⟨[sv 1 (.ptr 0 13 0 0), sv 2 (.ptr 1 14 0 0), sv 3 (.ptr 2 14 0 0), sv 4 (i64 from_1), sv 5 (i64 to_1), sv 6 (str u), sv 7 (i64 i_1)], [(0, some (.bx (eGPensionhand_Fact r_1))), (1, some (.bx (eGFact (GFact.mk 0 0 0 false 0 0 0 (GSpan.mk 0 0) 0 0 0 0 0)))), (2, some (.bx (eGFact f_2)))], 3⟩))) (W_bif h (fun _ h => (l0 (z15p1ok h))) (fun _ h => (lf h (.cn [2, 3])))))
noncomputable def hand_Make_l1 (from_1 to_1 : Int) (u : ByteArray) (r_1 : GPensionhand_Fact) (f : GFact) (s : (Int × GFact)) : Option ((Int × GFact) ⊕ ((GFact))) := match s with | (i_1, f_2) => hand_Make_p2 from_1 to_1 u i_1 r_1 f_2
theorem z15l1ok (from_1 to_1 : Int) (u : ByteArray) (r_1 : GPensionhand_Fact) (f : GFact) (s : (Int × GFact)) : Pp Tryz.prog 156 (List.drop 0 z15i1) (z15l1S from_1 to_1 u r_1 f s) (hand_Make_l1 from_1 to_1 u r_1 f s) (nextE (z15l1S from_1 to_1 u r_1 f) (z15l1E from_1 to_1 u r_1 f)) := fun K h => match s, h with | (i_1, f_2), h => (z15p2ok h)
theorem z15l1Ethen (from_1 to_1 : Int) (u : ByteArray) (r_1 : GPensionhand_Fact) (f : GFact) : ∀ (r : ((GFact))) (J : St → Prop) (K : KT), z15l1E from_1 to_1 u r_1 f r K → z15l1E from_1 to_1 u r_1 f r (thenK J K)
  | s, _, _, h => h
def z15p3S (f_5 : GFact) : St := ⟨[sv 2 (.ptr 0 14 0 0), sv 3 (.ptr 1 14 0 0)], [(0, some (.bx (eGFact (GFact.mk 0 0 0 false 0 0 0 (GSpan.mk 0 0) 0 0 0 0 0)))), (1, some (.bx (eGFact f_5)))], 2⟩
noncomputable def hand_Make_p3 (f_5 : GFact) : Option (GFact) := (some f_5)
theorem z15p3ok {f_5 : GFact} {K : KT} (h : W (hand_Make_p3 f_5) (rE z15R K)) : EvL Tryz.prog 156 (List.drop 10 z15i0) K (z15p3S f_5) :=
  EvL.qE mixed [] [2] 10 2 (.nx (fun K => wK K .ret (z15R f_5)) (l0 h))
def z15p4S (from_1 to_1 : Int) (u : ByteArray) (r_1 : GPensionhand_Fact) (f : GFact) : St := ⟨[sv 1 (.ptr 0 13 0 0), sv 2 (.ptr 1 14 0 0), sv 3 (.ptr 2 14 0 0), sv 4 (i64 from_1), sv 5 (i64 to_1), sv 6 (str u), sv 7 (i64 0)], [(0, some (.bx (eGPensionhand_Fact r_1))), (1, some (.bx (eGFact (GFact.mk 0 0 0 false 0 0 0 (GSpan.mk 0 0) 0 0 0 0 0)))), (2, some (.bx (eGFact f)))], 3⟩
noncomputable def hand_Make_p4_g (from_1 to_1 : Int) (u : ByteArray) (r_1 : GPensionhand_Fact) (f : GFact) (r : ((GFact))) : Option (GFact) := match r with | f_4 => (hand_Make_p3 f_4)
noncomputable def hand_Make_p4 (from_1 to_1 : Int) (u : ByteArray) (r_1 : GPensionhand_Fact) (f : GFact) : Option (GFact) := (fixL (hand_Make_l1 from_1 to_1 u r_1 f) (0, f)).bind (hand_Make_p4_g from_1 to_1 u r_1 f)
theorem z15p4at : List.drop 9 z15i0 = .block 1 (.loop (inside (inside (nthI z15i0 9)))) :: List.drop 10 z15i0 := by kernel_rfl
theorem z15p4k (from_1 to_1 : Int) (u : ByteArray) (r_1 : GPensionhand_Fact) (f : GFact) (K : KT) : ∀ r : ((GFact)), W (hand_Make_p4_g from_1 to_1 u r_1 f r) (rE z15R K) → z15l1E from_1 to_1 u r_1 f r (wK (blockK 1 (thenK (EvL Tryz.prog 156 (List.drop 10 z15i0) K) K)))
  | f_4, h => ⟨(z15p3S f_4), (.refl _), (z15p3ok h)⟩
theorem z15p4ok {from_1 to_1 : Int} {u : ByteArray} {r_1 : GPensionhand_Fact} {f : GFact} {K : KT} (h : W (hand_Make_p4 from_1 to_1 u r_1 f) (rE z15R K)) : EvL Tryz.prog 156 (List.drop 9 z15i0) K (z15p4S from_1 to_1 u r_1 f) :=
  EvL.at_ z15p4at (EvL.cons_loop (EvOk.weak (EvOk.ent (.refl _) (EvOk.loopF (x := inside (inside (nthI z15i0 9))) (f := hand_Make_l1 from_1 to_1 u r_1 f) (emb := z15l1S from_1 to_1 u r_1 f) (E := z15l1E from_1 to_1 u r_1 f) (z15l1ok from_1 to_1 u r_1 f) (z15l1Ethen from_1 to_1 u r_1 f) (W_loop h (z15p4k from_1 to_1 u r_1 f K))))))
def z15p5S (from_1 to_1 : Int) (r_1 : GPensionhand_Fact) (f : GFact) : St := ⟨[sv 1 (.ptr 0 13 0 0), sv 2 (.ptr 1 14 0 0), sv 3 (.ptr 2 14 0 0), sv 4 (i64 from_1), sv 5 (i64 to_1)], [(0, some (.bx (eGPensionhand_Fact r_1))), (1, some (.bx (eGFact (GFact.mk 0 0 0 false 0 0 0 (GSpan.mk 0 0) 0 0 0 0 0)))), (2, some (.bx (eGFact f)))], 3⟩
noncomputable def hand_Make_p5 (from_1 to_1 : Int) (r_1 : GPensionhand_Fact) (f : GFact) : Option (GFact) := (ref12_Uses f.Kind).bind fun r_10 => ((hand_Make_p4 from_1 to_1 r_10 r_1 f))
theorem z15p5ok {from_1 to_1 : Int} {r_1 : GPensionhand_Fact} {f : GFact} {K : KT} (h : W (hand_Make_p5 from_1 to_1 r_1 f) (rE z15R K)) : EvL Tryz.prog 156 (List.drop 7 z15i0) K (z15p5S from_1 to_1 r_1 f) :=
  EvL.qD mixed [e39] [1, 2, 3, 4, 5, 6, 7, 120, 121, 122, 123, 124] 7 2 9 (.nx (fun K => ((ref12_Uses f.Kind).isSome = true) ∧ (wK K .normal (z15p4S from_1 to_1 ((ref12_Uses f.Kind).getD (bstr [])) r_1 f))) (W_bind (bstr []) h fun _ h => (l0 (z15p4ok h))))
def z15p6S (r_1 : GPensionhand_Fact) : St := ⟨[sv 0 (.ag (eGPensionhand_Fact r_1))], [], 0⟩
noncomputable def hand_Make_p6 (r_1 : GPensionhand_Fact) : Option (GFact) := (plain_Mod r_1.Issuer 3).bind fun r_2 => ((plain_Mod r_1.Number 20).bind fun r_3 => ((plain_Mod r_1.Version 3).bind fun r_4 => ((plain_Mod r_1.Person 4).bind fun r_5 => ((plain_Mod r_1.Kind 14).bind fun r_6 => ((plain_Mod r_1.From 16000).bind fun r_7 => ((hand_length r_1.Length).bind fun r_8 => ((bif ((w64 (1 + r_6)) == 11) then (plain_Mod r_1.From 5000).bind fun r_9 => ((hand_Make_p5 (w64 (12000 + r_9)) (w64 ((w64 (12000 + r_9)) + 1)) r_1 (GFact.mk r_2 (w64 (1 + r_3)) (w64 (1 + r_4)) r_1.Withdrawn (w64 (1 + r_5)) (w64 (1 + r_6)) 0 (GSpan.mk 0 0) 0 0 0 0 0))) else (bif ((w64 (1 + r_6)) == 12) then (plain_Mod r_1.From 6000).bind fun r_19 => ((hand_Make_p5 (w64 (34000 + r_19)) (w64 ((w64 (34000 + r_19)) + 1)) r_1 (GFact.mk r_2 (w64 (1 + r_3)) (w64 (1 + r_4)) r_1.Withdrawn (w64 (1 + r_5)) (w64 (1 + r_6)) 0 (GSpan.mk 0 0) 0 0 0 0 0))) else (bif ((w64 (1 + r_6)) == 8) then (plain_Mod r_1.From 4000).bind fun r_20 => ((plain_Mod r_1.Length 700).bind fun r_21 => ((hand_Make_p5 (w64 (34000 + r_20)) (w64 ((w64 ((w64 (34000 + r_20)) + 1)) + r_21)) r_1 (GFact.mk r_2 (w64 (1 + r_3)) (w64 (1 + r_4)) r_1.Withdrawn (w64 (1 + r_5)) (w64 (1 + r_6)) 0 (GSpan.mk 0 0) 0 0 0 0 0)))) else (hand_Make_p5 (w64 (21900 + r_7)) (w64 ((w64 (21900 + r_7)) + r_8)) r_1 (GFact.mk r_2 (w64 (1 + r_3)) (w64 (1 + r_4)) r_1.Withdrawn (w64 (1 + r_5)) (w64 (1 + r_6)) 0 (GSpan.mk 0 0) 0 0 0 0 0))))))))))))
theorem z15p6ok {r_1 : GPensionhand_Fact} {K : KT} (h : W (hand_Make_p6 r_1) (rE z15R K)) : EvL Tryz.prog 156 (List.drop 0 z15i0) K (z15p6S r_1) :=
  EvL.qD mixed [e8, e38] [1, 2, 3, 4, 5, 120, 121, 122, 123, 124] 0 7 7 (.nx (fun K => let a2_ := w64 (1 + ((plain_Mod r_1.Kind 14).getD 0)); let a1_ := GFact.mk ((plain_Mod r_1.Issuer 3).getD 0) (w64 (1 + ((plain_Mod r_1.Number 20).getD 0))) (w64 (1 + ((plain_Mod r_1.Version 3).getD 0))) r_1.Withdrawn (w64 (1 + ((plain_Mod r_1.Person 4).getD 0))) a2_ 0 (GSpan.mk 0 0) 0 0 0 0 0; let a3_ := w64 (21900 + ((plain_Mod r_1.From 16000).getD 0)); let a4_ := w64 (12000 + ((plain_Mod r_1.From 5000).getD 0)); let a5_ := w64 (34000 + ((plain_Mod r_1.From 6000).getD 0)); let a6_ := w64 (34000 + ((plain_Mod r_1.From 4000).getD 0)); ((plain_Mod r_1.Issuer 3).isSome = true) ∧ ((plain_Mod r_1.Number 20).isSome = true) ∧ ((plain_Mod r_1.Version 3).isSome = true) ∧ (((plain_Mod r_1.Person 4).isSome = true) ∧ ((plain_Mod r_1.Kind 14).isSome = true) ∧ (((plain_Mod r_1.From 16000).isSome = true) ∧ (((hand_length r_1.Length).isSome = true) ∧ ((bif (a2_ == 11) then ((plain_Mod r_1.From 5000).isSome = true) ∧ (wK K .normal (z15p5S a4_ (w64 (a4_ + 1)) r_1 a1_)) else (bif (a2_ == 12) then ((plain_Mod r_1.From 6000).isSome = true) ∧ (wK K .normal (z15p5S a5_ (w64 (a5_ + 1)) r_1 a1_)) else (bif (a2_ == 8) then ((plain_Mod r_1.From 4000).isSome = true) ∧ (((plain_Mod r_1.Length 700).isSome = true) ∧ (wK K .normal (z15p5S a6_ (w64 ((w64 (a6_ + 1)) + ((plain_Mod r_1.Length 700).getD 0))) r_1 a1_))) else wK K .normal (z15p5S a3_ (w64 (a3_ + ((hand_length r_1.Length).getD 0))) r_1 a1_))))))))) (W_bind 0 h fun _ h => (W_bind 0 h fun _ h => (W_bind 0 h fun _ h => (W_bind 0 h fun _ h => (W_bind 0 h fun _ h => (W_bind 0 h fun _ h => (W_bind 0 h fun _ h => (W_bif h (fun _ h => (W_bind 0 h fun _ h => (l0 (z15p5ok h)))) (fun _ h => (W_bif h (fun _ h => (W_bind 0 h fun _ h => (l0 (z15p5ok h)))) (fun _ h => (W_bif h (fun _ h => (W_bind 0 h fun _ h => (W_bind 0 h fun _ h => (l0 (z15p5ok h))))) (fun _ h => (l0 (z15p5ok h))))))))))))))))
noncomputable def hand_Make (r_1 : GPensionhand_Fact) : Option (GFact) := hand_Make_p6 r_1
noncomputable def hand_Make_C : Con := con1 wGPensionhand_Fact hand_Make zGFact hand_Make_out
theorem hand_Make_ok : Meets Tryz.prog 15 hand_Make_C := meets1 Tryz.f15 (bodyOf Tryz.f15) [.cell 2 38] 156 fun u0 y h => @z15p6ok u0 _ (W_iff.2 ⟨y, h, (rtI (.agg [(i64 y.Issuer), (i64 y.Number), (i64 y.Version), (bl y.Withdrawn), (i64 y.Person), (i64 y.Kind), (i64 y.State), (i64 y.Span.From), (i64 y.Span.To), (i64 y.Seat), (i64 y.Share), (i64 y.Currency), (i64 y.Amount), (i64 y.Ref)]) (VLe.rfl' _))⟩)
noncomputable abbrev e15 : FE Tryz.prog := ⟨15, .pure hand_Make_C, hand_Make_ok⟩

noncomputable def z7i0 : List Code := items (bodyOf Tryz.f7)
noncomputable def z7i1 : List Code := items (inside (inside (nthI z7i0 3)))
def hand_Facts_out (x_1 : (List GFact)) : Out := .own true 38 14 (x_1).length (lsEl eGFact zGFact x_1)
def z7R (x_1 : (List GFact)) : St := ⟨[sv 2 (.row 0 14 0 x_1.length)], [(rGFact 0 38 x_1)], 1⟩
def z7l1S (l : (List GPensionhand_Fact)) (s : ((List GFact) × Int)) : St := match s with | (out_1, i_1) => ⟨[sv 0 (sGPensionhand_Fact l), sv 3 (.row 0 14 0 out_1.length), sv 4 (i64 i_1)], [(rGFact 0 38 out_1)], 1⟩
def z7l1C0 (l : (List GPensionhand_Fact)) (s : (List GFact)) : St := match s with | out_2 => ⟨[sv 3 (.row 0 14 0 out_2.length)], [(rGFact 0 38 out_2)], 1⟩
def z7l1E (l : (List GPensionhand_Fact)) (r : (((List GFact)))) (K : KT) : Prop := match r with | s => K (.exit 0) (z7l1C0 l s)
def z7p0S (l : (List GPensionhand_Fact)) (out_1 : (List GFact)) (i_1 : Int) : St := ⟨[sv 0 (sGPensionhand_Fact l), sv 3 (.row 0 14 0 out_1.length), sv 4 (i64 i_1)], [(rGFact 0 38 out_1)], 1⟩
noncomputable def hand_Facts_p0 (l : (List GPensionhand_Fact)) (out_1 : (List GFact)) (i_1 : Int) : Option (((List GFact) × Int) ⊕ (((List GFact)))) := (bif (bif (decide (i_1 < (l.length : Int))) then (decide (i_1 < 12)) else false) then gd (0 ≤ i_1 ∧ i_1 < (l.length : Int)) ((hand_Make (l.getD (Int.toNat i_1) zGPensionhand_Fact)).bind fun r_1 => (gd (capB (out_1.length + 1) 112) ((some (Sum.inl ((out_1 ++ ([r_1] : List GFact)), (w64 (i_1 + 1)))))))) else (some (Sum.inr out_1)))
theorem z7p0ok {l : (List GPensionhand_Fact)} {out_1 : (List GFact)} {i_1 : Int} {K : KT} (h : W (hand_Facts_p0 l out_1 i_1) (nE (z7l1S l) (z7l1E l) K)) : EvL Tryz.prog 24 (List.drop 0 z7i1) K (z7p0S l out_1 i_1) :=
  EvL.qE mixed [e15] [0, 3, 4, 10, 11] 0 4 (.nx (fun K => let a1_ := hand_Make (l.getD (Int.toNat i_1) zGPensionhand_Fact); let a2_ := out_1.length + 1; (bif (bif (decide (i_1 < (l.length : Int))) then (decide (i_1 < 12)) else false) then (0 ≤ i_1) ∧ (i_1 < (l.length : Int)) ∧ (a1_.isSome = true) ∧ (out_1.length = out_1.length) ∧ (a2_ * 112 ≤ 140737488355328) ∧ (a2_ ≤ 140737488355328) ∧ (wK K .normal (⟨[sv 0 (sGPensionhand_Fact l), sv 3 (.row 0 14 0 a2_), sv 4 (i64 (w64 (i_1 + 1))), un 10, un 11], [(0, some (.row 38 14 a2_ (fun i => bif Nat.blt i out_1.length then (lGFact out_1) i else (fun i => (litE 14 (eGFact (a1_.getD zGFact))) (0 + i)) (i - out_1.length))))], 1⟩)) else wK K (.exit 0) (⟨[sv 0 (sGPensionhand_Fact l), sv 3 (.row 0 14 0 out_1.length), sv 4 (i64 i_1), un 10, un 11], [(rGFact 0 38 out_1)], 1⟩))) (W_bif h (fun _ h => (W_gd2 h fun _ h => (W_bind zGFact h fun _ h => ⟨rfl, (W_gd2 h fun _ h => (lf h (.of (.q rfl (.cons rfl (.rown (len_app rfl rfl)) (.q rfl .nil))) (.row rfl (RowIs.app .b (RowIs.zero (RowIs.l1 (enc := eGFact) (z := zGFact) 14 ((hand_Make (l.getD (Int.toNat i_1) zGPensionhand_Fact)).getD zGFact) rfl))) .nil rfl) rfl)))⟩))) (fun _ h => (lf h (.cn [3])))))
noncomputable def hand_Facts_l1 (l : (List GPensionhand_Fact)) (s : ((List GFact) × Int)) : Option (((List GFact) × Int) ⊕ (((List GFact)))) := match s with | (out_1, i_1) => hand_Facts_p0 l out_1 i_1
theorem z7l1ok (l : (List GPensionhand_Fact)) (s : ((List GFact) × Int)) : Pp Tryz.prog 24 (List.drop 0 z7i1) (z7l1S l s) (hand_Facts_l1 l s) (nextE (z7l1S l) (z7l1E l)) := fun K h => match s, h with | (out_1, i_1), h => (z7p0ok h)
theorem z7l1Ethen (l : (List GPensionhand_Fact)) : ∀ (r : (((List GFact)))) (J : St → Prop) (K : KT), z7l1E l r K → z7l1E l r (thenK J K)
  | s, _, _, h => h
def z7p1S (out_3 : (List GFact)) : St := ⟨[sv 3 (.row 0 14 0 out_3.length)], [(rGFact 0 38 out_3)], 1⟩
noncomputable def hand_Facts_p1 (out_3 : (List GFact)) : Option ((List GFact)) := (some out_3)
theorem z7p1ok {out_3 : (List GFact)} {K : KT} (h : W (hand_Facts_p1 out_3) (rE z7R K)) : EvL Tryz.prog 24 (List.drop 4 z7i0) K (z7p1S out_3) :=
  EvL.qE mixed [] [2] 4 2 (.nx (fun K => wK K .ret (z7R out_3)) (l0 h))
def z7p2S (l : (List GPensionhand_Fact)) : St := ⟨[sv 0 (sGPensionhand_Fact l), sv 3 (.c .nil), sv 4 (i64 0)], [], 0⟩
noncomputable def hand_Facts_p2_g (l : (List GPensionhand_Fact)) (r : (((List GFact)))) : Option ((List GFact)) := match r with | out_2 => (hand_Facts_p1 out_2)
noncomputable def hand_Facts_p2 (l : (List GPensionhand_Fact)) : Option ((List GFact)) := (fixL (hand_Facts_l1 l) (([] : List GFact), 0)).bind (hand_Facts_p2_g l)
theorem z7p2at : List.drop 3 z7i0 = .block 0 (.loop (inside (inside (nthI z7i0 3)))) :: List.drop 4 z7i0 := by kernel_rfl
theorem z7p2k (l : (List GPensionhand_Fact)) (K : KT) : ∀ r : (((List GFact))), W (hand_Facts_p2_g l r) (rE z7R K) → z7l1E l r (wK (blockK 0 (thenK (EvL Tryz.prog 24 (List.drop 4 z7i0) K) K)))
  | out_2, h => ⟨(z7p1S out_2), (.refl _), (z7p1ok h)⟩
theorem z7p2ok {l : (List GPensionhand_Fact)} {K : KT} (h : W (hand_Facts_p2 l) (rE z7R K)) : EvL Tryz.prog 24 (List.drop 3 z7i0) K (z7p2S l) :=
  EvL.at_ z7p2at (EvL.cons_loop (EvOk.weak (EvOk.ent (.trans (.nilrow 3 0 38 14 (lsEl eGFact zGFact []) (Nat.le_of_ble_eq_true rfl) rfl) (.cn [0, 3, 4])) (EvOk.loopF (x := inside (inside (nthI z7i0 3))) (f := hand_Facts_l1 l) (emb := z7l1S l) (E := z7l1E l) (z7l1ok l) (z7l1Ethen l) (W_loop h (z7p2k l K))))))
def z7p3S (l : (List GPensionhand_Fact)) : St := ⟨[sv 0 (sGPensionhand_Fact l)], [], 0⟩
noncomputable def hand_Facts_p3 (l : (List GPensionhand_Fact)) : Option ((List GFact)) := (hand_Facts_p2 l)
theorem z7p3ok {l : (List GPensionhand_Fact)} {K : KT} (h : W (hand_Facts_p3 l) (rE z7R K)) : EvL Tryz.prog 24 (List.drop 0 z7i0) K (z7p3S l) :=
  EvL.qD mixed [] [0, 3, 4, 10, 11] 0 3 3 (.nx (fun K => wK K .normal (z7p2S l)) (l0 (z7p2ok h)))
noncomputable def hand_Facts (l : (List GPensionhand_Fact)) : Option ((List GFact)) := hand_Facts_p3 l
noncomputable def hand_Facts_C : Con := con1 uGPensionhand_Fact hand_Facts ([] : List GFact) hand_Facts_out
theorem hand_Facts_ok : Meets Tryz.prog 7 hand_Facts_C := meets1 Tryz.f7 (bodyOf Tryz.f7) [.tmp 2] 24 fun u0 y h => @z7p3ok u0 _ (W_iff.2 ⟨y, h, (rtI (.row 0 14 0 y.length) (⟨_, _, _, rfl, rfl, rfl, fun _ _ => rfl, fun _ i hi d hd => scal_GFact _ d hd⟩))⟩)
noncomputable abbrev e7 : FE Tryz.prog := ⟨7, .pure hand_Facts_C, hand_Facts_ok⟩

noncomputable def z35i0 : List Code := items (bodyOf Tryz.f35)
noncomputable def z35i1 : List Code := items (inside (inside (nthI z35i0 4)))
noncomputable def z35i2 : List Code := items (inside (nthI z35i1 2))
noncomputable def z35i3 : List Code := items (inside (inside (nthI z35i2 6)))
def conversion_valid_out (x_1 : Bool) : Out := .data (bl x_1)
def z35R (x_1 : Bool) : St := ⟨[sv 2 (bl x_1)], [], 0⟩
def z35l1S (l : (List GHeir)) (s : (Int)) : St := match s with | t12 => ⟨[sv 0 (sGHeir l), sv 10 (sGHeir l), sv 11 (i64 (l.length : Int)), sv 12 (i64 t12)], [], 0⟩
def z35l1C0 (l : (List GHeir)) (s : Unit) : St := match s with | () => ⟨[], [], 0⟩
def z35l1C1 (l : (List GHeir)) (s : Unit) : St := match s with | () => ⟨[sv 2 (bl false)], [], 0⟩
def z35l1E (l : (List GHeir)) (r : ((Unit) ⊕ (Unit))) (K : KT) : Prop := match r with | (.inl s) => K (.exit 0) (z35l1C0 l s) | (.inr s) => K .ret (z35l1C1 l s)
def z35l2S (l : (List GHeir)) (t12_4 : Int) (t45 : (List GHeir)) (t46 : Int) (s_1 : GHeir) (s : (Int × Int × Int)) : St := match s with | (t12_5, t46_1, t47) => ⟨[sv 0 (sGHeir l), sv 4 (.ptr 0 3 0 0), sv 10 (sGHeir l), sv 11 (i64 (l.length : Int)), sv 12 (i64 t12_5), sv 45 (sGHeir t45), sv 46 (i64 t46_1), sv 47 (i64 t47)], [(0, some (.bx (eGHeir s_1)))], 1⟩
def z35l2C0 (l : (List GHeir)) (t12_4 : Int) (t45 : (List GHeir)) (t46 : Int) (s_1 : GHeir) (s : Int) : St := match s with | t12_6 => ⟨[sv 0 (sGHeir l), sv 10 (sGHeir l), sv 11 (i64 (l.length : Int)), sv 12 (i64 t12_6)], [], 0⟩
def z35l2C1 (l : (List GHeir)) (t12_4 : Int) (t45 : (List GHeir)) (t46 : Int) (s_1 : GHeir) (s : Unit) : St := match s with | () => ⟨[sv 2 (bl false)], [], 0⟩
def z35l2E (l : (List GHeir)) (t12_4 : Int) (t45 : (List GHeir)) (t46 : Int) (s_1 : GHeir) (r : ((Int) ⊕ (Unit))) (K : KT) : Prop := match r with | (.inl s) => K (.exit 3) (z35l2C0 l t12_4 t45 t46 s_1 s) | (.inr s) => K .ret (z35l2C1 l t12_4 t45 t46 s_1 s)
def z35p0S (l : (List GHeir)) (t12_5 : Int) (t45 : (List GHeir)) (t46_1 t47 : Int) (s_1 : GHeir) : St := ⟨[sv 0 (sGHeir l), sv 4 (.ptr 0 3 0 0), sv 10 (sGHeir l), sv 11 (i64 (l.length : Int)), sv 12 (i64 t12_5), sv 45 (sGHeir t45), sv 46 (i64 t46_1), sv 47 (i64 t47)], [(0, some (.bx (eGHeir s_1)))], 1⟩
noncomputable def conversion_valid_p0 (l : (List GHeir)) (t12_5 : Int) (t45 : (List GHeir)) (t46_1 t47 : Int) (s_1 : GHeir) : Option ((Int × Int × Int) ⊕ ((Int) ⊕ (Unit))) := (bif (decide (t47 < t46_1)) then gd (0 ≤ t47 ∧ t47 < (t45.length : Int)) ((bif ((t45.getD (Int.toNat t47) zGHeir).Person == s_1.Person) then (some (Sum.inr (Sum.inr ()))) else (some (Sum.inl (t12_5, t46_1, (w64 (t47 + 1))))))) else (some (Sum.inr (Sum.inl t12_5))))
theorem z35p0ok {l : (List GHeir)} {t12_5 : Int} {t45 : (List GHeir)} {t46_1 t47 : Int} {s_1 : GHeir} {t12_4 t46 : Int} {K : KT} (h : W (conversion_valid_p0 l t12_5 t45 t46_1 t47 s_1) (nE (z35l2S l t12_4 t45 t46 s_1) (z35l2E l t12_4 t45 t46 s_1) K)) : EvL Tryz.prog 58 (List.drop 0 z35i3) K (z35p0S l t12_5 t45 t46_1 t47 s_1) :=
  EvL.qE mixed [] [0, 2, 4, 10, 11, 12, 21, 22, 23, 33, 34, 35, 45, 46, 47] 0 4 (.nx (fun K => (bif (decide (t47 < t46_1)) then (0 ≤ t47) ∧ (t47 < (t45.length : Int)) ∧ ((bif ((t45.getD (Int.toNat t47) zGHeir).Person == s_1.Person) then wK K .ret (⟨[sv 0 (sGHeir l), sv 2 (bl false), sv 4 (.ptr 0 3 0 0), sv 10 (sGHeir l), sv 11 (i64 (l.length : Int)), sv 12 (i64 t12_5), sv 45 (sGHeir t45), sv 46 (i64 t46_1), sv 47 (i64 t47)], [(0, some (.bx (eGHeir s_1)))], 1⟩) else wK K .normal (z35l2S l t12_4 t45 t46 s_1 (t12_5, t46_1, (w64 (t47 + 1)))))) else wK K (.exit 3) (⟨[sv 0 (sGHeir l), sv 4 (.ptr 0 3 0 0), sv 10 (sGHeir l), sv 11 (i64 (l.length : Int)), sv 12 (i64 t12_5), sv 45 (sGHeir t45), sv 46 (i64 t46_1), sv 47 (i64 t47)], [(0, some (.bx (eGHeir s_1)))], 1⟩))) (W_bif h (fun _ h => (W_gd2 h fun _ h => (W_bif h (fun _ h => (lf h (.cn [2]))) (fun _ h => (l0 h))))) (fun _ h => (lf h (.cn [0, 10, 11, 12])))))
noncomputable def conversion_valid_l2 (l : (List GHeir)) (t12_4 : Int) (t45 : (List GHeir)) (t46 : Int) (s_1 : GHeir) (s : (Int × Int × Int)) : Option ((Int × Int × Int) ⊕ ((Int) ⊕ (Unit))) := match s with | (t12_5, t46_1, t47) => conversion_valid_p0 l t12_5 t45 t46_1 t47 s_1
theorem z35l2ok (l : (List GHeir)) (t12_4 : Int) (t45 : (List GHeir)) (t46 : Int) (s_1 : GHeir) (s : (Int × Int × Int)) : Pp Tryz.prog 58 (List.drop 0 z35i3) (z35l2S l t12_4 t45 t46 s_1 s) (conversion_valid_l2 l t12_4 t45 t46 s_1 s) (nextE (z35l2S l t12_4 t45 t46 s_1) (z35l2E l t12_4 t45 t46 s_1)) := fun K h => match s, h with | (t12_5, t46_1, t47), h => (z35p0ok h)
theorem z35l2Ethen (l : (List GHeir)) (t12_4 : Int) (t45 : (List GHeir)) (t46 : Int) (s_1 : GHeir) : ∀ (r : ((Int) ⊕ (Unit))) (J : St → Prop) (K : KT), z35l2E l t12_4 t45 t46 s_1 r K → z35l2E l t12_4 t45 t46 s_1 r (thenK J K)
  | (.inl s), _, _, h => h
  | (.inr s), _, _, h => h
def z35p1S (l : (List GHeir)) (t12_7 : Int) : St := ⟨[sv 0 (sGHeir l), sv 10 (sGHeir l), sv 11 (i64 (l.length : Int)), sv 12 (i64 t12_7)], [], 0⟩
noncomputable def conversion_valid_p1 (l : (List GHeir)) (t12_7 : Int) : Option ((Int) ⊕ ((Unit) ⊕ (Unit))) := (some (Sum.inl (w64 (t12_7 + 1))))
theorem z35p1ok {l : (List GHeir)} {t12_7 : Int} {K : KT} (h : W (conversion_valid_p1 l t12_7) (nE (z35l1S l) (z35l1E l) K)) : EvL Tryz.prog 58 (List.drop 3 z35i1) K (z35p1S l t12_7) :=
  EvL.qE mixed [] [0, 10, 11, 12, 21, 22, 23, 33, 34, 35] 3 1 (.nx (fun K => wK K .normal (z35l1S l (w64 (t12_7 + 1)))) (l0 h))
def z35p2S (l : (List GHeir)) (t12_4 : Int) (t45 : (List GHeir)) (t46 : Int) (s_1 : GHeir) : St := ⟨[sv 0 (sGHeir l), sv 4 (.ptr 0 3 0 0), sv 10 (sGHeir l), sv 11 (i64 (l.length : Int)), sv 12 (i64 t12_4), sv 45 (sGHeir t45), sv 46 (i64 t46), sv 47 (i64 0)], [(0, some (.bx (eGHeir s_1)))], 1⟩
noncomputable def conversion_valid_p2_g (l : (List GHeir)) (t12_4 : Int) (t45 : (List GHeir)) (t46 : Int) (s_1 : GHeir) (r : ((Int) ⊕ (Unit))) : Option ((Int) ⊕ ((Unit) ⊕ (Unit))) := match r with | (.inl t12_6) => (conversion_valid_p1 l t12_6) | (.inr ()) => (some (Sum.inr (Sum.inr ())))
noncomputable def conversion_valid_p2 (l : (List GHeir)) (t12_4 : Int) (t45 : (List GHeir)) (t46 : Int) (s_1 : GHeir) : Option ((Int) ⊕ ((Unit) ⊕ (Unit))) := (fixL (conversion_valid_l2 l t12_4 t45 t46 s_1) (t12_4, t46, 0)).bind (conversion_valid_p2_g l t12_4 t45 t46 s_1)
theorem z35p2at : List.drop 6 z35i2 = .block 3 (.loop (inside (inside (nthI z35i2 6)))) :: List.drop 7 z35i2 := by kernel_rfl
theorem z35p2k (l : (List GHeir)) (t12_4 : Int) (t45 : (List GHeir)) (t46 : Int) (s_1 : GHeir) (K : KT) : ∀ r : ((Int) ⊕ (Unit)), W (conversion_valid_p2_g l t12_4 t45 t46 s_1 r) (nE (z35l1S l) (z35l1E l) K) → z35l2E l t12_4 t45 t46 s_1 r (wK (blockK 3 (thenK (EvL Tryz.prog 58 (List.drop 7 z35i2) (blockK 1 (thenK (EvL Tryz.prog 58 (List.drop 3 z35i1) K) K))) (blockK 1 (thenK (EvL Tryz.prog 58 (List.drop 3 z35i1) K) K)))))
  | (.inl t12_6), h => ⟨(z35p1S l t12_6), (.refl _), (EvL.end_ (by kernel_rfl : List.drop 7 z35i2 = []) (z35p1ok h))⟩
  | (.inr ()), h => ⟨(z35l1C1 l ()), (.refl _), h⟩
theorem z35p2ok {l : (List GHeir)} {t12_4 : Int} {t45 : (List GHeir)} {t46 : Int} {s_1 : GHeir} {K : KT} (h : W (conversion_valid_p2 l t12_4 t45 t46 s_1) (nE (z35l1S l) (z35l1E l) K)) : EvL Tryz.prog 58 (List.drop 6 z35i2) (blockK 1 (thenK (EvL Tryz.prog 58 (List.drop 3 z35i1) K) K)) (z35p2S l t12_4 t45 t46 s_1) :=
  EvL.at_ z35p2at (EvL.cons_loop (EvOk.weak (EvOk.ent (.refl _) (EvOk.loopF (x := inside (inside (nthI z35i2 6))) (f := conversion_valid_l2 l t12_4 t45 t46 s_1) (emb := z35l2S l t12_4 t45 t46 s_1) (E := z35l2E l t12_4 t45 t46 s_1) (z35l2ok l t12_4 t45 t46 s_1) (z35l2Ethen l t12_4 t45 t46 s_1) (W_loop h (z35p2k l t12_4 t45 t46 s_1 K))))))
def z35p3S (l : (List GHeir)) (i_1 t12_3 : Int) (s_1 : GHeir) : St := ⟨[sv 0 (sGHeir l), sv 3 (i64 i_1), sv 4 (.ptr 0 3 0 0), sv 10 (sGHeir l), sv 11 (i64 (l.length : Int)), sv 12 (i64 t12_3)], [(0, some (.bx (eGHeir s_1)))], 1⟩
noncomputable def conversion_valid_p3 (l : (List GHeir)) (i_1 t12_3 : Int) (s_1 : GHeir) : Option ((Int) ⊕ ((Unit) ⊕ (Unit))) := gd (0 ≤ (0 : Int) ∧ (0 : Int) ≤ i_1 ∧ i_1 ≤ (l.length : Int)) ((conversion_valid_p2 l t12_3 (subL zGHeir l 0 (Int.toNat (i_1 - 0))) (((Int.toNat (i_1 - 0)) : Nat) : Int) s_1))
theorem z35p3ok {l : (List GHeir)} {i_1 t12_3 : Int} {s_1 : GHeir} {K : KT} (h : W (conversion_valid_p3 l i_1 t12_3 s_1) (nE (z35l1S l) (z35l1E l) K)) : EvL Tryz.prog 58 (List.drop 5 z35i2) (blockK 1 (thenK (EvL Tryz.prog 58 (List.drop 3 z35i1) K) K)) (z35p3S l i_1 t12_3 s_1) :=
  EvL.qD mixed [] [0, 4, 10, 11, 12, 21, 22, 23, 33, 34, 35, 45, 46, 47] 5 1 6 (.nx (fun K => (0 ≤ (0 : Int)) ∧ ((0 : Int) ≤ i_1) ∧ (i_1 ≤ (l.length : Int)) ∧ (wK K .normal (⟨[sv 0 (sGHeir l), sv 4 (.ptr 0 3 0 0), sv 10 (sGHeir l), sv 11 (i64 (l.length : Int)), sv 12 (i64 t12_3), sv 45 (.c (.sl 3 (Int.toNat (i_1 - 0)) (fun i => (lGHeir l) (0 + i)))), sv 46 (i64 (((Int.toNat (i_1 - 0)) : Nat) : Int)), sv 47 (i64 0)], [(0, some (.bx (eGHeir s_1)))], 1⟩))) (W_gd3 h fun _ h => (lf (z35p2ok h) (.of (.qs 5 (.cons rfl (.sl (RowIs.sub eGHeir zGHeir l 0 (Int.toNat (i_1 - 0)))) (.q rfl (.q rfl .nil)))) (.same rfl .nil) rfl))))
def z35p4S (l : (List GHeir)) (t12_2 : Int) : St := ⟨[sv 0 (sGHeir l), sv 10 (sGHeir l), sv 11 (i64 (l.length : Int)), sv 12 (i64 t12_2)], [], 0⟩
noncomputable def conversion_valid_p4 (l : (List GHeir)) (t12_2 : Int) : Option ((Int) ⊕ ((Unit) ⊕ (Unit))) := gd (0 ≤ t12_2 ∧ t12_2 < (l.length : Int)) ((bif (bif (decide ((l.getD (Int.toNat t12_2) zGHeir).Person < 1)) then true else (decide (99 < (l.getD (Int.toNat t12_2) zGHeir).Person))) then (some (Sum.inr (Sum.inr ()))) else (bif ((l.getD (Int.toNat t12_2) zGHeir).Kind == 1) then (bif (bif (decide ((l.getD (Int.toNat t12_2) zGHeir).Days < 1)) then true else (decide (73049 < (l.getD (Int.toNat t12_2) zGHeir).Days))) then (some (Sum.inr (Sum.inr ()))) else (conversion_valid_p3 l t12_2 t12_2 (l.getD (Int.toNat t12_2) zGHeir))) else (bif ((l.getD (Int.toNat t12_2) zGHeir).Kind == 2) then (bif ((l.getD (Int.toNat t12_2) zGHeir).Kind == 2) then (bif ((l.getD (Int.toNat t12_2) zGHeir).Days != 0) then (some (Sum.inr (Sum.inr ()))) else (conversion_valid_p3 l t12_2 t12_2 (l.getD (Int.toNat t12_2) zGHeir))) else (some (Sum.inr (Sum.inr ())))) else (bif ((l.getD (Int.toNat t12_2) zGHeir).Kind == 3) then (bif ((l.getD (Int.toNat t12_2) zGHeir).Days != 0) then (some (Sum.inr (Sum.inr ()))) else (conversion_valid_p3 l t12_2 t12_2 (l.getD (Int.toNat t12_2) zGHeir))) else (some (Sum.inr (Sum.inr ()))))))))
theorem z35p4ok {l : (List GHeir)} {t12_2 : Int} {K : KT} (h : W (conversion_valid_p4 l t12_2) (nE (z35l1S l) (z35l1E l) K)) : EvL Tryz.prog 58 (List.drop 0 z35i2) (blockK 1 (thenK (EvL Tryz.prog 58 (List.drop 3 z35i1) K) K)) (z35p4S l t12_2) :=
  EvL.qD mixed [] [0, 2, 3, 4, 10, 11, 12, 21, 22, 23, 33, 34, 35] 0 5 5 (.nx (fun K => let a1_ := l.getD (Int.toNat t12_2) zGHeir; let a2_ := i64 (l.length : Int); (0 ≤ t12_2) ∧ (t12_2 < (l.length : Int)) ∧ ((bif (bif (decide (a1_.Person < 1)) then true else (decide (99 < a1_.Person))) then wK K .ret (⟨[sv 0 (sGHeir l), sv 2 (bl false), sv 3 (i64 t12_2), sv 4 (.ptr 0 3 0 0), sv 10 (sGHeir l), sv 11 a2_, sv 12 (i64 t12_2), un 21, un 22, un 23], [(0, some (.bx (eGHeir a1_)))], 1⟩) else (bif (a1_.Kind == 1) then (bif (bif (decide (a1_.Days < 1)) then true else (decide (73049 < a1_.Days))) then wK K .ret (⟨[sv 0 (sGHeir l), sv 2 (bl false), sv 3 (i64 t12_2), sv 4 (.ptr 0 3 0 0), sv 10 (sGHeir l), sv 11 a2_, sv 12 (i64 t12_2), un 21, un 22, un 23, un 33, un 34, un 35], [(0, some (.bx (eGHeir a1_)))], 1⟩) else wK K .normal (⟨[sv 0 (sGHeir l), sv 3 (i64 t12_2), sv 4 (.ptr 0 3 0 0), sv 10 (sGHeir l), sv 11 a2_, sv 12 (i64 t12_2), un 21, un 22, un 23, un 33, un 34, un 35], [(0, some (.bx (eGHeir a1_)))], 1⟩)) else (bif (a1_.Kind == 2) then (bif (a1_.Kind == 2) then (bif (a1_.Days != 0) then wK K .ret (⟨[sv 0 (sGHeir l), sv 2 (bl false), sv 3 (i64 t12_2), sv 4 (.ptr 0 3 0 0), sv 10 (sGHeir l), sv 11 a2_, sv 12 (i64 t12_2), un 21, un 22, un 23], [(0, some (.bx (eGHeir a1_)))], 1⟩) else wK K .normal (⟨[sv 0 (sGHeir l), sv 3 (i64 t12_2), sv 4 (.ptr 0 3 0 0), sv 10 (sGHeir l), sv 11 a2_, sv 12 (i64 t12_2), un 21, un 22, un 23], [(0, some (.bx (eGHeir a1_)))], 1⟩)) else wK K .ret (⟨[sv 0 (sGHeir l), sv 2 (bl false), sv 3 (i64 t12_2), sv 4 (.ptr 0 3 0 0), sv 10 (sGHeir l), sv 11 a2_, sv 12 (i64 t12_2), un 21, un 22, un 23], [(0, some (.bx (eGHeir a1_)))], 1⟩)) else (bif (a1_.Kind == 3) then (bif (a1_.Days != 0) then wK K .ret (⟨[sv 0 (sGHeir l), sv 2 (bl false), sv 3 (i64 t12_2), sv 4 (.ptr 0 3 0 0), sv 10 (sGHeir l), sv 11 a2_, sv 12 (i64 t12_2), un 21, un 22, un 23], [(0, some (.bx (eGHeir a1_)))], 1⟩) else wK K .normal (⟨[sv 0 (sGHeir l), sv 3 (i64 t12_2), sv 4 (.ptr 0 3 0 0), sv 10 (sGHeir l), sv 11 a2_, sv 12 (i64 t12_2), un 21, un 22, un 23], [(0, some (.bx (eGHeir a1_)))], 1⟩)) else wK K .ret (⟨[sv 0 (sGHeir l), sv 2 (bl false), sv 3 (i64 t12_2), sv 4 (.ptr 0 3 0 0), sv 10 (sGHeir l), sv 11 a2_, sv 12 (i64 t12_2), un 21, un 22, un 23], [(0, some (.bx (eGHeir a1_)))], 1⟩))))))) (W_gd2 h fun _ h => (W_bif h (fun _ h => (lf h (.cn [2]))) (fun _ h => (W_bif h (fun _ h => (W_bif h (fun _ h => (lf h (.cn [2]))) (fun _ h => (lf (z35p3ok h) (.cn [0, 3, 4, 10, 11, 12]))))) (fun _ h => (W_bif h (fun _ h => (W_bif h (fun _ h => (W_bif h (fun _ h => (lf h (.cn [2]))) (fun _ h => (lf (z35p3ok h) (.cn [0, 3, 4, 10, 11, 12]))))) (fun _ h => (lf h (.cn [2]))))) (fun _ h => (W_bif h (fun _ h => (W_bif h (fun _ h => (lf h (.cn [2]))) (fun _ h => (lf (z35p3ok h) (.cn [0, 3, 4, 10, 11, 12]))))) (fun _ h => (lf h (.cn [2]))))))))))))
def z35p5S (l : (List GHeir)) (t12_1 : Int) : St := ⟨[sv 0 (sGHeir l), sv 10 (sGHeir l), sv 11 (i64 (l.length : Int)), sv 12 (i64 t12_1)], [], 0⟩
noncomputable def conversion_valid_p5 (l : (List GHeir)) (t12_1 : Int) : Option ((Int) ⊕ ((Unit) ⊕ (Unit))) := (conversion_valid_p4 l t12_1)
theorem z35p5at : List.drop 2 z35i1 = .block 1 (inside (nthI z35i1 2)) :: List.drop 3 z35i1 := by kernel_rfl
theorem z35p5ok {l : (List GHeir)} {t12_1 : Int} {K : KT} (h : W (conversion_valid_p5 l t12_1) (nE (z35l1S l) (z35l1E l) K)) : EvL Tryz.prog 58 (List.drop 2 z35i1) K (z35p5S l t12_1) :=
  EvL.at_ z35p5at (EvL.cons_block (EvL.en (z35p4ok h) (.refl _)))
def z35p6S (l : (List GHeir)) (t12 : Int) : St := ⟨[sv 0 (sGHeir l), sv 10 (sGHeir l), sv 11 (i64 (l.length : Int)), sv 12 (i64 t12)], [], 0⟩
noncomputable def conversion_valid_p6 (l : (List GHeir)) (t12 : Int) : Option ((Int) ⊕ ((Unit) ⊕ (Unit))) := (bif (decide (t12 < (l.length : Int))) then (conversion_valid_p5 l t12) else (some (Sum.inr (Sum.inl ()))))
theorem z35p6ok {l : (List GHeir)} {t12 : Int} {K : KT} (h : W (conversion_valid_p6 l t12) (nE (z35l1S l) (z35l1E l) K)) : EvL Tryz.prog 58 (List.drop 0 z35i1) K (z35p6S l t12) :=
  EvL.qD mixed [] [0, 10, 11, 12, 21, 22, 23, 33, 34, 35] 0 2 2 (.nx (fun K => (bif (decide (t12 < (l.length : Int))) then wK K .normal (z35p5S l t12) else wK K (.exit 0) (⟨[sv 0 (sGHeir l), sv 10 (sGHeir l), sv 11 (i64 (l.length : Int)), sv 12 (i64 t12)], [], 0⟩))) (W_bif h (fun _ h => (l0 (z35p5ok h))) (fun _ h => (lf h (.cn [])))))
noncomputable def conversion_valid_l1 (l : (List GHeir)) (s : (Int)) : Option ((Int) ⊕ ((Unit) ⊕ (Unit))) := match s with | t12 => conversion_valid_p6 l t12
theorem z35l1ok (l : (List GHeir)) (s : (Int)) : Pp Tryz.prog 58 (List.drop 0 z35i1) (z35l1S l s) (conversion_valid_l1 l s) (nextE (z35l1S l) (z35l1E l)) := fun K h => match s, h with | t12, h => (z35p6ok h)
theorem z35l1Ethen (l : (List GHeir)) : ∀ (r : ((Unit) ⊕ (Unit))) (J : St → Prop) (K : KT), z35l1E l r K → z35l1E l r (thenK J K)
  | (.inl s), _, _, h => h
  | (.inr s), _, _, h => h
def z35p7S : St := ⟨[], [], 0⟩
noncomputable def conversion_valid_p7 : Option (Bool) := (some true)
theorem z35p7ok {K : KT} (h : W (conversion_valid_p7) (rE z35R K)) : EvL Tryz.prog 58 (List.drop 5 z35i0) K (z35p7S) :=
  EvL.qE mixed [] [2] 5 2 (.nx (fun K => wK K .ret (z35R true)) (l0 h))
def z35p8S (l : (List GHeir)) : St := ⟨[sv 0 (sGHeir l), sv 10 (sGHeir l), sv 11 (i64 (l.length : Int)), sv 12 (i64 0)], [], 0⟩
noncomputable def conversion_valid_p8_g (l : (List GHeir)) (r : ((Unit) ⊕ (Unit))) : Option (Bool) := match r with | (.inl ()) => conversion_valid_p7 | (.inr ()) => (some false)
noncomputable def conversion_valid_p8 (l : (List GHeir)) : Option (Bool) := (fixL (conversion_valid_l1 l) 0).bind (conversion_valid_p8_g l)
theorem z35p8at : List.drop 4 z35i0 = .block 0 (.loop (inside (inside (nthI z35i0 4)))) :: List.drop 5 z35i0 := by kernel_rfl
theorem z35p8k (l : (List GHeir)) (K : KT) : ∀ r : ((Unit) ⊕ (Unit)), W (conversion_valid_p8_g l r) (rE z35R K) → z35l1E l r (wK (blockK 0 (thenK (EvL Tryz.prog 58 (List.drop 5 z35i0) K) K)))
  | (.inl ()), h => ⟨(z35p7S), (.refl _), (z35p7ok h)⟩
  | (.inr ()), h => ⟨(z35R false), (.refl _), h⟩
theorem z35p8ok {l : (List GHeir)} {K : KT} (h : W (conversion_valid_p8 l) (rE z35R K)) : EvL Tryz.prog 58 (List.drop 4 z35i0) K (z35p8S l) :=
  EvL.at_ z35p8at (EvL.cons_loop (EvOk.weak (EvOk.ent (.refl _) (EvOk.loopF (x := inside (inside (nthI z35i0 4))) (f := conversion_valid_l1 l) (emb := z35l1S l) (E := z35l1E l) (z35l1ok l) (z35l1Ethen l) (W_loop h (z35p8k l K))))))
def z35p9S (l : (List GHeir)) : St := ⟨[sv 0 (sGHeir l)], [], 0⟩
noncomputable def conversion_valid_p9 (l : (List GHeir)) : Option (Bool) := (bif (decide (12 < (l.length : Int))) then (some false) else (conversion_valid_p8 l))
theorem z35p9ok {l : (List GHeir)} {K : KT} (h : W (conversion_valid_p9 l) (rE z35R K)) : EvL Tryz.prog 58 (List.drop 0 z35i0) K (z35p9S l) :=
  EvL.qD mixed [] [0, 2, 10, 11, 12, 21, 22, 23, 33, 34, 35] 0 4 4 (.nx (fun K => (bif (decide (12 < (l.length : Int))) then wK K .ret (⟨[sv 0 (sGHeir l), sv 2 (bl false)], [], 0⟩) else wK K .normal (⟨[sv 0 (sGHeir l), sv 2 (bl false), sv 10 (sGHeir l), sv 11 (i64 (l.length : Int)), sv 12 (i64 0)], [], 0⟩))) (W_bif h (fun _ h => (lf h (.cn [2]))) (fun _ h => (lf (z35p8ok h) (.cn [0, 10, 11, 12])))))
noncomputable def conversion_valid (l : (List GHeir)) : Option (Bool) := conversion_valid_p9 l
noncomputable def conversion_valid_C : Con := con1 uGHeir conversion_valid false conversion_valid_out
theorem conversion_valid_ok : Meets Tryz.prog 35 conversion_valid_C := meets1 Tryz.f35 (bodyOf Tryz.f35) [.tmp 2] 58 fun u0 y h => @z35p9ok u0 _ (W_iff.2 ⟨y, h, (rtI (bl y) (VLe.rfl' _))⟩)
noncomputable abbrev e35 : FE Tryz.prog := ⟨35, .pure conversion_valid_C, conversion_valid_ok⟩

noncomputable def z36i0 : List Code := items (bodyOf Tryz.f36)
noncomputable def z36i1 : List Code := items (inside (inside (nthI z36i0 2)))
def conversion_points_out (x_1 : (Int × Int)) : Out := .data (.tup [(i64 x_1.1), (i64 x_1.2)])
def z36R (x_1 : (Int × Int)) : St := ⟨[sv 2 (i64 x_1.1), sv 3 (i64 x_1.2)], [], 0⟩
def z36l1S (l : (List GHeir)) (s : (Int × Int × Int)) : St := match s with | (sum_1, days_1, t8) => ⟨[sv 2 (i64 sum_1), sv 3 (i64 days_1), sv 6 (sGHeir l), sv 7 (i64 (l.length : Int)), sv 8 (i64 t8)], [], 0⟩
def z36l1C0 (l : (List GHeir)) (s : Int × Int) : St := match s with | (sum_2, days_2) => ⟨[sv 2 (i64 sum_2), sv 3 (i64 days_2)], [], 0⟩
def z36l1E (l : (List GHeir)) (r : ((Int × Int))) (K : KT) : Prop := match r with | s => K (.exit 0) (z36l1C0 l s)
def z36p0S (sum days : Int) (l : (List GHeir)) (t8_1 : Int) : St := ⟨[sv 2 (i64 sum), sv 3 (i64 days), sv 6 (sGHeir l), sv 7 (i64 (l.length : Int)), sv 8 (i64 t8_1)], [], 0⟩
noncomputable def conversion_points_p0 (sum days : Int) (l : (List GHeir)) (t8_1 : Int) : Option ((Int × Int × Int) ⊕ ((Int × Int))) := (some (Sum.inl (sum, days, (w64 (t8_1 + 1)))))
theorem z36p0ok {sum days : Int} {l : (List GHeir)} {t8_1 : Int} {K : KT} (h : W (conversion_points_p0 sum days l t8_1) (nE (z36l1S l) (z36l1E l) K)) : EvL Tryz.prog 35 (List.drop 3 z36i1) K (z36p0S sum days l t8_1) :=
  EvL.qE mixed [] [2, 3, 6, 7, 8] 3 1 (.nx (fun K => wK K .normal (z36l1S l (sum, days, (w64 (t8_1 + 1))))) (l0 h))
def z36p1S (sum_1 days_1 : Int) (l : (List GHeir)) (t8 : Int) : St := ⟨[sv 2 (i64 sum_1), sv 3 (i64 days_1), sv 6 (sGHeir l), sv 7 (i64 (l.length : Int)), sv 8 (i64 t8)], [], 0⟩
noncomputable def conversion_points_p1 (sum_1 days_1 : Int) (l : (List GHeir)) (t8 : Int) : Option ((Int × Int × Int) ⊕ ((Int × Int))) := (bif (decide (t8 < (l.length : Int))) then gd (0 ≤ t8 ∧ t8 < (l.length : Int)) ((bif ((l.getD (Int.toNat t8) zGHeir).Kind == 1) then (conversion_points_p0 sum_1 (w64 (days_1 + (l.getD (Int.toNat t8) zGHeir).Days)) l t8) else (bif ((l.getD (Int.toNat t8) zGHeir).Kind == 2) then (conversion_points_p0 (w64 (sum_1 + 20)) days_1 l t8) else (bif ((l.getD (Int.toNat t8) zGHeir).Kind == 3) then (conversion_points_p0 (w64 (sum_1 + 30)) days_1 l t8) else (conversion_points_p0 sum_1 days_1 l t8))))) else (some (Sum.inr (sum_1, days_1))))
theorem z36p1ok {sum_1 days_1 : Int} {l : (List GHeir)} {t8 : Int} {K : KT} (h : W (conversion_points_p1 sum_1 days_1 l t8) (nE (z36l1S l) (z36l1E l) K)) : EvL Tryz.prog 35 (List.drop 0 z36i1) K (z36p1S sum_1 days_1 l t8) :=
  EvL.qD mixed [] [2, 3, 6, 7, 8] 0 3 3 (.nx (fun K => let a1_ := l.getD (Int.toNat t8) zGHeir; (bif (decide (t8 < (l.length : Int))) then (0 ≤ t8) ∧ (t8 < (l.length : Int)) ∧ ((bif (a1_.Kind == 1) then wK K .normal (z36p0S sum_1 (w64 (days_1 + a1_.Days)) l t8) else (bif (a1_.Kind == 2) then wK K .normal (z36p0S (w64 (sum_1 + 20)) days_1 l t8) else (bif (a1_.Kind == 3) then wK K .normal (z36p0S (w64 (sum_1 + 30)) days_1 l t8) else wK K .normal (z36p0S sum_1 days_1 l t8))))) else wK K (.exit 0) (⟨[sv 2 (i64 sum_1), sv 3 (i64 days_1), sv 6 (sGHeir l), sv 7 (i64 (l.length : Int)), sv 8 (i64 t8)], [], 0⟩))) (W_bif h (fun _ h => (W_gd2 h fun _ h => (W_bif h (fun _ h => (l0 (z36p0ok h))) (fun _ h => (W_bif h (fun _ h => (l0 (z36p0ok h))) (fun _ h => (W_bif h (fun _ h => (l0 (z36p0ok h))) (fun _ h => (l0 (z36p0ok h)))))))))) (fun _ h => (lf h (.cn [2, 3])))))
noncomputable def conversion_points_l1 (l : (List GHeir)) (s : (Int × Int × Int)) : Option ((Int × Int × Int) ⊕ ((Int × Int))) := match s with | (sum_1, days_1, t8) => conversion_points_p1 sum_1 days_1 l t8
theorem z36l1ok (l : (List GHeir)) (s : (Int × Int × Int)) : Pp Tryz.prog 35 (List.drop 0 z36i1) (z36l1S l s) (conversion_points_l1 l s) (nextE (z36l1S l) (z36l1E l)) := fun K h => match s, h with | (sum_1, days_1, t8), h => (z36p1ok h)
theorem z36l1Ethen (l : (List GHeir)) : ∀ (r : ((Int × Int))) (J : St → Prop) (K : KT), z36l1E l r K → z36l1E l r (thenK J K)
  | s, _, _, h => h
def z36p2S (sum_3 days_3 : Int) : St := ⟨[sv 2 (i64 sum_3), sv 3 (i64 days_3)], [], 0⟩
noncomputable def conversion_points_p2 (sum_3 days_3 : Int) : Option ((Int × Int)) := (bif (decide (0 < days_3)) then (some ((w64 (sum_3 + 60)), days_3)) else (some (sum_3, days_3)))
theorem z36p2ok {sum_3 days_3 : Int} {K : KT} (h : W (conversion_points_p2 sum_3 days_3) (rE z36R K)) : EvL Tryz.prog 35 (List.drop 3 z36i0) K (z36p2S sum_3 days_3) :=
  EvL.qE mixed [] [2, 3] 3 4 (.nx (fun K => (bif (decide (0 < days_3)) then wK K .ret (z36R ((w64 (sum_3 + 60)), days_3)) else wK K .ret (z36R (sum_3, days_3)))) (W_bif h (fun _ h => (l0 h)) (fun _ h => (l0 h))))
def z36p3S (l : (List GHeir)) : St := ⟨[sv 2 (i64 0), sv 3 (i64 0), sv 6 (sGHeir l), sv 7 (i64 (l.length : Int)), sv 8 (i64 0)], [], 0⟩
noncomputable def conversion_points_p3_g (l : (List GHeir)) (r : ((Int × Int))) : Option ((Int × Int)) := match r with | (sum_2, days_2) => (conversion_points_p2 sum_2 days_2)
noncomputable def conversion_points_p3 (l : (List GHeir)) : Option ((Int × Int)) := (fixL (conversion_points_l1 l) (0, 0, 0)).bind (conversion_points_p3_g l)
theorem z36p3at : List.drop 2 z36i0 = .block 0 (.loop (inside (inside (nthI z36i0 2)))) :: List.drop 3 z36i0 := by kernel_rfl
theorem z36p3k (l : (List GHeir)) (K : KT) : ∀ r : ((Int × Int)), W (conversion_points_p3_g l r) (rE z36R K) → z36l1E l r (wK (blockK 0 (thenK (EvL Tryz.prog 35 (List.drop 3 z36i0) K) K)))
  | (sum_2, days_2), h => ⟨(z36p2S sum_2 days_2), (.refl _), (z36p2ok h)⟩
theorem z36p3ok {l : (List GHeir)} {K : KT} (h : W (conversion_points_p3 l) (rE z36R K)) : EvL Tryz.prog 35 (List.drop 2 z36i0) K (z36p3S l) :=
  EvL.at_ z36p3at (EvL.cons_loop (EvOk.weak (EvOk.ent (.refl _) (EvOk.loopF (x := inside (inside (nthI z36i0 2))) (f := conversion_points_l1 l) (emb := z36l1S l) (E := z36l1E l) (z36l1ok l) (z36l1Ethen l) (W_loop h (z36p3k l K))))))
def z36p4S (l : (List GHeir)) : St := ⟨[sv 0 (sGHeir l)], [], 0⟩
noncomputable def conversion_points_p4 (l : (List GHeir)) : Option ((Int × Int)) := (conversion_points_p3 l)
theorem z36p4ok {l : (List GHeir)} {K : KT} (h : W (conversion_points_p4 l) (rE z36R K)) : EvL Tryz.prog 35 (List.drop 0 z36i0) K (z36p4S l) :=
  EvL.qD mixed [] [2, 3, 6, 7, 8] 0 2 2 (.nx (fun K => wK K .normal (z36p3S l)) (l0 (z36p3ok h)))
noncomputable def conversion_points (l : (List GHeir)) : Option ((Int × Int)) := conversion_points_p4 l
noncomputable def conversion_points_C : Con := con1 uGHeir conversion_points ((0 : Int), (0 : Int)) conversion_points_out
theorem conversion_points_ok : Meets Tryz.prog 36 conversion_points_C := meets1 Tryz.f36 (bodyOf Tryz.f36) [.tmp 2, .tmp 3] 35 fun u0 y h => @z36p4ok u0 _ (W_iff.2 ⟨y, h, (rtI (.tup [(i64 y.1), (i64 y.2)]) (VLe.tup (VLes.cons (VLe.rfl' _) (VLes.cons (VLe.rfl' _) (VLes.nil)))))⟩)
noncomputable abbrev e36 : FE Tryz.prog := ⟨36, .pure conversion_points_C, conversion_points_ok⟩

noncomputable def z61i0 : List Code := items (bodyOf Tryz.f61)
def rational_size_out (x_2 : Int) : Out := .data (.c (.lit (.int .u64 x_2)))
def z61R (x_2 : Int) : St := ⟨[sv 2 (.c (.lit (.int .u64 x_2)))], [], 0⟩
def z61p0S (x_1 : Int) : St := ⟨[sv 0 (i64 x_1)], [], 0⟩
noncomputable def rational_size_p0 (x_1 : Int) : Option (Int) := (bif (decide (x_1 < 0)) then (some (IntKind.u64.wrap (0 - (IntKind.u64.wrap x_1)))) else (some (IntKind.u64.wrap x_1)))
theorem z61p0ok {x_1 : Int} {K : KT} (h : W (rational_size_p0 x_1) (rE z61R K)) : EvL Tryz.prog 10 (List.drop 0 z61i0) K (z61p0S x_1) :=
  EvL.qE mixed [] [2] 0 5 (.nx (fun K => (bif (decide (x_1 < 0)) then wK K .ret (z61R (IntKind.u64.wrap (0 - (IntKind.u64.wrap x_1)))) else wK K .ret (z61R (IntKind.u64.wrap x_1)))) (W_bif h (fun _ h => (l0 h)) (fun _ h => (l0 h))))
noncomputable def rational_size (x_1 : Int) : Option (Int) := rational_size_p0 x_1
noncomputable def rational_size_C : Con := con1 (aI .i64) rational_size (0 : Int) rational_size_out
theorem rational_size_ok : Meets Tryz.prog 61 rational_size_C := meets1 Tryz.f61 (bodyOf Tryz.f61) [.tmp 2] 10 fun u0 y h => @z61p0ok u0 _ (W_iff.2 ⟨y, h, (rtI (.c (.lit (.int .u64 y))) (VLe.rfl' _))⟩)
noncomputable abbrev e61 : FE Tryz.prog := ⟨61, .pure rational_size_C, rational_size_ok⟩

noncomputable def z62i0 : List Code := items (bodyOf Tryz.f62)
noncomputable def z62i1 : List Code := items (inside (inside (nthI z62i0 1)))
def rational_gcd_out (x_1 : Int) : Out := .data (.c (.lit (.int .u64 x_1)))
def z62R (x_1 : Int) : St := ⟨[sv 4 (.c (.lit (.int .u64 x_1)))], [], 0⟩
def z62l1S (a b : Int) (s : (Int × Int)) : St := match s with | (a_1, b_1) => ⟨[sv 0 (.c (.lit (.int .u64 a_1))), sv 1 (.c (.lit (.int .u64 b_1)))], [], 0⟩
def z62l1C0 (a b : Int) (s : Int) : St := match s with | a_2 => ⟨[sv 0 (.c (.lit (.int .u64 a_2)))], [], 0⟩
def z62l1E (a b : Int) (r : ((Int))) (K : KT) : Prop := match r with | s => K (.exit 0) (z62l1C0 a b s)
def z62p0S (a_1 b_1 : Int) : St := ⟨[sv 0 (.c (.lit (.int .u64 a_1))), sv 1 (.c (.lit (.int .u64 b_1)))], [], 0⟩
noncomputable def rational_gcd_p0 (a_1 b_1 : Int) : Option ((Int × Int) ⊕ ((Int))) := (bif (b_1 != 0) then gd (b_1 ≠ 0) ((some (Sum.inl (b_1, (Int.tmod a_1 b_1))))) else (some (Sum.inr a_1)))
theorem z62p0ok {a_1 b_1 a b : Int} {K : KT} (h : W (rational_gcd_p0 a_1 b_1) (nE (z62l1S a b) (z62l1E a b) K)) : EvL Tryz.prog 12 (List.drop 0 z62i1) K (z62p0S a_1 b_1) :=
  EvL.qE mixed [] [0, 1] 0 3 (.nx (fun K => (bif (b_1 != 0) then (b_1 ≠ 0) ∧ (wK K .normal (z62l1S a b (b_1, (Int.tmod a_1 b_1)))) else wK K (.exit 0) (⟨[sv 0 (.c (.lit (.int .u64 a_1))), sv 1 (.c (.lit (.int .u64 b_1)))], [], 0⟩))) (W_bif h (fun _ h => (W_gd h fun _ h => (l0 h))) (fun _ h => (lf h (.cn [0])))))
noncomputable def rational_gcd_l1 (a b : Int) (s : (Int × Int)) : Option ((Int × Int) ⊕ ((Int))) := match s with | (a_1, b_1) => rational_gcd_p0 a_1 b_1
theorem z62l1ok (a b : Int) (s : (Int × Int)) : Pp Tryz.prog 12 (List.drop 0 z62i1) (z62l1S a b s) (rational_gcd_l1 a b s) (nextE (z62l1S a b) (z62l1E a b)) := fun K h => match s, h with | (a_1, b_1), h => (z62p0ok h)
theorem z62l1Ethen (a b : Int) : ∀ (r : ((Int))) (J : St → Prop) (K : KT), z62l1E a b r K → z62l1E a b r (thenK J K)
  | s, _, _, h => h
def z62p1S (a_3 : Int) : St := ⟨[sv 0 (.c (.lit (.int .u64 a_3)))], [], 0⟩
noncomputable def rational_gcd_p1 (a_3 : Int) : Option (Int) := (some a_3)
theorem z62p1ok {a_3 : Int} {K : KT} (h : W (rational_gcd_p1 a_3) (rE z62R K)) : EvL Tryz.prog 12 (List.drop 2 z62i0) K (z62p1S a_3) :=
  EvL.qE mixed [] [4] 2 2 (.nx (fun K => wK K .ret (z62R a_3)) (l0 h))
def z62p2S (a b : Int) : St := ⟨[sv 0 (.c (.lit (.int .u64 a))), sv 1 (.c (.lit (.int .u64 b)))], [], 0⟩
noncomputable def rational_gcd_p2_g (a b : Int) (r : ((Int))) : Option (Int) := match r with | a_2 => (rational_gcd_p1 a_2)
noncomputable def rational_gcd_p2 (a b : Int) : Option (Int) := (fixL (rational_gcd_l1 a b) (a, b)).bind (rational_gcd_p2_g a b)
theorem z62p2at : List.drop 1 z62i0 = .block 0 (.loop (inside (inside (nthI z62i0 1)))) :: List.drop 2 z62i0 := by kernel_rfl
theorem z62p2k (a b : Int) (K : KT) : ∀ r : ((Int)), W (rational_gcd_p2_g a b r) (rE z62R K) → z62l1E a b r (wK (blockK 0 (thenK (EvL Tryz.prog 12 (List.drop 2 z62i0) K) K)))
  | a_2, h => ⟨(z62p1S a_2), (.refl _), (z62p1ok h)⟩
theorem z62p2ok {a b : Int} {K : KT} (h : W (rational_gcd_p2 a b) (rE z62R K)) : EvL Tryz.prog 12 (List.drop 1 z62i0) K (z62p2S a b) :=
  EvL.at_ z62p2at (EvL.cons_loop (EvOk.weak (EvOk.ent (.refl _) (EvOk.loopF (x := inside (inside (nthI z62i0 1))) (f := rational_gcd_l1 a b) (emb := z62l1S a b) (E := z62l1E a b) (z62l1ok a b) (z62l1Ethen a b) (W_loop h (z62p2k a b K))))))
def z62p3S (a b : Int) : St := ⟨[sv 0 (.c (.lit (.int .u64 a))), sv 1 (.c (.lit (.int .u64 b)))], [], 0⟩
noncomputable def rational_gcd_p3 (a b : Int) : Option (Int) := (rational_gcd_p2 a b)
theorem z62p3ok {a b : Int} {K : KT} (h : W (rational_gcd_p3 a b) (rE z62R K)) : EvL Tryz.prog 12 (List.drop 0 z62i0) K (z62p3S a b) :=
  EvL.qD mixed [] [0, 1] 0 1 1 (.nx (fun K => wK K .normal (z62p2S a b)) (l0 (z62p2ok h)))
noncomputable def rational_gcd (a b : Int) : Option (Int) := rational_gcd_p3 a b
noncomputable def rational_gcd_C : Con := con2 (aI .u64) (aI .u64) rational_gcd (0 : Int) rational_gcd_out
theorem rational_gcd_ok : Meets Tryz.prog 62 rational_gcd_C := meets2 Tryz.f62 (bodyOf Tryz.f62) [.tmp 4] 12 fun u0 u1 y h => @z62p3ok u0 u1 _ (W_iff.2 ⟨y, h, (rtI (.c (.lit (.int .u64 y))) (VLe.rfl' _))⟩)
noncomputable abbrev e62 : FE Tryz.prog := ⟨62, .pure rational_gcd_C, rational_gcd_ok⟩

noncomputable def z63i0 : List Code := items (bodyOf Tryz.f63)
def rational_within_out (x_1 : (GFraction × Int)) : Out := .data (.tup [(.agg [(i64 x_1.1.Num), (i64 x_1.1.Den)]), (i64 x_1.2)])
def z63R (x_1 : (GFraction × Int)) : St := ⟨[sv 6 (.ptr 0 2 0 0), sv 7 (i64 x_1.2)], [(0, some (.box [(i64 x_1.1.Num), (i64 x_1.1.Den)]))], 1⟩
def z63p0S (negative : Bool) (num den : GRational_wide) : St := ⟨[sv 0 (bl negative), sv 1 (.ag (eGRational_wide num)), sv 2 (.ag (eGRational_wide den))], [], 0⟩
noncomputable def rational_within_p0 (negative : Bool) (num den : GRational_wide) : Option ((GFraction × Int)) := (bif (bif (bif (bif (num.hi != 0) then true else (decide (1000000000000000 < num.lo))) then true else (den.hi != 0)) then true else (decide (1000000000 < den.lo))) then (some ((GFraction.mk 0 0), 2)) else (bif negative then (some ((GFraction.mk (w64 (0 - (w64 num.lo))) (w64 den.lo)), 0)) else (some ((GFraction.mk (w64 num.lo) (w64 den.lo)), 0))))
theorem z63p0ok {negative : Bool} {num den : GRational_wide} {K : KT} (h : W (rational_within_p0 negative num den) (rE z63R K)) : EvL Tryz.prog 41 (List.drop 0 z63i0) K (z63p0S negative num den) :=
  EvL.qE mixed [] [6, 7] 0 8 (.nx (fun K => (bif (bif (bif (bif (num.hi != 0) then true else (decide (1000000000000000 < num.lo))) then true else (den.hi != 0)) then true else (decide (1000000000 < den.lo))) then wK K .ret (z63R ((GFraction.mk 0 0), 2)) else (bif negative then wK K .ret (z63R ((GFraction.mk (w64 (0 - (w64 num.lo))) (w64 den.lo)), 0)) else wK K .ret (z63R ((GFraction.mk (w64 num.lo) (w64 den.lo)), 0))))) (W_bif h (fun _ h => (l0 h)) (fun _ h => (W_bif h (fun _ h => (l0 h)) (fun _ h => (l0 h))))))
noncomputable def rational_within (negative : Bool) (num den : GRational_wide) : Option ((GFraction × Int)) := rational_within_p0 negative num den
noncomputable def rational_within_C : Con := con3 aB wGRational_wide wGRational_wide rational_within (zGFraction, (0 : Int)) rational_within_out
theorem rational_within_ok : Meets Tryz.prog 63 rational_within_C := meets3 Tryz.f63 (bodyOf Tryz.f63) [.cell 6 56, .tmp 7] 41 fun u0 u1 u2 y h => @z63p0ok u0 u1 u2 _ (W_iff.2 ⟨y, h, (rtI (.tup [(.agg [(i64 y.1.Num), (i64 y.1.Den)]), (i64 y.2)]) (VLe.tup (VLes.cons (VLe.rfl' _) (VLes.cons (VLe.rfl' _) (VLes.nil)))))⟩)
noncomputable abbrev e63 : FE Tryz.prog := ⟨63, .pure rational_within_C, rational_within_ok⟩

noncomputable def z37i0 : List Code := items (bodyOf Tryz.f37)
def rational_Make_out (x_1 : (GFraction × Int)) : Out := .data (.tup [(.agg [(i64 x_1.1.Num), (i64 x_1.1.Den)]), (i64 x_1.2)])
def z37R (x_1 : (GFraction × Int)) : St := ⟨[sv 4 (.ptr 0 2 0 0), sv 5 (i64 x_1.2)], [(0, some (.box [(i64 x_1.1.Num), (i64 x_1.1.Den)]))], 1⟩
def z37p0S (num den : Int) : St := ⟨[sv 0 (i64 num), sv 1 (i64 den)], [], 0⟩
noncomputable def rational_Make_p0 (num den : Int) : Option ((GFraction × Int)) := (bif (den == 0) then (some ((GFraction.mk 0 0), 3)) else (rational_size num).bind fun r_1 => ((rational_size den).bind fun r_2 => ((rational_gcd r_1 r_2).bind fun r_3 => (gd (r_3 ≠ 0) (gd (r_3 ≠ 0) ((rational_within (bif (!((decide (num < 0)) == (decide (den < 0)))) then (num != 0) else false) (GRational_wide.mk 0 (IntKind.u64.wrap (Int.tdiv r_1 r_3))) (GRational_wide.mk 0 (IntKind.u64.wrap (Int.tdiv r_2 r_3)))).bind fun r_4 => ((some (r_4.1, r_4.2)))))))))
theorem z37p0ok {num den : Int} {K : KT} (h : W (rational_Make_p0 num den) (rE z37R K)) : EvL Tryz.prog 39 (List.drop 0 z37i0) K (z37p0S num den) :=
  EvL.qE mixed [e61, e62, e63] [4, 5] 0 7 (.nx (fun K => let a2_ := rational_gcd ((rational_size num).getD 0) ((rational_size den).getD 0); let a1_ := rational_within (bif (!((decide (num < 0)) == (decide (den < 0)))) then (num != 0) else false) (GRational_wide.mk 0 (IntKind.u64.wrap (Int.tdiv ((rational_size num).getD 0) (a2_.getD 0)))) (GRational_wide.mk 0 (IntKind.u64.wrap (Int.tdiv ((rational_size den).getD 0) (a2_.getD 0)))); (bif (den == 0) then wK K .ret (z37R ((GFraction.mk 0 0), 3)) else ((rational_size num).isSome = true) ∧ ((rational_size den).isSome = true) ∧ ((a2_.isSome = true) ∧ (((a2_.getD 0) ≠ 0) ∧ ((a2_.getD 0) ≠ 0) ∧ (a1_.isSome = true) ∧ (wK K .ret (z37R ((a1_.getD (zGFraction, 0)).1, (a1_.getD (zGFraction, 0)).2))))))) (W_bif h (fun _ h => (l0 h)) (fun _ h => (W_bind 0 h fun _ h => (W_bind 0 h fun _ h => (W_bind 0 h fun _ h => (W_gd h fun _ h => (W_gd h fun _ h => (W_bind (zGFraction, 0) h fun _ h => (l0 h))))))))))
noncomputable def rational_Make (num den : Int) : Option ((GFraction × Int)) := rational_Make_p0 num den
noncomputable def rational_Make_C : Con := con2 (aI .i64) (aI .i64) rational_Make (zGFraction, (0 : Int)) rational_Make_out
theorem rational_Make_ok : Meets Tryz.prog 37 rational_Make_C := meets2 Tryz.f37 (bodyOf Tryz.f37) [.cell 4 56, .tmp 5] 39 fun u0 u1 y h => @z37p0ok u0 u1 _ (W_iff.2 ⟨y, h, (rtI (.tup [(.agg [(i64 y.1.Num), (i64 y.1.Den)]), (i64 y.2)]) (VLe.tup (VLes.cons (VLe.rfl' _) (VLes.cons (VLe.rfl' _) (VLes.nil)))))⟩)
noncomputable abbrev e37 : FE Tryz.prog := ⟨37, .pure rational_Make_C, rational_Make_ok⟩

noncomputable def z13i0 : List Code := items (bodyOf Tryz.f13)
noncomputable def z13i1 : List Code := items (inside (inside (nthI z13i0 7)))
def conversion_Shares_out (x_1 : ((List GFraction) × Int)) : Out := .new (.tup [(sGFraction x_1.1), (i64 x_1.2)])
def z13R (x_1 : ((List GFraction) × Int)) : St := ⟨[sv 2 (.row 0 2 0 x_1.1.length), sv 3 (i64 x_1.2)], [(rGFraction 0 56 x_1.1)], 1⟩
def z13l1S (days whole : Int) (l : (List GHeir)) (s : ((List GFraction) × Int)) : St := match s with | (out_1, t26) => ⟨[sv 5 (i64 days), sv 6 (i64 whole), sv 7 (.row 0 2 0 out_1.length), sv 24 (sGHeir l), sv 25 (i64 (l.length : Int)), sv 26 (i64 t26)], [(rGFraction 0 56 out_1)], 1⟩
def z13l1C0 (days whole : Int) (l : (List GHeir)) (s : (List GFraction)) : St := match s with | out_2 => ⟨[sv 7 (.row 0 2 0 out_2.length)], [(rGFraction 0 56 out_2)], 1⟩
def z13l1E (days whole : Int) (l : (List GHeir)) (r : (((List GFraction)))) (K : KT) : Prop := match r with | s => K (.exit 0) (z13l1C0 days whole l s)
def z13p0S (days whole : Int) (out_1 : (List GFraction)) (l : (List GHeir)) (t26 : Int) : St := ⟨[sv 5 (i64 days), sv 6 (i64 whole), sv 7 (.row 0 2 0 out_1.length), sv 24 (sGHeir l), sv 25 (i64 (l.length : Int)), sv 26 (i64 t26)], [(rGFraction 0 56 out_1)], 1⟩
noncomputable def conversion_Shares_p0 (days whole : Int) (out_1 : (List GFraction)) (l : (List GHeir)) (t26 : Int) : Option (((List GFraction) × Int) ⊕ (((List GFraction)))) := (bif (decide (t26 < (l.length : Int))) then gd (0 ≤ t26 ∧ t26 < (l.length : Int)) ((bif ((l.getD (Int.toNat t26) zGHeir).Kind == 1) then (rational_Make (w64 (60 * (l.getD (Int.toNat t26) zGHeir).Days)) (w64 (days * whole))).bind fun r_3 => (gd (capB (out_1.length + 1) 16) ((some (Sum.inl ((out_1 ++ ([r_3.1] : List GFraction)), (w64 (t26 + 1))))))) else (bif ((l.getD (Int.toNat t26) zGHeir).Kind == 3) then (rational_Make 30 whole).bind fun r_4 => (gd (capB (out_1.length + 1) 16) ((some (Sum.inl ((out_1 ++ ([r_4.1] : List GFraction)), (w64 (t26 + 1))))))) else (rational_Make 20 whole).bind fun r_5 => (gd (capB (out_1.length + 1) 16) ((some (Sum.inl ((out_1 ++ ([r_5.1] : List GFraction)), (w64 (t26 + 1)))))))))) else (some (Sum.inr out_1)))
theorem z13p0ok {days whole : Int} {out_1 : (List GFraction)} {l : (List GHeir)} {t26 : Int} {K : KT} (h : W (conversion_Shares_p0 days whole out_1 l t26) (nE (z13l1S days whole l) (z13l1E days whole l) K)) : EvL Tryz.prog 55 (List.drop 0 z13i1) K (z13p0S days whole out_1 l t26) :=
  EvL.qE mixed [e37] [5, 6, 7, 24, 25, 26] 0 4 (.nx (fun K => let a1_ := out_1.length + 1; let a2_ := l.getD (Int.toNat t26) zGHeir; let a3_ := i64 (l.length : Int); let a4_ := rational_Make (w64 (60 * a2_.Days)) (w64 (days * whole)); let a5_ := out_1.length = out_1.length; let a6_ := a1_ * 16 ≤ 140737488355328; let a7_ := a1_ ≤ 140737488355328; let a8_ := i64 (w64 (t26 + 1)); let a9_ := lGFraction out_1; (bif (decide (t26 < (l.length : Int))) then (0 ≤ t26) ∧ (t26 < (l.length : Int)) ∧ ((bif (a2_.Kind == 1) then (a4_.isSome = true) ∧ (a5_ ∧ a6_ ∧ a7_ ∧ (wK K .normal (⟨[sv 5 (i64 days), sv 6 (i64 whole), sv 7 (.row 0 2 0 a1_), sv 24 (sGHeir l), sv 25 a3_, sv 26 a8_], [(0, some (.row 56 2 a1_ (fun i => bif Nat.blt i out_1.length then a9_ i else (fun i => (litE 2 (eGFraction ((a4_.getD (zGFraction, 0)).1))) (0 + i)) (i - out_1.length))))], 1⟩))) else (bif (a2_.Kind == 3) then ((rational_Make 30 whole).isSome = true) ∧ (a5_ ∧ a6_ ∧ a7_ ∧ (wK K .normal (⟨[sv 5 (i64 days), sv 6 (i64 whole), sv 7 (.row 0 2 0 a1_), sv 24 (sGHeir l), sv 25 a3_, sv 26 a8_], [(0, some (.row 56 2 a1_ (fun i => bif Nat.blt i out_1.length then a9_ i else (fun i => (litE 2 (eGFraction (((rational_Make 30 whole).getD (zGFraction, 0)).1))) (0 + i)) (i - out_1.length))))], 1⟩))) else ((rational_Make 20 whole).isSome = true) ∧ (a5_ ∧ a6_ ∧ a7_ ∧ (wK K .normal (⟨[sv 5 (i64 days), sv 6 (i64 whole), sv 7 (.row 0 2 0 a1_), sv 24 (sGHeir l), sv 25 a3_, sv 26 a8_], [(0, some (.row 56 2 a1_ (fun i => bif Nat.blt i out_1.length then a9_ i else (fun i => (litE 2 (eGFraction (((rational_Make 20 whole).getD (zGFraction, 0)).1))) (0 + i)) (i - out_1.length))))], 1⟩)))))) else wK K (.exit 0) (⟨[sv 5 (i64 days), sv 6 (i64 whole), sv 7 (.row 0 2 0 out_1.length), sv 24 (sGHeir l), sv 25 a3_, sv 26 (i64 t26)], [(rGFraction 0 56 out_1)], 1⟩))) (W_bif h (fun _ h => (W_gd2 h fun _ h => (W_bif h (fun _ h => (W_bind (zGFraction, 0) h fun _ h => ⟨rfl, (W_gd2 h fun _ h => (lf h (.of (.q rfl (.q rfl (.cons rfl (.rown (len_app rfl rfl)) (.qs 3 .nil)))) (.row rfl (RowIs.app .b (RowIs.zero (RowIs.l1 (enc := eGFraction) (z := zGFraction) 2 (((rational_Make (w64 (60 * (l.getD (Int.toNat t26) zGHeir).Days)) (w64 (days * whole))).getD (zGFraction, 0)).1) rfl))) .nil rfl) rfl)))⟩)) (fun _ h => (W_bif h (fun _ h => (W_bind (zGFraction, 0) h fun _ h => ⟨rfl, (W_gd2 h fun _ h => (lf h (.of (.q rfl (.q rfl (.cons rfl (.rown (len_app rfl rfl)) (.qs 3 .nil)))) (.row rfl (RowIs.app .b (RowIs.zero (RowIs.l1 (enc := eGFraction) (z := zGFraction) 2 (((rational_Make 30 whole).getD (zGFraction, 0)).1) rfl))) .nil rfl) rfl)))⟩)) (fun _ h => (W_bind (zGFraction, 0) h fun _ h => ⟨rfl, (W_gd2 h fun _ h => (lf h (.of (.q rfl (.q rfl (.cons rfl (.rown (len_app rfl rfl)) (.qs 3 .nil)))) (.row rfl (RowIs.app .b (RowIs.zero (RowIs.l1 (enc := eGFraction) (z := zGFraction) 2 (((rational_Make 20 whole).getD (zGFraction, 0)).1) rfl))) .nil rfl) rfl)))⟩))))))) (fun _ h => (lf h (.cn [7])))))
noncomputable def conversion_Shares_l1 (days whole : Int) (l : (List GHeir)) (s : ((List GFraction) × Int)) : Option (((List GFraction) × Int) ⊕ (((List GFraction)))) := match s with | (out_1, t26) => conversion_Shares_p0 days whole out_1 l t26
theorem z13l1ok (days whole : Int) (l : (List GHeir)) (s : ((List GFraction) × Int)) : Pp Tryz.prog 55 (List.drop 0 z13i1) (z13l1S days whole l s) (conversion_Shares_l1 days whole l s) (nextE (z13l1S days whole l) (z13l1E days whole l)) := fun K h => match s, h with | (out_1, t26), h => (z13p0ok h)
theorem z13l1Ethen (days whole : Int) (l : (List GHeir)) : ∀ (r : (((List GFraction)))) (J : St → Prop) (K : KT), z13l1E days whole l r K → z13l1E days whole l r (thenK J K)
  | s, _, _, h => h
def z13p1S (out_3 : (List GFraction)) : St := ⟨[sv 7 (.row 0 2 0 out_3.length)], [(rGFraction 0 56 out_3)], 1⟩
noncomputable def conversion_Shares_p1 (out_3 : (List GFraction)) : Option (((List GFraction) × Int)) := (some (out_3, 0))
theorem z13p1ok {out_3 : (List GFraction)} {K : KT} (h : W (conversion_Shares_p1 out_3) (rE z13R K)) : EvL Tryz.prog 55 (List.drop 8 z13i0) K (z13p1S out_3) :=
  EvL.qE mixed [] [2, 3] 8 2 (.nx (fun K => wK K .ret (z13R (out_3, 0))) (l0 h))
def z13p2S (days whole : Int) (l : (List GHeir)) : St := ⟨[sv 5 (i64 days), sv 6 (i64 whole), sv 7 (.c .nil), sv 24 (sGHeir l), sv 25 (i64 (l.length : Int)), sv 26 (i64 0)], [], 0⟩
noncomputable def conversion_Shares_p2_g (days whole : Int) (l : (List GHeir)) (r : (((List GFraction)))) : Option (((List GFraction) × Int)) := match r with | out_2 => (conversion_Shares_p1 out_2)
noncomputable def conversion_Shares_p2 (days whole : Int) (l : (List GHeir)) : Option (((List GFraction) × Int)) := (fixL (conversion_Shares_l1 days whole l) (([] : List GFraction), 0)).bind (conversion_Shares_p2_g days whole l)
theorem z13p2at : List.drop 7 z13i0 = .block 0 (.loop (inside (inside (nthI z13i0 7)))) :: List.drop 8 z13i0 := by kernel_rfl
theorem z13p2k (days whole : Int) (l : (List GHeir)) (K : KT) : ∀ r : (((List GFraction))), W (conversion_Shares_p2_g days whole l r) (rE z13R K) → z13l1E days whole l r (wK (blockK 0 (thenK (EvL Tryz.prog 55 (List.drop 8 z13i0) K) K)))
  | out_2, h => ⟨(z13p1S out_2), (.refl _), (z13p1ok h)⟩
theorem z13p2ok {days whole : Int} {l : (List GHeir)} {K : KT} (h : W (conversion_Shares_p2 days whole l) (rE z13R K)) : EvL Tryz.prog 55 (List.drop 7 z13i0) K (z13p2S days whole l) :=
  EvL.at_ z13p2at (EvL.cons_loop (EvOk.weak (EvOk.ent (.trans (.nilrow 7 0 56 2 (lsEl eGFraction zGFraction []) (Nat.le_of_ble_eq_true rfl) rfl) (.cn [5, 6, 7, 24, 25, 26])) (EvOk.loopF (x := inside (inside (nthI z13i0 7))) (f := conversion_Shares_l1 days whole l) (emb := z13l1S days whole l) (E := z13l1E days whole l) (z13l1ok days whole l) (z13l1Ethen days whole l) (W_loop h (z13p2k days whole l K))))))
def z13p3S (l : (List GHeir)) : St := ⟨[sv 0 (sGHeir l)], [], 0⟩
noncomputable def conversion_Shares_p3 (l : (List GHeir)) : Option (((List GFraction) × Int)) := (conversion_valid l).bind fun r_1 => ((bif (!r_1) then (some (([] : List GFraction), 1)) else (conversion_points l).bind fun r_2 => ((conversion_Shares_p2 r_2.2 (if (100 : Int) < r_2.1 then r_2.1 else (100 : Int)) l))))
theorem z13p3nf (l : (List GHeir)) (K : KT) {L1_ : List GHeir} (hL1_ : lst dGHeir l.length (lGHeir l) = L1_) {L2_ : List GHeir} (hL2_ : lst dGHeir l.length (lGHeir l) = L2_) :
    ev Tryz.prog (lookF [e35, e36]) 55 (ofItems ((List.drop 0 z13i0).take 7)) (cN [2, 3, 5, 6, 7, 24, 25, 26] K) (z13p3S l) =
    (let a1_ := (conversion_points L2_).getD (0, 0); (kGHeir l) ∧ ((conversion_valid L1_).isSome = true) ∧ ((bif (!((conversion_valid L1_).getD false)) then wK K .ret (⟨[sv 2 (.c .nil), sv 3 (i64 1)], [], 0⟩) else (kGHeir l) ∧ ((conversion_points L2_).isSome = true) ∧ (wK K .normal (⟨[sv 2 (.c .nil), sv 3 (i64 0), sv 5 (i64 a1_.2), sv 6 (i64 (if (100 : Int) < a1_.1 then a1_.1 else (100 : Int))), sv 7 (.c .nil), sv 24 (sGHeir l), sv 25 (i64 (l.length : Int)), sv 26 (i64 0)], [], 0⟩))))) := by subst hL1_ hL2_; kernel_rfl
theorem z13p3ok {l : (List GHeir)} {K : KT} (h : W (conversion_Shares_p3 l) (rE z13R K)) : EvL Tryz.prog 55 (List.drop 0 z13i0) K (z13p3S l) :=
  EvL.qD mixed [e35, e36] [2, 3, 5, 6, 7, 24, 25, 26] 0 7 7 (.of (z13p3nf l _ (lb dGHeir_eGHeir) (lb dGHeir_eGHeir)) (⟨kb dGHeir_eGHeir, (W_bind false h fun _ h => (W_bif h (fun _ h => (lf h (.trans (.nilrow 2 0 56 2 (lsEl eGFraction zGFraction []) (Nat.le_of_ble_eq_true rfl) rfl) (.cn [2, 3])))) (fun _ h => ⟨kb dGHeir_eGHeir, (W_bind (0, 0) h fun _ h => (lf (z13p2ok h) (.cn [5, 6, 7, 24, 25, 26])))⟩)))⟩))
noncomputable def conversion_Shares (l : (List GHeir)) : Option (((List GFraction) × Int)) := conversion_Shares_p3 l
noncomputable def conversion_Shares_C : Con := con1 uGHeir conversion_Shares (([] : List GFraction), (0 : Int)) conversion_Shares_out
theorem conversion_Shares_ok : Meets Tryz.prog 13 conversion_Shares_C := meets1 Tryz.f13 (bodyOf Tryz.f13) [.tmp 2, .tmp 3] 55 fun u0 y h => @z13p3ok u0 _ (W_iff.2 ⟨y, h, (rtI (.tup [(.row 0 2 0 y.1.length), (i64 y.2)]) (⟨VLe.tup (VLes.cons (VLe.sl (RowIs.ls0 eGFraction zGFraction y.1)) (VLes.cons (VLe.rfl' _) (VLes.nil))), ⟨⟨_, _, _, rfl, fun i hi d hd => scal_GFraction _ d hd⟩, rfl, trivial⟩⟩))⟩)
noncomputable abbrev e13 : FE Tryz.prog := ⟨13, .pure conversion_Shares_C, conversion_Shares_ok⟩

end Go.Ax
