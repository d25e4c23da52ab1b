import Derived.Test.YtepnedfnpbakeaaA9
import Derived.Test.YtepnedfnpbakeaaLay
import Derived.Test.YtepnedfnpbakeaaA12
import Derived.Test.YtepnedfnpbakeaaRows
/- Types of the program, and functions of it: printed by a program, checked by the kernel. -/
set_option linter.all false
set_option maxRecDepth 100000
namespace Go.Ax
open Go.Proofs Go.Proofs.Ytepnedfnpbakeaa
theorem mixed : Try.prog.follows .mixedOrders = true := by kernel_rfl
theorem dI64_eI64 : DecOk eI64 dI64 := .flat (fun _ => rfl) fun _ => rfl
theorem scal_I64 (x : Int) (d : D) (h : d ∈ eI64 x) : d.scal = true := by
  simp only [eI64, List.mem_singleton] at h; subst h; rfl
theorem dU64_eU64 : DecOk eU64 dU64 := .flat (fun _ => rfl) fun _ => rfl
theorem scal_U64 (x : Int) (d : D) (h : d ∈ eU64 x) : d.scal = true := by
  simp only [eU64, List.mem_singleton] at h; subst h; rfl
theorem dU8_eU8 : DecOk eU8 dU8 := .flat (fun _ => rfl) fun _ => rfl
theorem scal_U8 (x : Int) (d : D) (h : d ∈ eU8 x) : d.scal = true := by
  simp only [eU8, List.mem_singleton] at h; subst h; rfl
theorem dI32_eI32 : DecOk eI32 dI32 := .flat (fun _ => rfl) fun _ => rfl
theorem scal_I32 (x : Int) (d : D) (h : d ∈ eI32 x) : d.scal = true := by
  simp only [eI32, List.mem_singleton] at h; subst h; rfl
theorem dU32_eU32 : DecOk eU32 dU32 := .flat (fun _ => rfl) fun _ => rfl
theorem scal_U32 (x : Int) (d : D) (h : d ∈ eU32 x) : d.scal = true := by
  simp only [eU32, List.mem_singleton] at h; subst h; rfl
theorem dU16_eU16 : DecOk eU16 dU16 := .flat (fun _ => rfl) fun _ => rfl
theorem scal_U16 (x : Int) (d : D) (h : d ∈ eU16 x) : d.scal = true := by
  simp only [eU16, List.mem_singleton] at h; subst h; rfl
theorem dI8_eI8 : DecOk eI8 dI8 := .flat (fun _ => rfl) fun _ => rfl
theorem scal_I8 (x : Int) (d : D) (h : d ∈ eI8 x) : d.scal = true := by
  simp only [eI8, List.mem_singleton] at h; subst h; rfl
theorem dI16_eI16 : DecOk eI16 dI16 := .flat (fun _ => rfl) fun _ => rfl
theorem scal_I16 (x : Int) (d : D) (h : d ∈ eI16 x) : d.scal = true := by
  simp only [eI16, List.mem_singleton] at h; subst h; rfl
theorem dBool_eBool : DecOk eBool dBool := .flat (fun _ => rfl) fun _ => rfl
theorem scal_Bool (x : Bool) (d : D) (h : d ∈ eBool x) : d.scal = true := by
  simp only [eBool, List.mem_singleton] at h; subst h; rfl
theorem dStr_eStr : DecOk eStr dStr := .flat (fun _ => rfl) fun _ => rfl
theorem scal_Str (x : ByteArray) (d : D) (h : d ∈ eStr x) : d.scal = true := by
  simp only [eStr, List.mem_singleton] at h; subst h; rfl
structure GCredit where
  Kind : Int
  Limit : Int
def zGCredit : GCredit := ⟨(0 : Int), (0 : Int)⟩
def eGCredit (x : GCredit) : List D := [(di x.Kind), (di x.Limit)]
def dGCredit : List D → GCredit
  | [.lit (.int .i64 a1), .lit (.int .i64 a2)] => (GCredit.mk a1 a2)
  | _ => zGCredit
theorem dGCredit_eGCredit : DecOk eGCredit dGCredit := .flat (fun _ => rfl) fun _ => rfl
theorem scal_GCredit (x : GCredit) (d : D) (h : d ∈ eGCredit x) : d.scal = true := by
  have : (eGCredit x).all D.scal = true := rfl
  exact List.all_eq_true.1 this d h
structure GSpan where
  From : Int
  To : Int
def zGSpan : GSpan := ⟨(0 : Int), (0 : Int)⟩
def GSpan.s_To (x : GSpan) (v : Int) : GSpan := ⟨x.From, v⟩
def eGSpan (x : GSpan) : List D := [(di x.From), (di x.To)]
def dGSpan : List D → GSpan
  | [.lit (.int .i64 a1), .lit (.int .i64 a2)] => (GSpan.mk a1 a2)
  | _ => zGSpan
theorem dGSpan_eGSpan : DecOk eGSpan dGSpan := .flat (fun _ => rfl) fun _ => rfl
theorem scal_GSpan (x : GSpan) (d : D) (h : d ∈ eGSpan x) : d.scal = true := by
  have : (eGSpan x).all D.scal = true := rfl
  exact List.all_eq_true.1 this d h
structure GFact where
  Issuer : Int
  Number : Int
  Version : Int
  Withdrawn : Bool
  Person : Int
  Kind : Int
  State : Int
  Span : GSpan
  Seat : Int
  Share : Int
  Currency : Int
  Amount : Int
  Ref : Int
def zGFact : GFact := ⟨(0 : Int), (0 : Int), (0 : Int), false, (0 : Int), (0 : Int), (0 : Int), zGSpan, (0 : Int), (0 : Int), (0 : Int), (0 : Int), (0 : Int)⟩
def eGFact (x : GFact) : List D := [(di x.Issuer), (di x.Number), (di x.Version), (db x.Withdrawn), (di x.Person), (di x.Kind), (di x.State), (di x.Span.From), (di x.Span.To), (di x.Seat), (di x.Share), (di x.Currency), (di x.Amount), (di x.Ref)]
def dGFact : List D → GFact
  | [.lit (.int .i64 a1), .lit (.int .i64 a2), .lit (.int .i64 a3), .lit (.bool a4), .lit (.int .i64 a5), .lit (.int .i64 a6), .lit (.int .i64 a7), .lit (.int .i64 a8), .lit (.int .i64 a9), .lit (.int .i64 a10), .lit (.int .i64 a11), .lit (.int .i64 a12), .lit (.int .i64 a13), .lit (.int .i64 a14)] => (GFact.mk a1 a2 a3 a4 a5 a6 a7 (GSpan.mk a8 a9) a10 a11 a12 a13 a14)
  | _ => zGFact
theorem dGFact_eGFact : DecOk eGFact dGFact := .flat (fun _ => rfl) fun _ => rfl
theorem scal_GFact (x : GFact) (d : D) (h : d ∈ eGFact x) : d.scal = true := by
  have : (eGFact x).all D.scal = true := rfl
  exact List.all_eq_true.1 this d h
structure GRounding where
  Mode : Int
  Unit : Int
def zGRounding : GRounding := ⟨(0 : Int), (0 : Int)⟩
def eGRounding (x : GRounding) : List D := [(di x.Mode), (di x.Unit)]
def dGRounding : List D → GRounding
  | [.lit (.int .i64 a1), .lit (.int .i64 a2)] => (GRounding.mk a1 a2)
  | _ => zGRounding
theorem dGRounding_eGRounding : DecOk eGRounding dGRounding := .flat (fun _ => rfl) fun _ => rfl
theorem scal_GRounding (x : GRounding) (d : D) (h : d ∈ eGRounding x) : d.scal = true := by
  have : (eGRounding x).all D.scal = true := rfl
  exact List.all_eq_true.1 this d h
structure GFraction where
  Num : Int
  Den : Int
def zGFraction : GFraction := ⟨(0 : Int), (0 : Int)⟩
def eGFraction (x : GFraction) : List D := [(di x.Num), (di x.Den)]
def dGFraction : List D → GFraction
  | [.lit (.int .i64 a1), .lit (.int .i64 a2)] => (GFraction.mk a1 a2)
  | _ => zGFraction
theorem dGFraction_eGFraction : DecOk eGFraction dGFraction := .flat (fun _ => rfl) fun _ => rfl
theorem scal_GFraction (x : GFraction) (d : D) (h : d ∈ eGFraction x) : d.scal = true := by
  have : (eGFraction x).all D.scal = true := rfl
  exact List.all_eq_true.1 this d h
structure GIndex where
  Year : Int
  Factor : GFraction
def zGIndex : GIndex := ⟨(0 : Int), zGFraction⟩
def eGIndex (x : GIndex) : List D := [(di x.Year), (di x.Factor.Num), (di x.Factor.Den)]
def dGIndex : List D → GIndex
  | [.lit (.int .i64 a1), .lit (.int .i64 a2), .lit (.int .i64 a3)] => (GIndex.mk a1 (GFraction.mk a2 a3))
  | _ => zGIndex
theorem dGIndex_eGIndex : DecOk eGIndex dGIndex := .flat (fun _ => rfl) fun _ => rfl
theorem scal_GIndex (x : GIndex) (d : D) (h : d ∈ eGIndex x) : d.scal = true := by
  have : (eGIndex x).all D.scal = true := rfl
  exact List.all_eq_true.1 this d h
structure GExpr where
  Op : Int
  Value : GFraction
  Dim : Int
  Name : ByteArray
  Args : Unit
def zGExpr : GExpr := ⟨(0 : Int), zGFraction, (0 : Int), (bstr []), ()⟩
def eGExpr (x : GExpr) : List D := [(di x.Op), (di x.Value.Num), (di x.Value.Den), (di x.Dim), (ds x.Name), .any]
def dGExpr : List D → GExpr
  | [.lit (.int .i64 a1), .lit (.int .i64 a2), .lit (.int .i64 a3), .lit (.int .i64 a4), .lit (.string a5), a6] => (GExpr.mk a1 (GFraction.mk a2 a3) a4 a5 ())
  | _ => zGExpr
theorem dGExpr_eGExpr : DecOk eGExpr dGExpr := by
  intro x ds h
  obtain ⟨d1, ds, rfl, h1, h⟩ := h.cons_inv
  obtain ⟨d2, ds, rfl, h2, h⟩ := h.cons_inv
  obtain ⟨d3, ds, rfl, h3, h⟩ := h.cons_inv
  obtain ⟨d4, ds, rfl, h4, h⟩ := h.cons_inv
  obtain ⟨d5, ds, rfl, h5, h⟩ := h.cons_inv
  obtain ⟨d6, ds, rfl, h6, h⟩ := h.cons_inv
  obtain rfl := h.nil_inv
  obtain rfl := h1.lit_inv rfl
  obtain rfl := h2.lit_inv rfl
  obtain rfl := h3.lit_inv rfl
  obtain rfl := h4.lit_inv rfl
  obtain rfl := h5.lit_inv rfl
  rfl
structure GLet where
  Name : ByteArray
  Body : GExpr
def zGLet : GLet := ⟨(bstr []), zGExpr⟩
def eGLet (x : GLet) : List D := [(ds x.Name), (di x.Body.Op), (di x.Body.Value.Num), (di x.Body.Value.Den), (di x.Body.Dim), (ds x.Body.Name), .any]
def dGLet : List D → GLet
  | [.lit (.string a1), .lit (.int .i64 a2), .lit (.int .i64 a3), .lit (.int .i64 a4), .lit (.int .i64 a5), .lit (.string a6), a7] => (GLet.mk a1 (GExpr.mk a2 (GFraction.mk a3 a4) a5 a6 ()))
  | _ => zGLet
theorem dGLet_eGLet : DecOk eGLet dGLet := by
  intro x ds h
  obtain ⟨d1, ds, rfl, h1, h⟩ := h.cons_inv
  obtain ⟨d2, ds, rfl, h2, h⟩ := h.cons_inv
  obtain ⟨d3, ds, rfl, h3, h⟩ := h.cons_inv
  obtain ⟨d4, ds, rfl, h4, h⟩ := h.cons_inv
  obtain ⟨d5, ds, rfl, h5, h⟩ := h.cons_inv
  obtain ⟨d6, ds, rfl, h6, h⟩ := h.cons_inv
  obtain ⟨d7, ds, rfl, h7, h⟩ := h.cons_inv
  obtain rfl := h.nil_inv
  obtain rfl := h1.lit_inv rfl
  obtain rfl := h2.lit_inv rfl
  obtain rfl := h3.lit_inv rfl
  obtain rfl := h4.lit_inv rfl
  obtain rfl := h5.lit_inv rfl
  obtain rfl := h6.lit_inv rfl
  rfl
structure GGrant where
  Benefit : Int
  If : GExpr
  Pay : GExpr
def zGGrant : GGrant := ⟨(0 : Int), zGExpr, zGExpr⟩
def eGGrant (x : GGrant) : List D := [(di x.Benefit), (di x.If.Op), (di x.If.Value.Num), (di x.If.Value.Den), (di x.If.Dim), (ds x.If.Name), .any, (di x.Pay.Op), (di x.Pay.Value.Num), (di x.Pay.Value.Den), (di x.Pay.Dim), (ds x.Pay.Name), .any]
def dGGrant : List D → GGrant
  | [.lit (.int .i64 a1), .lit (.int .i64 a2), .lit (.int .i64 a3), .lit (.int .i64 a4), .lit (.int .i64 a5), .lit (.string a6), a7, .lit (.int .i64 a8), .lit (.int .i64 a9), .lit (.int .i64 a10), .lit (.int .i64 a11), .lit (.string a12), a13] => (GGrant.mk a1 (GExpr.mk a2 (GFraction.mk a3 a4) a5 a6 ()) (GExpr.mk a8 (GFraction.mk a9 a10) a11 a12 ()))
  | _ => zGGrant
theorem dGGrant_eGGrant : DecOk eGGrant dGGrant := by
  intro x ds h
  obtain ⟨d1, ds, rfl, h1, h⟩ := h.cons_inv
  obtain ⟨d2, ds, rfl, h2, h⟩ := h.cons_inv
  obtain ⟨d3, ds, rfl, h3, h⟩ := h.cons_inv
  obtain ⟨d4, ds, rfl, h4, h⟩ := h.cons_inv
  obtain ⟨d5, ds, rfl, h5, h⟩ := h.cons_inv
  obtain ⟨d6, ds, rfl, h6, h⟩ := h.cons_inv
  obtain ⟨d7, ds, rfl, h7, h⟩ := h.cons_inv
  obtain ⟨d8, ds, rfl, h8, h⟩ := h.cons_inv
  obtain ⟨d9, ds, rfl, h9, h⟩ := h.cons_inv
  obtain ⟨d10, ds, rfl, h10, h⟩ := h.cons_inv
  obtain ⟨d11, ds, rfl, h11, h⟩ := h.cons_inv
  obtain ⟨d12, ds, rfl, h12, h⟩ := h.cons_inv
  obtain ⟨d13, ds, rfl, h13, h⟩ := h.cons_inv
  obtain rfl := h.nil_inv
  obtain rfl := h1.lit_inv rfl
  obtain rfl := h2.lit_inv rfl
  obtain rfl := h3.lit_inv rfl
  obtain rfl := h4.lit_inv rfl
  obtain rfl := h5.lit_inv rfl
  obtain rfl := h6.lit_inv rfl
  obtain rfl := h8.lit_inv rfl
  obtain rfl := h9.lit_inv rfl
  obtain rfl := h10.lit_inv rfl
  obtain rfl := h11.lit_inv rfl
  obtain rfl := h12.lit_inv rfl
  rfl
structure GReduce where
  Benefit : Int
  By : GExpr
def zGReduce : GReduce := ⟨(0 : Int), zGExpr⟩
def eGReduce (x : GReduce) : List D := [(di x.Benefit), (di x.By.Op), (di x.By.Value.Num), (di x.By.Value.Den), (di x.By.Dim), (ds x.By.Name), .any]
def dGReduce : List D → GReduce
  | [.lit (.int .i64 a1), .lit (.int .i64 a2), .lit (.int .i64 a3), .lit (.int .i64 a4), .lit (.int .i64 a5), .lit (.string a6), a7] => (GReduce.mk a1 (GExpr.mk a2 (GFraction.mk a3 a4) a5 a6 ()))
  | _ => zGReduce
theorem dGReduce_eGReduce : DecOk eGReduce dGReduce := by
  intro x ds h
  obtain ⟨d1, ds, rfl, h1, h⟩ := h.cons_inv
  obtain ⟨d2, ds, rfl, h2, h⟩ := h.cons_inv
  obtain ⟨d3, ds, rfl, h3, h⟩ := h.cons_inv
  obtain ⟨d4, ds, rfl, h4, h⟩ := h.cons_inv
  obtain ⟨d5, ds, rfl, h5, h⟩ := h.cons_inv
  obtain ⟨d6, ds, rfl, h6, h⟩ := h.cons_inv
  obtain ⟨d7, ds, rfl, h7, h⟩ := h.cons_inv
  obtain rfl := h.nil_inv
  obtain rfl := h1.lit_inv rfl
  obtain rfl := h2.lit_inv rfl
  obtain rfl := h3.lit_inv rfl
  obtain rfl := h4.lit_inv rfl
  obtain rfl := h5.lit_inv rfl
  obtain rfl := h6.lit_inv rfl
  rfl
structure GVersion where
  From : Int
  Rounding : GRounding
  Credits : (List GCredit)
  Series : (List GIndex)
  Lets : (List GLet)
  Grants : (List GGrant)
  Reduces : (List GReduce)
def zGVersion : GVersion := ⟨(0 : Int), zGRounding, ([] : List GCredit), ([] : List GIndex), ([] : List GLet), ([] : List GGrant), ([] : List GReduce)⟩
def eGVersion (x : GVersion) : List D := [(di x.From), (di x.Rounding.Mode), (di x.Rounding.Unit), (.sl 2 x.Credits.length (lsEl eGCredit zGCredit x.Credits)), (.sl 3 x.Series.length (lsEl eGIndex zGIndex x.Series)), (.sl 7 x.Lets.length (lsEl eGLet zGLet x.Lets)), (.sl 13 x.Grants.length (lsEl eGGrant zGGrant x.Grants)), (.sl 7 x.Reduces.length (lsEl eGReduce zGReduce x.Reduces))]
def dGVersion : List D → GVersion
  | [.lit (.int .i64 a1), .lit (.int .i64 a2), .lit (.int .i64 a3), a4, a5, a6, a7, a8] => (GVersion.mk a1 (GRounding.mk a2 a3) (dLs dGCredit a4) (dLs dGIndex a5) (dLs dGLet a6) (dLs dGGrant a7) (dLs dGReduce a8))
  | _ => zGVersion
theorem dGVersion_eGVersion : DecOk eGVersion dGVersion := by
  intro x ds h
  obtain ⟨d1, ds, rfl, h1, h⟩ := h.cons_inv
  obtain ⟨d2, ds, rfl, h2, h⟩ := h.cons_inv
  obtain ⟨d3, ds, rfl, h3, h⟩ := h.cons_inv
  obtain ⟨d4, ds, rfl, h4, h⟩ := h.cons_inv
  obtain ⟨d5, ds, rfl, h5, h⟩ := h.cons_inv
  obtain ⟨d6, ds, rfl, h6, h⟩ := h.cons_inv
  obtain ⟨d7, ds, rfl, h7, h⟩ := h.cons_inv
  obtain ⟨d8, ds, rfl, h8, h⟩ := h.cons_inv
  obtain rfl := h.nil_inv
  obtain rfl := h1.lit_inv rfl
  obtain rfl := h2.lit_inv rfl
  obtain rfl := h3.lit_inv rfl
  simp only [dGVersion, dLs_ok dGCredit_eGCredit h4, dLs_ok dGIndex_eGIndex h5, dLs_ok dGLet_eGLet h6, dLs_ok dGGrant_eGGrant h7, dLs_ok dGReduce_eGReduce h8]
structure GScheme where
  State : Int
  Version : GVersion
def zGScheme : GScheme := ⟨(0 : Int), zGVersion⟩
def eGScheme (x : GScheme) : List D := [(di x.State), (di x.Version.From), (di x.Version.Rounding.Mode), (di x.Version.Rounding.Unit), (.sl 2 x.Version.Credits.length (lsEl eGCredit zGCredit x.Version.Credits)), (.sl 3 x.Version.Series.length (lsEl eGIndex zGIndex x.Version.Series)), (.sl 7 x.Version.Lets.length (lsEl eGLet zGLet x.Version.Lets)), (.sl 13 x.Version.Grants.length (lsEl eGGrant zGGrant x.Version.Grants)), (.sl 7 x.Version.Reduces.length (lsEl eGReduce zGReduce x.Version.Reduces))]
def dGScheme : List D → GScheme
  | [.lit (.int .i64 a1), .lit (.int .i64 a2), .lit (.int .i64 a3), .lit (.int .i64 a4), a5, a6, a7, a8, a9] => (GScheme.mk a1 (GVersion.mk a2 (GRounding.mk a3 a4) (dLs dGCredit a5) (dLs dGIndex a6) (dLs dGLet a7) (dLs dGGrant a8) (dLs dGReduce a9)))
  | _ => zGScheme
theorem dGScheme_eGScheme : DecOk eGScheme dGScheme := by
  intro x ds h
  obtain ⟨d1, ds, rfl, h1, h⟩ := h.cons_inv
  obtain ⟨d2, ds, rfl, h2, h⟩ := h.cons_inv
  obtain ⟨d3, ds, rfl, h3, h⟩ := h.cons_inv
  obtain ⟨d4, ds, rfl, h4, h⟩ := h.cons_inv
  obtain ⟨d5, ds, rfl, h5, h⟩ := h.cons_inv
  obtain ⟨d6, ds, rfl, h6, h⟩ := h.cons_inv
  obtain ⟨d7, ds, rfl, h7, h⟩ := h.cons_inv
  obtain ⟨d8, ds, rfl, h8, h⟩ := h.cons_inv
  obtain ⟨d9, ds, rfl, h9, h⟩ := h.cons_inv
  obtain rfl := h.nil_inv
  obtain rfl := h1.lit_inv rfl
  obtain rfl := h2.lit_inv rfl
  obtain rfl := h3.lit_inv rfl
  obtain rfl := h4.lit_inv rfl
  simp only [dGScheme, dLs_ok dGCredit_eGCredit h5, dLs_ok dGIndex_eGIndex h6, dLs_ok dGLet_eGLet h7, dLs_ok dGGrant_eGGrant h8, dLs_ok dGReduce_eGReduce h9]
structure GSegment where
  Span : GSpan
  State : Int
  Rule : Int
def zGSegment : GSegment := ⟨zGSpan, (0 : Int), (0 : Int)⟩
def eGSegment (x : GSegment) : List D := [(di x.Span.From), (di x.Span.To), (di x.State), (di x.Rule)]
def dGSegment : List D → GSegment
  | [.lit (.int .i64 a1), .lit (.int .i64 a2), .lit (.int .i64 a3), .lit (.int .i64 a4)] => (GSegment.mk (GSpan.mk a1 a2) a3 a4)
  | _ => zGSegment
theorem dGSegment_eGSegment : DecOk eGSegment dGSegment := .flat (fun _ => rfl) fun _ => rfl
theorem scal_GSegment (x : GSegment) (d : D) (h : d ∈ eGSegment x) : d.scal = true := by
  have : (eGSegment x).all D.scal = true := rfl
  exact List.all_eq_true.1 this d h
structure GPeriod where
  State : Int
  Rank : Int
  Span : GSpan
def zGPeriod : GPeriod := ⟨(0 : Int), (0 : Int), zGSpan⟩
def eGPeriod (x : GPeriod) : List D := [(di x.State), (di x.Rank), (di x.Span.From), (di x.Span.To)]
def dGPeriod : List D → GPeriod
  | [.lit (.int .i64 a1), .lit (.int .i64 a2), .lit (.int .i64 a3), .lit (.int .i64 a4)] => (GPeriod.mk a1 a2 (GSpan.mk a3 a4))
  | _ => zGPeriod
theorem dGPeriod_eGPeriod : DecOk eGPeriod dGPeriod := .flat (fun _ => rfl) fun _ => rfl
theorem scal_GPeriod (x : GPeriod) (d : D) (h : d ∈ eGPeriod x) : d.scal = true := by
  have : (eGPeriod x).all D.scal = true := rfl
  exact List.all_eq_true.1 this d h
structure GAnon57 where
  kind : Int
  rank : Int
def zGAnon57 : GAnon57 := ⟨(0 : Int), (0 : Int)⟩
def eGAnon57 (x : GAnon57) : List D := [(di x.kind), (di x.rank)]
def dGAnon57 : List D → GAnon57
  | [.lit (.int .i64 a1), .lit (.int .i64 a2)] => (GAnon57.mk a1 a2)
  | _ => zGAnon57
theorem dGAnon57_eGAnon57 : DecOk eGAnon57 dGAnon57 := .flat (fun _ => rfl) fun _ => rfl
theorem scal_GAnon57 (x : GAnon57) (d : D) (h : d ∈ eGAnon57 x) : d.scal = true := by
  have : (eGAnon57 x).all D.scal = true := rfl
  exact List.all_eq_true.1 this d h
abbrev lI64 (l : List Int) : Nat → List D := lsEl eI64 (0 : Int) l
abbrev rI64 (o t : Nat) (l : List Int) : Nat × Option Ob := (o, some (.row t 1 l.length (lsEl eI64 (0 : Int) l)))
abbrev kI64 (l : List Int) : Prop := LstOk eI64 dI64 1 1 l.length (lsEl eI64 (0 : Int) l)
abbrev lGCredit (l : List GCredit) : Nat → List D := lsEl eGCredit zGCredit l
abbrev sGCredit (l : List GCredit) : V := .c (.sl 2 l.length (lsEl eGCredit zGCredit l))
abbrev kGCredit (l : List GCredit) : Prop := LstOk eGCredit dGCredit 2 2 l.length (lsEl eGCredit zGCredit l)
abbrev lGSpan (l : List GSpan) : Nat → List D := lsEl eGSpan zGSpan l
abbrev sGSpan (l : List GSpan) : V := .c (.sl 2 l.length (lsEl eGSpan zGSpan l))
abbrev rGSpan (o t : Nat) (l : List GSpan) : Nat × Option Ob := (o, some (.row t 2 l.length (lsEl eGSpan zGSpan l)))
abbrev kGSpan (l : List GSpan) : Prop := LstOk eGSpan dGSpan 2 2 l.length (lsEl eGSpan zGSpan l)
abbrev uGSpan : AC (List GSpan) := aL eGSpan dGSpan zGSpan 2
def fGSpan : List D → Bool
  | [.lit (.int .i64 _), .lit (.int .i64 _)] => true
  | _ => false
theorem feGSpan (ds : List D) (h : fGSpan ds = true) : eGSpan (dGSpan ds) = ds := by
  unfold fGSpan at h
  split at h
  · rfl
  · cases h
abbrev wGSpan : AC GSpan := aG fGSpan eGSpan dGSpan feGSpan
abbrev lGFact (l : List GFact) : Nat → List D := lsEl eGFact zGFact l
abbrev sGFact (l : List GFact) : V := .c (.sl 14 l.length (lsEl eGFact zGFact l))
abbrev rGFact (o t : Nat) (l : List GFact) : Nat × Option Ob := (o, some (.row t 14 l.length (lsEl eGFact zGFact l)))
abbrev kGFact (l : List GFact) : Prop := LstOk eGFact dGFact 14 14 l.length (lsEl eGFact zGFact l)
abbrev uGFact : AC (List GFact) := aL eGFact dGFact zGFact 14
def fGFact : List D → Bool
  | [.lit (.int .i64 _), .lit (.int .i64 _), .lit (.int .i64 _), .lit (.bool _), .lit (.int .i64 _), .lit (.int .i64 _), .lit (.int .i64 _), .lit (.int .i64 _), .lit (.int .i64 _), .lit (.int .i64 _), .lit (.int .i64 _), .lit (.int .i64 _), .lit (.int .i64 _), .lit (.int .i64 _)] => true
  | _ => false
theorem feGFact (ds : List D) (h : fGFact ds = true) : eGFact (dGFact ds) = ds := by
  unfold fGFact at h
  split at h
  · rfl
  · cases h
abbrev wGFact : AC GFact := aG fGFact eGFact dGFact feGFact
abbrev lGIndex (l : List GIndex) : Nat → List D := lsEl eGIndex zGIndex l
abbrev sGIndex (l : List GIndex) : V := .c (.sl 3 l.length (lsEl eGIndex zGIndex l))
abbrev kGIndex (l : List GIndex) : Prop := LstOk eGIndex dGIndex 3 3 l.length (lsEl eGIndex zGIndex l)
abbrev lGLet (l : List GLet) : Nat → List D := lsEl eGLet zGLet l
abbrev sGLet (l : List GLet) : V := .c (.sl 7 l.length (lsEl eGLet zGLet l))
abbrev kGLet (l : List GLet) : Prop := LstOk eGLet dGLet 7 7 l.length (lsEl eGLet zGLet l)
abbrev lGGrant (l : List GGrant) : Nat → List D := lsEl eGGrant zGGrant l
abbrev sGGrant (l : List GGrant) : V := .c (.sl 13 l.length (lsEl eGGrant zGGrant l))
abbrev kGGrant (l : List GGrant) : Prop := LstOk eGGrant dGGrant 13 13 l.length (lsEl eGGrant zGGrant l)
abbrev lGReduce (l : List GReduce) : Nat → List D := lsEl eGReduce zGReduce l
abbrev sGReduce (l : List GReduce) : V := .c (.sl 7 l.length (lsEl eGReduce zGReduce l))
abbrev kGReduce (l : List GReduce) : Prop := LstOk eGReduce dGReduce 7 7 l.length (lsEl eGReduce zGReduce l)
abbrev sGScheme (l : List GScheme) : V := .c (.sl 9 l.length (lsEl eGScheme zGScheme l))
abbrev uGScheme : AC (List GScheme) := aL eGScheme dGScheme zGScheme 9
abbrev lGSegment (l : List GSegment) : Nat → List D := lsEl eGSegment zGSegment l
abbrev sGSegment (l : List GSegment) : V := .c (.sl 4 l.length (lsEl eGSegment zGSegment l))
abbrev kGSegment (l : List GSegment) : Prop := LstOk eGSegment dGSegment 4 4 l.length (lsEl eGSegment zGSegment l)
abbrev uGSegment : AC (List GSegment) := aL eGSegment dGSegment zGSegment 4
abbrev lGPeriod (l : List GPeriod) : Nat → List D := lsEl eGPeriod zGPeriod l
abbrev sGPeriod (l : List GPeriod) : V := .c (.sl 4 l.length (lsEl eGPeriod zGPeriod l))
abbrev rGPeriod (o t : Nat) (l : List GPeriod) : Nat × Option Ob := (o, some (.row t 4 l.length (lsEl eGPeriod zGPeriod l)))
abbrev kGPeriod (l : List GPeriod) : Prop := LstOk eGPeriod dGPeriod 4 4 l.length (lsEl eGPeriod zGPeriod l)
abbrev uGPeriod : AC (List GPeriod) := aL eGPeriod dGPeriod zGPeriod 4
abbrev rGAnon57 (o t : Nat) (l : List GAnon57) : Nat × Option Ob := (o, some (.row t 2 l.length (lsEl eGAnon57 zGAnon57 l)))
def eLeGSpan (x : (List GSpan)) : List D := [(.sl 2 x.length (lsEl eGSpan zGSpan x))]
def dLeGSpan : List D → (List GSpan)
  | [d] => dLs dGSpan d
  | _ => []
theorem dLeGSpan_eLeGSpan : DecOk eLeGSpan dLeGSpan := by
  intro x ds h
  obtain ⟨d, ds, rfl, h1, h⟩ := h.cons_inv
  obtain rfl := h.nil_inv
  exact dLs_ok dGSpan_eGSpan h1
abbrev sLeGSpan (l : List (List GSpan)) : V := .c (.sl 1 l.length (lsEl eLeGSpan ([] : List GSpan) l))
abbrev uLeGSpan : AC (List (List GSpan)) := aL eLeGSpan dLeGSpan ([] : List GSpan) 1

noncomputable def z5i0 : List Code := items (bodyOf Try.f5)
def made_Pick_out (x_1 : Int) : Out := .data (i64 x_1)
def z5R (x_1 : Int) : St := ⟨[sv 4 (i64 x_1)], [], 0⟩
def z5p0S (n k : Int) : St := ⟨[sv 0 (i64 n), sv 1 (i64 k)], [], 0⟩
noncomputable def made_Pick_p0 (n k : Int) : Option (Int) := (bif (decide (k < 1)) then (some 0) else gd (k ≠ 0) (gd (k ≠ 0) ((some (Int.tmod (w64 ((Int.tmod n k) + k)) k)))))
theorem z5p0ok {n k : Int} {K : KT} (h : W (made_Pick_p0 n k) (rE z5R K)) : EvL Try.prog 14 (List.drop 0 z5i0) K (z5p0S n k) :=
  EvL.qE mixed [] [4] 0 5 (.nx (fun K => (bif (decide (k < 1)) then wK K .ret (z5R 0) else (k ≠ 0) ∧ (k ≠ 0) ∧ (wK K .ret (z5R (Int.tmod (w64 ((Int.tmod n k) + k)) k))))) (W_bif h (fun _ h => (l0 h)) (fun _ h => (W_gd h fun _ h => (W_gd h fun _ h => (l0 h))))))
noncomputable def made_Pick (n k : Int) : Option (Int) := made_Pick_p0 n k
noncomputable def made_Pick_C : Con := con2 (aI .i64) (aI .i64) made_Pick (0 : Int) made_Pick_out
theorem made_Pick_ok : Meets Try.prog 5 made_Pick_C := meets2 Try.f5 (bodyOf Try.f5) [.tmp 4] 14 fun u0 u1 y h => @z5p0ok u0 u1 _ (W_iff.2 ⟨y, h, (rtI (i64 y) (VLe.rfl' _))⟩)
noncomputable abbrev e5 : FE Try.prog := ⟨5, .pure made_Pick_C, made_Pick_ok⟩

noncomputable def z23i0 : List Code := items (bodyOf Try.f23)
def spans_clamp_out (x_1 : GSpan) : Out := .data (.agg [(i64 x_1.From), (i64 x_1.To)])
def z23R (x_1 : GSpan) : St := ⟨[sv 2 (.ptr 0 2 0 0)], [(0, some (.box [(i64 x_1.From), (i64 x_1.To)]))], 1⟩
def z23p0S (s_1 : GSpan) : St := ⟨[sv 0 (.ag (eGSpan s_1))], [], 0⟩
noncomputable def spans_clamp_p0 (s_1 : GSpan) : Option (GSpan) := (some (GSpan.mk (if s_1.From < 0 then (0 : Int) else s_1.From) (if (73049 : Int) < s_1.To then (73049 : Int) else s_1.To)))
theorem z23p0ok {s_1 : GSpan} {K : KT} (h : W (spans_clamp_p0 s_1) (rE z23R K)) : EvL Try.prog 10 (List.drop 0 z23i0) K (z23p0S s_1) :=
  EvL.qE mixed [] [2] 0 3 (.nx (fun K => wK K .ret (z23R (GSpan.mk (if s_1.From < 0 then (0 : Int) else s_1.From) (if (73049 : Int) < s_1.To then (73049 : Int) else s_1.To)))) (l0 h))
noncomputable def spans_clamp (s_1 : GSpan) : Option (GSpan) := spans_clamp_p0 s_1
noncomputable def spans_clamp_C : Con := con1 wGSpan spans_clamp zGSpan spans_clamp_out
theorem spans_clamp_ok : Meets Try.prog 23 spans_clamp_C := meets1 Try.f23 (bodyOf Try.f23) [.cell 2 28] 10 fun u0 y h => @z23p0ok u0 _ (W_iff.2 ⟨y, h, (rtI (.agg [(i64 y.From), (i64 y.To)]) (VLe.rfl' _))⟩)
noncomputable abbrev e23 : FE Try.prog := ⟨23, .pure spans_clamp_C, spans_clamp_ok⟩


instance : Inhabited GSpan := ⟨zGSpan⟩
/-- Which of two stands first. -/
def sort_Slice_lt (a b : GSpan) : Bool := decide (a.From < b.From)
theorem sort_Slice_swo : Go.Sort.SWO sort_Slice_lt := ⟨fun x => by simp [sort_Slice_lt], fun x y z h1 h2 => by simp [sort_Slice_lt] at *; omega, fun x y z h1 h2 => by simp [sort_Slice_lt] at *; omega⟩
/-- An element's words. -/
def sort_Slice_enc (x : GSpan) : List Value := [.int .i64 x.From, .int .i64 x.To]
theorem sort_Slice_one (x : GSpan) (v : Value) (hv : v ∈ sort_Slice_enc x) : v.oneCell' = true := by
  unfold sort_Slice_enc at hv
  simp only [List.mem_cons, List.not_mem_nil, or_false] at hv
  rcases hv with rfl | rfl <;> rfl
/-- sort.Slice, in the order in which it leaves the list. -/
noncomputable def sort_Slice (l : List GSpan) : Option (List GSpan) := gd (l.length < 4611686018427387904) (some (sortL sort_Slice_lt l))
noncomputable def sort_Slice_C : Heap → Nat → List V → Option Res := sortC eGSpan dGSpan zGSpan 32 28 2 25 sort_Slice
section
open Go.Shelf Go.RowKit Go.Lib Go.Sort
set_option maxHeartbeats 2000000 in
theorem sort_Slice_walk (W : World) (blk off c Bs size : Nat) (G : Nat → Int) (hs : W.cell? ⟨Bs, 0, none⟩ = some (.slice (some ⟨blk, off, none⟩) size c))
    (hc : ∀ t, t < size → W.cell? ⟨blk, off + t * 2, none⟩ = some (.int .i64 (G t))) (i j : Nat) (hi : i < size) (hj : j < size) (_hsz : size < 4611686018427387904) :
    Calls Try.prog 25 #[.int .i64 i, .int .i64 j, .pointer (some ⟨Bs, 0, none⟩)] W fun e w' => e = .returned (.bool (decide (G i < G j))) ∧ ∃ q, w' = W.drewN q := by
  have ci := hc i hi
  have cj := hc j hj
  go_enter Try.func25, Try.ntmps25
  go_wp2
  go_quiet (fail)
  go_wp2
  go_ret
  exact ⟨rfl, nq, rfl⟩
theorem sort_Slice_less (W : World) (blk c Bs : Nat) (d : Array GSpan) (hH : HoldsK sort_Slice_enc 2 W blk 0 d) (hsz : d.size < 4611686018427387904) (hs : W.cell? ⟨Bs, 0, none⟩ = some (.slice (some ⟨blk, 0, none⟩) d.size c)) (i j : Nat) (hi : i < d.size) (hj : j < d.size) :
    Calls Try.prog 25 #[.int .i64 i, .int .i64 j, .pointer (some ⟨Bs, 0, none⟩)] W fun e w' => e = .returned (.bool (sort_Slice_lt d[i]! d[j]!)) ∧ ∃ q, w' = W.drewN q :=
  sort_Slice_walk W blk 0 c Bs d.size (fun t => d[t]!.From) hs (fun t ht => (hH.cell (i := t) (c := 0) ht (by omega)).1) i j hi hj hsz
noncomputable def sort_Slice_ti : TypeInfo := (Try.prog.info? 32).get (by kernel_rfl)
noncomputable def sort_Slice_ei : TypeInfo := (Try.prog.info? 28).get (by kernel_rfl)
theorem sort_Slice_run : SortRun Try.prog 24 32 25 2 sort_Slice_enc sort_Slice_lt := by
  have hp : sort_Slice_ei.hasPointers = false := by kernel_rfl
  have hb : sort_Slice_ei.bytes = 16 := by kernel_rfl
  exact sortRun_of (T := GSpan) (enc := sort_Slice_enc) (k := 2) (lt := sort_Slice_lt) (t := 32) (e := 28) (g := 25) (i := sort_Slice_ti) (ie := sort_Slice_ei) (s := 9) (f2 := 53) Try.sl (by kernel_rfl) (by kernel_rfl) (by kernel_rfl) (by kernel_rfl) (ke := 25) (fun _ => by kernel_rfl) (fun _ => rfl) (by kernel_rfl) (fun _ => by kernel_rfl) sort_Slice_one sort_Slice_swo
    (enters_of (c := bodyOf Try.f25) Try.func25 (by kernel_rfl) (by kernel_rfl)) (by kernel_rfl) (enters_of (c := bodyOf Try.f24) Try.func24 (by kernel_rfl) (by kernel_rfl)) (f0 := 45) (by kernel_rfl) (f1 := 46) (by kernel_rfl)
    (fun n h2 => by
      have c : (n == 0) = false := by simp; omega
      have d : (n == 1) = false := by simp; omega
      simp [Lib.swapperK, hp, hb, c, d]) (by kernel_rfl) (gS := false) (fun args W => run_callFunc_extern Try.func53 (by kernel_rfl) (by kernel_rfl) (by kernel_rfl) (e := Extern.ReflectliteSwapper.swap false) (by kernel_rfl) args W)
    sort_Slice_less
end
theorem sort_Slice_ok : MeetsC Try.prog 24 (.mut sort_Slice_C) :=
  sortC_meets sort_Slice_swo (by decide) (by kernel_rfl) (fun _ => rfl) (fun _ => rfl) sort_Slice_one (fun l x h => ⟨(gd_some.1 h).1, (Option.some.inj (gd_some.1 h).2).symm⟩) sort_Slice_run
noncomputable abbrev e24 : FE Try.prog := ⟨24, .mut sort_Slice_C, sort_Slice_ok⟩

noncomputable def z14i0 : List Code := items (bodyOf Try.f14)
noncomputable def z14i1 : List Code := items (inside (inside (nthI z14i0 3)))
noncomputable def z14i2 : List Code := items (inside (inside (nthI z14i0 7)))
def spans_Make_out (x_1 : (List GSpan)) : Out := .own true 28 2 (x_1).length (lsEl eGSpan zGSpan x_1)
def z14R (x_1 : (List GSpan)) : St := ⟨[sv 2 (.row 0 2 0 x_1.length)], [(rGSpan 0 28 x_1)], 1⟩
def z14l1S (l : (List GSpan)) (s : (Int × (List GSpan))) : St := match s with | (t12, sorted) => ⟨[sv 3 (.ptr 0 1 0 0), sv 10 (sGSpan l), sv 11 (i64 (l.length : Int)), sv 12 (i64 t12)], [(0, some (.box [(.row 1 2 0 sorted.length)])), (rGSpan 1 28 sorted)], 2⟩
def z14l1C0 (l : (List GSpan)) (s : (List GSpan)) : St := match s with | sorted_1 => ⟨[sv 3 (.ptr 0 1 0 0)], [(0, some (.box [(.row 1 2 0 sorted_1.length)])), (rGSpan 1 28 sorted_1)], 2⟩
def z14l1E (l : (List GSpan)) (r : (((List GSpan)))) (K : KT) : Prop := match r with | s => K (.exit 0) (z14l1C0 l s)
def z14p0S (l : (List GSpan)) (t12 : Int) (sorted : (List GSpan)) : St := ⟨[sv 3 (.ptr 0 1 0 0), sv 10 (sGSpan l), sv 11 (i64 (l.length : Int)), sv 12 (i64 t12)], [(0, some (.box [(.row 1 2 0 sorted.length)])), (rGSpan 1 28 sorted)], 2⟩
noncomputable def spans_Make_p0 (l : (List GSpan)) (t12 : Int) (sorted : (List GSpan)) : Option ((Int × (List GSpan)) ⊕ (((List GSpan)))) := (bif (decide (t12 < (l.length : Int))) then gd (0 ≤ t12 ∧ t12 < (l.length : Int)) ((spans_clamp (l.getD (Int.toNat t12) zGSpan)).bind fun r_1 => ((bif (decide (r_1.From < r_1.To)) then gd (capB (sorted.length + 1) 16) ((some (Sum.inl ((w64 (t12 + 1)), (sorted ++ ([r_1] : List GSpan)))))) else (some (Sum.inl ((w64 (t12 + 1)), sorted)))))) else (some (Sum.inr sorted)))
theorem z14p0ok {l : (List GSpan)} {t12 : Int} {sorted : (List GSpan)} {K : KT} (h : W (spans_Make_p0 l t12 sorted) (nE (z14l1S l) (z14l1E l) K)) : EvL Try.prog 73 (List.drop 0 z14i1) K (z14p0S l t12 sorted) :=
  EvL.qE mixed [e23] [3, 10, 11, 12, 43, 44, 45, 46, 47, 48, 49, 50, 51] 0 4 (.nx (fun K => let a1_ := spans_clamp (l.getD (Int.toNat t12) zGSpan); let a2_ := sorted.length + 1; (bif (decide (t12 < (l.length : Int))) then (0 ≤ t12) ∧ (t12 < (l.length : Int)) ∧ ((a1_.isSome = true) ∧ ((bif (decide ((a1_.getD zGSpan).From < (a1_.getD zGSpan).To)) then (sorted.length = sorted.length) ∧ (a2_ * 16 ≤ 140737488355328) ∧ (a2_ ≤ 140737488355328) ∧ (wK K .normal (⟨[sv 3 (.ptr 0 1 0 0), sv 10 (sGSpan l), sv 11 (i64 (l.length : Int)), sv 12 (i64 (w64 (t12 + 1)))], [(0, some (.box [(.row 1 2 0 a2_)])), (1, some (.row 28 2 a2_ (fun i => bif Nat.blt i sorted.length then (lGSpan sorted) i else (fun i => (litE 2 (eGSpan (a1_.getD zGSpan))) (0 + i)) (i - sorted.length))))], 2⟩)) else wK K .normal (z14l1S l ((w64 (t12 + 1)), sorted))))) else wK K (.exit 0) (⟨[sv 3 (.ptr 0 1 0 0), sv 10 (sGSpan l), sv 11 (i64 (l.length : Int)), sv 12 (i64 t12)], [(0, some (.box [(.row 1 2 0 sorted.length)])), (rGSpan 1 28 sorted)], 2⟩))) (W_bif h (fun _ h => (W_gd2 h fun _ h => (W_bind zGSpan h fun _ h => (W_bif h (fun _ h => ⟨rfl, (W_gd2 h fun _ h => (lf h (.of (.qs 4 .nil) (.box rfl (.cons (.rown (len_app rfl rfl)) .nil) (.row rfl (RowIs.app .b (RowIs.zero (RowIs.l1 (enc := eGSpan) (z := zGSpan) 2 ((spans_clamp (l.getD (Int.toNat t12) zGSpan)).getD zGSpan) rfl))) .nil rfl)) rfl)))⟩) (fun _ h => (l0 h)))))) (fun _ h => (lf h (.cn [3])))))
noncomputable def spans_Make_l1 (l : (List GSpan)) (s : (Int × (List GSpan))) : Option ((Int × (List GSpan)) ⊕ (((List GSpan)))) := match s with | (t12, sorted) => spans_Make_p0 l t12 sorted
theorem z14l1ok (l : (List GSpan)) (s : (Int × (List GSpan))) : Pp Try.prog 73 (List.drop 0 z14i1) (z14l1S l s) (spans_Make_l1 l s) (nextE (z14l1S l) (z14l1E l)) := fun K h => match s, h with | (t12, sorted), h => (z14p0ok h)
theorem z14l1Ethen (l : (List GSpan)) : ∀ (r : (((List GSpan)))) (J : St → Prop) (K : KT), z14l1E l r K → z14l1E l r (thenK J K)
  | s, _, _, h => h
def z14l2S (t32 : (List GSpan)) (t33 : Int) (s : ((List GSpan) × (List GSpan) × Int × Int)) : St := match s with | (out_1, t32_1, t33_1, t34) => ⟨[sv 6 (.row 0 2 0 out_1.length), sv 32 (.row 1 2 0 t32_1.length), sv 33 (i64 t33_1), sv 34 (i64 t34)], [(rGSpan 0 28 out_1), (rGSpan 1 28 t32_1)], 2⟩
def z14l2C0 (t32 : (List GSpan)) (t33 : Int) (s : (List GSpan)) : St := match s with | out_2 => ⟨[sv 6 (.row 0 2 0 out_2.length)], [(rGSpan 0 28 out_2)], 1⟩
def z14l2E (t32 : (List GSpan)) (t33 : Int) (r : (((List GSpan)))) (K : KT) : Prop := match r with | s => K (.exit 2) (z14l2C0 t32 t33 s)
def z14p1S (out_1 t32_1 : (List GSpan)) (t33_1 t34 : Int) : St := ⟨[sv 6 (.row 0 2 0 out_1.length), sv 32 (.row 1 2 0 t32_1.length), sv 33 (i64 t33_1), sv 34 (i64 t34)], [(rGSpan 0 28 out_1), (rGSpan 1 28 t32_1)], 2⟩
noncomputable def spans_Make_p1 (out_1 t32_1 : (List GSpan)) (t33_1 t34 : Int) : Option (((List GSpan) × (List GSpan) × Int × Int) ⊕ (((List GSpan)))) := (bif (decide (t34 < t33_1)) then gd (0 ≤ t34 ∧ t34 < (t32_1.length : Int)) (gd (((decide (0 < (out_1.length : Int))) && true) = true → 0 ≤ (w64 ((out_1.length : Int) - 1))) (gd (((decide (0 < (out_1.length : Int))) && true) = true → (w64 ((out_1.length : Int) - 1)) < (out_1.length : Int)) ((bif (bif (decide (0 < (out_1.length : Int))) then (decide ((t32_1.getD (0 + (Int.toNat t34)) zGSpan).From ≤ (out_1.getD (0 + (Int.toNat (w64 ((out_1.length : Int) - 1)))) zGSpan).To)) else false) then gd (0 ≤ (w64 ((out_1.length : Int) - 1)) ∧ (w64 ((out_1.length : Int) - 1)) < (out_1.length : Int)) (gd (0 ≤ (w64 ((out_1.length : Int) - 1)) ∧ (w64 ((out_1.length : Int) - 1)) < (out_1.length : Int)) ((some (Sum.inl ((out_1.set (0 + (Int.toNat (w64 ((out_1.length : Int) - 1)))) (GSpan.mk (out_1.getD (0 + (Int.toNat (w64 ((out_1.length : Int) - 1)))) zGSpan).From (if (out_1.getD (0 + (Int.toNat (w64 ((out_1.length : Int) - 1)))) zGSpan).To < (t32_1.getD (0 + (Int.toNat t34)) zGSpan).To then (t32_1.getD (0 + (Int.toNat t34)) zGSpan).To else (out_1.getD (0 + (Int.toNat (w64 ((out_1.length : Int) - 1)))) zGSpan).To))), t32_1, t33_1, (w64 (t34 + 1))))))) else gd (capB (out_1.length + 1) 16) ((some (Sum.inl ((out_1 ++ ([(t32_1.getD (0 + (Int.toNat t34)) zGSpan)] : List GSpan)), t32_1, t33_1, (w64 (t34 + 1)))))))))) else (some (Sum.inr out_1)))
theorem z14p1ok {out_1 t32_1 : (List GSpan)} {t33_1 t34 : Int} {t32 : (List GSpan)} {t33 : Int} {K : KT} (h : W (spans_Make_p1 out_1 t32_1 t33_1 t34) (nE (z14l2S t32 t33) (z14l2E t32 t33) K)) : EvL Try.prog 73 (List.drop 0 z14i2) K (z14p1S out_1 t32_1 t33_1 t34) :=
  EvL.qE mixed [] [6, 32, 33, 34, 43, 44, 45, 46, 47, 48, 49, 50, 51] 0 4 (.nx (fun K => let a4_ := (out_1.length : Int); let a1_ := w64 (a4_ - 1); let a2_ := t32_1.getD (0 + (Int.toNat t34)) zGSpan; let a3_ := out_1.getD (0 + (Int.toNat a1_)) zGSpan; let a5_ := out_1.length + 1; let a6_ := rGSpan 1 28 t32_1; let a7_ := decide (0 < a4_); (bif (decide (t34 < t33_1)) then (0 ≤ t34) ∧ (t34 < (t32_1.length : Int)) ∧ (((a7_ && true) = true → 0 ≤ a1_) ∧ ((a7_ && true) = true → a1_ < a4_) ∧ ((bif (bif a7_ then (decide (a2_.From ≤ a3_.To)) else false) then (0 ≤ a1_) ∧ (a1_ < a4_) ∧ (0 ≤ a1_) ∧ (a1_ < a4_) ∧ (wK K .normal (⟨[sv 6 (.row 0 2 0 out_1.length), sv 32 (.row 1 2 0 t32_1.length), sv 33 (i64 t33_1), sv 34 (i64 (w64 (t34 + 1))), un 43, un 44, un 45, un 46, un 47, un 48, un 49, un 50, un 51], [(0, some (.row 28 2 out_1.length (fun q => bif Nat.beq q (0 + (Int.toNat a1_)) then (eGSpan (GSpan.s_To a3_ (if a3_.To < a2_.To then a2_.To else a3_.To))) else (lGSpan out_1) q))), a6_], 2⟩)) else (out_1.length = out_1.length) ∧ (a5_ * 16 ≤ 140737488355328) ∧ (a5_ ≤ 140737488355328) ∧ (wK K .normal (⟨[sv 6 (.row 0 2 0 a5_), sv 32 (.row 1 2 0 t32_1.length), sv 33 (i64 t33_1), sv 34 (i64 (w64 (t34 + 1))), un 43, un 44, un 45, un 46, un 47, un 48, un 49, un 50, un 51], [(0, some (.row 28 2 a5_ (fun i => bif Nat.blt i out_1.length then (lGSpan out_1) i else (fun i => (litE 2 (eGSpan a2_)) (0 + i)) (i - out_1.length)))), a6_], 2⟩))))) else wK K (.exit 2) (⟨[sv 6 (.row 0 2 0 out_1.length), sv 32 (.row 1 2 0 t32_1.length), sv 33 (i64 t33_1), sv 34 (i64 t34)], [(rGSpan 0 28 out_1), a6_], 2⟩))) (W_bif h (fun _ h => (W_gd2 h fun _ h => (W_gd h fun _ h => (W_gd h fun _ h => (W_bif h (fun _ h => (W_gd2 h fun _ h => (W_gd2 h fun _ h => (lf h (.of (.cons rfl (.rown (len_set rfl)) (.qs 3 .nil)) (.row rfl (RowIs.set .b (0 + (Int.toNat (w64 ((out_1.length : Int) - 1)))) (GSpan.s_To (out_1.getD (0 + (Int.toNat (w64 ((out_1.length : Int) - 1)))) zGSpan) (if (out_1.getD (0 + (Int.toNat (w64 ((out_1.length : Int) - 1)))) zGSpan).To < (t32_1.getD (0 + (Int.toNat t34)) zGSpan).To then (t32_1.getD (0 + (Int.toNat t34)) zGSpan).To else (out_1.getD (0 + (Int.toNat (w64 ((out_1.length : Int) - 1)))) zGSpan).To)) rfl) (.same rfl .nil) rfl) rfl))))) (fun _ h => ⟨rfl, (W_gd2 h fun _ h => (lf h (.of (.cons rfl (.rown (len_app rfl rfl)) (.qs 3 .nil)) (.row rfl (RowIs.app .b (RowIs.zero (RowIs.l1 (enc := eGSpan) (z := zGSpan) 2 (t32_1.getD (0 + (Int.toNat t34)) zGSpan) rfl))) (.same rfl .nil) rfl) rfl)))⟩)))))) (fun _ h => (lf h (.cn [6])))))
noncomputable def spans_Make_l2 (t32 : (List GSpan)) (t33 : Int) (s : ((List GSpan) × (List GSpan) × Int × Int)) : Option (((List GSpan) × (List GSpan) × Int × Int) ⊕ (((List GSpan)))) := match s with | (out_1, t32_1, t33_1, t34) => spans_Make_p1 out_1 t32_1 t33_1 t34
theorem z14l2ok (t32 : (List GSpan)) (t33 : Int) (s : ((List GSpan) × (List GSpan) × Int × Int)) : Pp Try.prog 73 (List.drop 0 z14i2) (z14l2S t32 t33 s) (spans_Make_l2 t32 t33 s) (nextE (z14l2S t32 t33) (z14l2E t32 t33)) := fun K h => match s, h with | (out_1, t32_1, t33_1, t34), h => (z14p1ok h)
theorem z14l2Ethen (t32 : (List GSpan)) (t33 : Int) : ∀ (r : (((List GSpan)))) (J : St → Prop) (K : KT), z14l2E t32 t33 r K → z14l2E t32 t33 r (thenK J K)
  | s, _, _, h => h
def z14p2S (out_3 : (List GSpan)) : St := ⟨[sv 6 (.row 0 2 0 out_3.length)], [(rGSpan 0 28 out_3)], 1⟩
noncomputable def spans_Make_p2 (out_3 : (List GSpan)) : Option ((List GSpan)) := (some out_3)
theorem z14p2ok {out_3 : (List GSpan)} {K : KT} (h : W (spans_Make_p2 out_3) (rE z14R K)) : EvL Try.prog 73 (List.drop 8 z14i0) K (z14p2S out_3) :=
  EvL.qE mixed [] [2] 8 2 (.nx (fun K => wK K .ret (z14R out_3)) (l0 h))
def z14p3S (t32 : (List GSpan)) (t33 : Int) : St := ⟨[sv 6 (.c .nil), sv 32 (.row 0 2 0 t32.length), sv 33 (i64 t33), sv 34 (i64 0)], [(rGSpan 0 28 t32)], 1⟩
noncomputable def spans_Make_p3_g (t32 : (List GSpan)) (t33 : Int) (r : (((List GSpan)))) : Option ((List GSpan)) := match r with | out_2 => (spans_Make_p2 out_2)
noncomputable def spans_Make_p3 (t32 : (List GSpan)) (t33 : Int) : Option ((List GSpan)) := (fixL (spans_Make_l2 t32 t33) (([] : List GSpan), t32, t33, 0)).bind (spans_Make_p3_g t32 t33)
theorem z14p3at : List.drop 7 z14i0 = .block 2 (.loop (inside (inside (nthI z14i0 7)))) :: List.drop 8 z14i0 := by kernel_rfl
theorem z14p3k (t32 : (List GSpan)) (t33 : Int) (K : KT) : ∀ r : (((List GSpan))), W (spans_Make_p3_g t32 t33 r) (rE z14R K) → z14l2E t32 t33 r (wK (blockK 2 (thenK (EvL Try.prog 73 (List.drop 8 z14i0) K) K)))
  | out_2, h => ⟨(z14p2S out_2), (.refl _), (z14p2ok h)⟩
theorem z14p3ok {t32 : (List GSpan)} {t33 : Int} {K : KT} (h : W (spans_Make_p3 t32 t33) (rE z14R K)) : EvL Try.prog 73 (List.drop 7 z14i0) K (z14p3S t32 t33) :=
  EvL.at_ z14p3at (EvL.cons_loop (EvOk.weak (EvOk.ent (.trans (.nilrow 6 1 28 2 (lsEl eGSpan zGSpan []) (Nat.le_of_ble_eq_true rfl) rfl) (.cn [6, 32, 33, 34])) (EvOk.loopF (x := inside (inside (nthI z14i0 7))) (f := spans_Make_l2 t32 t33) (emb := z14l2S t32 t33) (E := z14l2E t32 t33) (z14l2ok t32 t33) (z14l2Ethen t32 t33) (W_loop h (z14p3k t32 t33 K))))))
def z14p4S (sorted_2 : (List GSpan)) : St := ⟨[sv 3 (.ptr 0 1 0 0)], [(0, some (.box [(.row 1 2 0 sorted_2.length)])), (rGSpan 1 28 sorted_2)], 2⟩
noncomputable def spans_Make_p4 (sorted_2 : (List GSpan)) : Option ((List GSpan)) := (sort_Slice sorted_2).bind fun r_2 => ((spans_Make_p3 r_2 (r_2.length : Int)))
theorem z14p4nf (sorted_2 : (List GSpan)) (K : KT) {L1_ : List GSpan} (hL1_ : lst dGSpan sorted_2.length (lGSpan sorted_2) = L1_) :
    ev Try.prog (lookF [e24]) 73 (ofItems ((List.drop 4 z14i0).take 3)) (cN [6, 32, 33, 34, 43, 44, 45, 46, 47, 48, 49, 50, 51] K) (z14p4S sorted_2) =
    (let a1_ := sorted_2.length = sorted_2.length; a1_ ∧ a1_ ∧ (kGSpan sorted_2) ∧ ((sort_Slice L1_).isSome = true) ∧ (wK K .normal (z14p3S ((sort_Slice L1_).getD []) ((((sort_Slice L1_).getD [])).length : Int)))) := by subst hL1_; kernel_rfl
theorem z14p4ok {sorted_2 : (List GSpan)} {K : KT} (h : W (spans_Make_p4 sorted_2) (rE z14R K)) : EvL Try.prog 73 (List.drop 4 z14i0) K (z14p4S sorted_2) :=
  EvL.qD mixed [e24] [6, 32, 33, 34, 43, 44, 45, 46, 47, 48, 49, 50, 51] 4 3 7 (.of (z14p4nf sorted_2 _ (lb dGSpan_eGSpan)) (⟨(rfl), ⟨(rfl), ⟨kb dGSpan_eGSpan, (W_bind [] h fun _ h => (l0 (z14p3ok h)))⟩⟩⟩))
def z14p5S (l : (List GSpan)) : St := ⟨[sv 3 (.ptr 0 1 0 0), sv 10 (sGSpan l), sv 11 (i64 (l.length : Int)), sv 12 (i64 0)], [(0, some (.box [(.c .nil)]))], 1⟩
noncomputable def spans_Make_p5_g (l : (List GSpan)) (r : (((List GSpan)))) : Option ((List GSpan)) := match r with | sorted_1 => (spans_Make_p4 sorted_1)
noncomputable def spans_Make_p5 (l : (List GSpan)) : Option ((List GSpan)) := (fixL (spans_Make_l1 l) (0, ([] : List GSpan))).bind (spans_Make_p5_g l)
theorem z14p5at : List.drop 3 z14i0 = .block 0 (.loop (inside (inside (nthI z14i0 3)))) :: List.drop 4 z14i0 := by kernel_rfl
theorem z14p5k (l : (List GSpan)) (K : KT) : ∀ r : (((List GSpan))), W (spans_Make_p5_g l r) (rE z14R K) → z14l1E l r (wK (blockK 0 (thenK (EvL Try.prog 73 (List.drop 4 z14i0) K) K)))
  | sorted_1, h => ⟨(z14p4S sorted_1), (.refl _), (z14p4ok h)⟩
theorem z14p5ok {l : (List GSpan)} {K : KT} (h : W (spans_Make_p5 l) (rE z14R K)) : EvL Try.prog 73 (List.drop 3 z14i0) K (z14p5S l) :=
  EvL.at_ z14p5at (EvL.cons_loop (EvOk.weak (EvOk.ent (.trans (.nilbox 0 0 1 28 2 (lsEl eGSpan zGSpan []) [(.c .nil)] (Nat.le_of_ble_eq_true rfl) rfl rfl) (.cn [3, 10, 11, 12])) (EvOk.loopF (x := inside (inside (nthI z14i0 3))) (f := spans_Make_l1 l) (emb := z14l1S l) (E := z14l1E l) (z14l1ok l) (z14l1Ethen l) (W_loop h (z14p5k l K))))))
def z14p6S (l : (List GSpan)) : St := ⟨[sv 0 (sGSpan l)], [], 0⟩
noncomputable def spans_Make_p6 (l : (List GSpan)) : Option ((List GSpan)) := (spans_Make_p5 l)
theorem z14p6ok {l : (List GSpan)} {K : KT} (h : W (spans_Make_p6 l) (rE z14R K)) : EvL Try.prog 73 (List.drop 0 z14i0) K (z14p6S l) :=
  EvL.qD mixed [] [3, 10, 11, 12, 43, 44, 45, 46, 47, 48, 49, 50, 51] 0 3 3 (.nx (fun K => wK K .normal (z14p5S l)) (l0 (z14p5ok h)))
noncomputable def spans_Make (l : (List GSpan)) : Option ((List GSpan)) := spans_Make_p6 l
noncomputable def spans_Make_C : Con := con1 uGSpan spans_Make ([] : List GSpan) spans_Make_out
theorem spans_Make_ok : Meets Try.prog 14 spans_Make_C := meets1 Try.f14 (bodyOf Try.f14) [.tmp 2] 73 fun u0 y h => @z14p6ok u0 _ (W_iff.2 ⟨y, h, (rtI (.row 0 2 0 y.length) (⟨_, _, _, rfl, rfl, rfl, fun _ _ => rfl, fun _ i hi d hd => scal_GSpan _ d hd⟩))⟩)
noncomputable abbrev e14 : FE Try.prog := ⟨14, .pure spans_Make_C, spans_Make_ok⟩

noncomputable def z18i0 : List Code := items (bodyOf Try.f18)
noncomputable def z18i1 : List Code := items (inside (inside (nthI z18i0 3)))
def competence_Under_out (x_1 : (List GSpan)) : Out := .own true 28 2 (x_1).length (lsEl eGSpan zGSpan x_1)
def z18R (x_1 : (List GSpan)) : St := ⟨[sv 6 (.row 0 2 0 x_1.length)], [(rGSpan 0 28 x_1)], 1⟩
def z18l1S (state rule : Int) (law : (List GSegment)) (s : ((List GSpan) × Int)) : St := match s with | (out_1, t12) => ⟨[sv 1 (i64 state), sv 2 (i64 rule), sv 7 (.row 0 2 0 out_1.length), sv 10 (sGSegment law), sv 11 (i64 (law.length : Int)), sv 12 (i64 t12)], [(rGSpan 0 28 out_1)], 1⟩
def z18l1C0 (state rule : Int) (law : (List GSegment)) (s : (List GSpan)) : St := match s with | out_2 => ⟨[sv 7 (.row 0 2 0 out_2.length)], [(rGSpan 0 28 out_2)], 1⟩
def z18l1E (state rule : Int) (law : (List GSegment)) (r : (((List GSpan)))) (K : KT) : Prop := match r with | s => K (.exit 0) (z18l1C0 state rule law s)
def z18p0S (state rule : Int) (out_1 : (List GSpan)) (law : (List GSegment)) (t12 : Int) : St := ⟨[sv 1 (i64 state), sv 2 (i64 rule), sv 7 (.row 0 2 0 out_1.length), sv 10 (sGSegment law), sv 11 (i64 (law.length : Int)), sv 12 (i64 t12)], [(rGSpan 0 28 out_1)], 1⟩
noncomputable def competence_Under_p0 (state rule : Int) (out_1 : (List GSpan)) (law : (List GSegment)) (t12 : Int) : Option (((List GSpan) × Int) ⊕ (((List GSpan)))) := (bif (decide (t12 < (law.length : Int))) then gd (0 ≤ t12 ∧ t12 < (law.length : Int)) ((bif (bif ((law.getD (Int.toNat t12) zGSegment).State == state) then (decide ((law.getD (Int.toNat t12) zGSegment).Rule ≤ rule)) else false) then gd (capB (out_1.length + 1) 16) ((some (Sum.inl ((out_1 ++ ([(law.getD (Int.toNat t12) zGSegment).Span] : List GSpan)), (w64 (t12 + 1)))))) else (some (Sum.inl (out_1, (w64 (t12 + 1))))))) else (some (Sum.inr out_1)))
theorem z18p0ok {state rule : Int} {out_1 : (List GSpan)} {law : (List GSegment)} {t12 : Int} {K : KT} (h : W (competence_Under_p0 state rule out_1 law t12) (nE (z18l1S state rule law) (z18l1E state rule law) K)) : EvL Try.prog 34 (List.drop 0 z18i1) K (z18p0S state rule out_1 law t12) :=
  EvL.qE mixed [] [1, 2, 7, 10, 11, 12, 21, 22, 23, 24] 0 4 (.nx (fun K => let a1_ := law.getD (Int.toNat t12) zGSegment; let a2_ := (law.length : Int); let a3_ := out_1.length + 1; (bif (decide (t12 < a2_)) then (0 ≤ t12) ∧ (t12 < a2_) ∧ ((bif (bif (a1_.State == state) then (decide (a1_.Rule ≤ rule)) else false) then (out_1.length = out_1.length) ∧ (a3_ * 16 ≤ 140737488355328) ∧ (a3_ ≤ 140737488355328) ∧ (wK K .normal (⟨[sv 1 (i64 state), sv 2 (i64 rule), sv 7 (.row 0 2 0 a3_), sv 10 (sGSegment law), sv 11 (i64 a2_), sv 12 (i64 (w64 (t12 + 1))), un 21, un 22, un 23, un 24], [(0, some (.row 28 2 a3_ (fun i => bif Nat.blt i out_1.length then (lGSpan out_1) i else (fun i => (litE 2 (eGSpan (a1_.Span))) (0 + i)) (i - out_1.length))))], 1⟩)) else wK K .normal (⟨[sv 1 (i64 state), sv 2 (i64 rule), sv 7 (.row 0 2 0 out_1.length), sv 10 (sGSegment law), sv 11 (i64 a2_), sv 12 (i64 (w64 (t12 + 1))), un 21, un 22, un 23, un 24], [(rGSpan 0 28 out_1)], 1⟩))) else wK K (.exit 0) (⟨[sv 1 (i64 state), sv 2 (i64 rule), sv 7 (.row 0 2 0 out_1.length), sv 10 (sGSegment law), sv 11 (i64 a2_), sv 12 (i64 t12)], [(rGSpan 0 28 out_1)], 1⟩))) (W_bif h (fun _ h => (W_gd2 h fun _ h => (W_bif h (fun _ h => ⟨rfl, (W_gd2 h fun _ h => (lf h (.of (.q rfl (.q rfl (.cons rfl (.rown (len_app rfl rfl)) (.qs 3 .nil)))) (.row rfl (RowIs.app .b (RowIs.zero (RowIs.l1 (enc := eGSpan) (z := zGSpan) 2 ((law.getD (Int.toNat t12) zGSegment).Span) rfl))) .nil rfl) rfl)))⟩) (fun _ h => (lf h (.cn [1, 2, 7, 10, 11, 12])))))) (fun _ h => (lf h (.cn [7])))))
noncomputable def competence_Under_l1 (state rule : Int) (law : (List GSegment)) (s : ((List GSpan) × Int)) : Option (((List GSpan) × Int) ⊕ (((List GSpan)))) := match s with | (out_1, t12) => competence_Under_p0 state rule out_1 law t12
theorem z18l1ok (state rule : Int) (law : (List GSegment)) (s : ((List GSpan) × Int)) : Pp Try.prog 34 (List.drop 0 z18i1) (z18l1S state rule law s) (competence_Under_l1 state rule law s) (nextE (z18l1S state rule law) (z18l1E state rule law)) := fun K h => match s, h with | (out_1, t12), h => (z18p0ok h)
theorem z18l1Ethen (state rule : Int) (law : (List GSegment)) : ∀ (r : (((List GSpan)))) (J : St → Prop) (K : KT), z18l1E state rule law r K → z18l1E state rule law r (thenK J K)
  | s, _, _, h => h
def z18p1S (out_3 : (List GSpan)) : St := ⟨[sv 7 (.row 0 2 0 out_3.length)], [(rGSpan 0 28 out_3)], 1⟩
noncomputable def competence_Under_p1 (out_3 : (List GSpan)) : Option ((List GSpan)) := (spans_Make out_3).bind fun r_1 => ((some r_1))
theorem z18p1nf (out_3 : (List GSpan)) (K : KT) {L1_ : List GSpan} (hL1_ : lst dGSpan out_3.length (fun i => (lGSpan out_3) (0 + i)) = L1_) :
    ev Try.prog (lookF [e14]) 34 (ofItems ((List.drop 4 z18i0).take 2)) (cN [6] K) (z18p1S out_3) =
    ((LstOk eGSpan dGSpan 2 2 out_3.length (fun i => (lGSpan out_3) (0 + i))) ∧ ((spans_Make L1_).isSome = true) ∧ (wK K .ret (z18R ((spans_Make L1_).getD [])))) := by subst hL1_; kernel_rfl
theorem z18p1ok {out_3 : (List GSpan)} {K : KT} (h : W (competence_Under_p1 out_3) (rE z18R K)) : EvL Try.prog 34 (List.drop 4 z18i0) K (z18p1S out_3) :=
  EvL.qE mixed [e14] [6] 4 2 (.of (z18p1nf out_3 _ (lr dGSpan_eGSpan (RowIs.zero .b))) (⟨RowIs.ok dGSpan_eGSpan (RowIs.zero .b), (W_bind [] h fun _ h => (l0 h))⟩))
def z18p2S (state rule : Int) (law : (List GSegment)) : St := ⟨[sv 1 (i64 state), sv 2 (i64 rule), sv 7 (.c .nil), sv 10 (sGSegment law), sv 11 (i64 (law.length : Int)), sv 12 (i64 0)], [], 0⟩
noncomputable def competence_Under_p2_g (state rule : Int) (law : (List GSegment)) (r : (((List GSpan)))) : Option ((List GSpan)) := match r with | out_2 => (competence_Under_p1 out_2)
noncomputable def competence_Under_p2 (state rule : Int) (law : (List GSegment)) : Option ((List GSpan)) := (fixL (competence_Under_l1 state rule law) (([] : List GSpan), 0)).bind (competence_Under_p2_g state rule law)
theorem z18p2at : List.drop 3 z18i0 = .block 0 (.loop (inside (inside (nthI z18i0 3)))) :: List.drop 4 z18i0 := by kernel_rfl
theorem z18p2k (state rule : Int) (law : (List GSegment)) (K : KT) : ∀ r : (((List GSpan))), W (competence_Under_p2_g state rule law r) (rE z18R K) → z18l1E state rule law r (wK (blockK 0 (thenK (EvL Try.prog 34 (List.drop 4 z18i0) K) K)))
  | out_2, h => ⟨(z18p1S out_2), (.refl _), (z18p1ok h)⟩
theorem z18p2ok {state rule : Int} {law : (List GSegment)} {K : KT} (h : W (competence_Under_p2 state rule law) (rE z18R K)) : EvL Try.prog 34 (List.drop 3 z18i0) K (z18p2S state rule law) :=
  EvL.at_ z18p2at (EvL.cons_loop (EvOk.weak (EvOk.ent (.trans (.nilrow 7 0 28 2 (lsEl eGSpan zGSpan []) (Nat.le_of_ble_eq_true rfl) rfl) (.cn [1, 2, 7, 10, 11, 12])) (EvOk.loopF (x := inside (inside (nthI z18i0 3))) (f := competence_Under_l1 state rule law) (emb := z18l1S state rule law) (E := z18l1E state rule law) (z18l1ok state rule law) (z18l1Ethen state rule law) (W_loop h (z18p2k state rule law K))))))
def z18p3S (law : (List GSegment)) (state rule : Int) : St := ⟨[sv 0 (sGSegment law), sv 1 (i64 state), sv 2 (i64 rule)], [], 0⟩
noncomputable def competence_Under_p3 (law : (List GSegment)) (state rule : Int) : Option ((List GSpan)) := (competence_Under_p2 state rule law)
theorem z18p3ok {law : (List GSegment)} {state rule : Int} {K : KT} (h : W (competence_Under_p3 law state rule) (rE z18R K)) : EvL Try.prog 34 (List.drop 0 z18i0) K (z18p3S law state rule) :=
  EvL.qD mixed [] [1, 2, 7, 10, 11, 12, 21, 22, 23, 24] 0 3 3 (.nx (fun K => wK K .normal (z18p2S state rule law)) (l0 (z18p2ok h)))
noncomputable def competence_Under (law : (List GSegment)) (state rule : Int) : Option ((List GSpan)) := competence_Under_p3 law state rule
noncomputable def competence_Under_C : Con := con3 uGSegment (aI .i64) (aI .i64) competence_Under ([] : List GSpan) competence_Under_out
theorem competence_Under_ok : Meets Try.prog 18 competence_Under_C := meets3 Try.f18 (bodyOf Try.f18) [.tmp 6] 34 fun u0 u1 u2 y h => @z18p3ok u0 u1 u2 _ (W_iff.2 ⟨y, h, (rtI (.row 0 2 0 y.length) (⟨_, _, _, rfl, rfl, rfl, fun _ _ => rfl, fun _ i hi d hd => scal_GSpan _ d hd⟩))⟩)
noncomputable abbrev e18 : FE Try.prog := ⟨18, .pure competence_Under_C, competence_Under_ok⟩

noncomputable def z27i0 : List Code := items (bodyOf Try.f27)
noncomputable def z27i1 : List Code := items (inside (inside (nthI z27i0 4)))
def spans_Intersect_out (x_1 : (List GSpan)) : Out := .own true 28 2 (x_1).length (lsEl eGSpan zGSpan x_1)
def z27R (x_1 : (List GSpan)) : St := ⟨[sv 4 (.row 0 2 0 x_1.length)], [(rGSpan 0 28 x_1)], 1⟩
def z27l1S (a_1 b_1 : (List GSpan)) (s : ((List GSpan) × Int × Int)) : St := match s with | (out_1, i_1, j) => ⟨[sv 0 (.row 0 2 0 a_1.length), sv 1 (.row 1 2 0 b_1.length), sv 5 (.row 2 2 0 out_1.length), sv 6 (i64 i_1), sv 7 (i64 j)], [(rGSpan 0 28 a_1), (rGSpan 1 28 b_1), (rGSpan 2 28 out_1)], 3⟩
def z27l1C0 (a_1 b_1 : (List GSpan)) (s : (List GSpan)) : St := match s with | out_2 => ⟨[sv 5 (.row 0 2 0 out_2.length)], [(rGSpan 0 28 out_2)], 1⟩
def z27l1E (a_1 b_1 : (List GSpan)) (r : (((List GSpan)))) (K : KT) : Prop := match r with | s => K (.exit 0) (z27l1C0 a_1 b_1 s)
def z27p0S (a_1 b_1 out_1 : (List GSpan)) (i_1 j : Int) : St := ⟨[sv 0 (.row 0 2 0 a_1.length), sv 1 (.row 1 2 0 b_1.length), sv 5 (.row 2 2 0 out_1.length), sv 6 (i64 i_1), sv 7 (i64 j)], [(rGSpan 0 28 a_1), (rGSpan 1 28 b_1), (rGSpan 2 28 out_1)], 3⟩
noncomputable def spans_Intersect_p0 (a_1 b_1 out_1 : (List GSpan)) (i_1 j : Int) : Option (((List GSpan) × Int × Int) ⊕ (((List GSpan)))) := (bif (bif (decide (i_1 < (a_1.length : Int))) then (decide (j < (b_1.length : Int))) else false) then gd (0 ≤ i_1 ∧ i_1 < (a_1.length : Int)) (gd (0 ≤ j ∧ j < (b_1.length : Int)) (gd (0 ≤ i_1 ∧ i_1 < (a_1.length : Int)) (gd (0 ≤ j ∧ j < (b_1.length : Int)) ((bif (decide ((if (a_1.getD (0 + (Int.toNat i_1)) zGSpan).From < (b_1.getD (0 + (Int.toNat j)) zGSpan).From then (b_1.getD (0 + (Int.toNat j)) zGSpan).From else (a_1.getD (0 + (Int.toNat i_1)) zGSpan).From) < (if (b_1.getD (0 + (Int.toNat j)) zGSpan).To < (a_1.getD (0 + (Int.toNat i_1)) zGSpan).To then (b_1.getD (0 + (Int.toNat j)) zGSpan).To else (a_1.getD (0 + (Int.toNat i_1)) zGSpan).To))) then gd (capB (out_1.length + 1) 16) (gd (0 ≤ i_1 ∧ i_1 < (a_1.length : Int)) (gd (0 ≤ j ∧ j < (b_1.length : Int)) ((bif (decide ((a_1.getD (0 + (Int.toNat i_1)) zGSpan).To < (b_1.getD (0 + (Int.toNat j)) zGSpan).To)) then (some (Sum.inl ((out_1 ++ ([(GSpan.mk (if (a_1.getD (0 + (Int.toNat i_1)) zGSpan).From < (b_1.getD (0 + (Int.toNat j)) zGSpan).From then (b_1.getD (0 + (Int.toNat j)) zGSpan).From else (a_1.getD (0 + (Int.toNat i_1)) zGSpan).From) (if (b_1.getD (0 + (Int.toNat j)) zGSpan).To < (a_1.getD (0 + (Int.toNat i_1)) zGSpan).To then (b_1.getD (0 + (Int.toNat j)) zGSpan).To else (a_1.getD (0 + (Int.toNat i_1)) zGSpan).To))] : List GSpan)), (w64 (i_1 + 1)), j))) else (some (Sum.inl ((out_1 ++ ([(GSpan.mk (if (a_1.getD (0 + (Int.toNat i_1)) zGSpan).From < (b_1.getD (0 + (Int.toNat j)) zGSpan).From then (b_1.getD (0 + (Int.toNat j)) zGSpan).From else (a_1.getD (0 + (Int.toNat i_1)) zGSpan).From) (if (b_1.getD (0 + (Int.toNat j)) zGSpan).To < (a_1.getD (0 + (Int.toNat i_1)) zGSpan).To then (b_1.getD (0 + (Int.toNat j)) zGSpan).To else (a_1.getD (0 + (Int.toNat i_1)) zGSpan).To))] : List GSpan)), i_1, (w64 (j + 1))))))))) else gd (0 ≤ i_1 ∧ i_1 < (a_1.length : Int)) (gd (0 ≤ j ∧ j < (b_1.length : Int)) ((bif (decide ((a_1.getD (0 + (Int.toNat i_1)) zGSpan).To < (b_1.getD (0 + (Int.toNat j)) zGSpan).To)) then (some (Sum.inl (out_1, (w64 (i_1 + 1)), j))) else (some (Sum.inl (out_1, i_1, (w64 (j + 1))))))))))))) else (some (Sum.inr out_1)))
theorem z27p0ok {a_1 b_1 out_1 : (List GSpan)} {i_1 j : Int} {K : KT} (h : W (spans_Intersect_p0 a_1 b_1 out_1 i_1 j) (nE (z27l1S a_1 b_1) (z27l1E a_1 b_1) K)) : EvL Try.prog 71 (List.drop 0 z27i1) K (z27p0S a_1 b_1 out_1 i_1 j) :=
  EvL.qE mixed [] [0, 1, 5, 6, 7, 18, 19, 20, 21] 0 3 (.nx (fun K => let a1_ := a_1.getD (0 + (Int.toNat i_1)) zGSpan; let a2_ := b_1.getD (0 + (Int.toNat j)) zGSpan; let a3_ := litE 2 (eGSpan (GSpan.mk (if a1_.From < a2_.From then a2_.From else a1_.From) (if a2_.To < a1_.To then a2_.To else a1_.To))); let a4_ := i_1 < (a_1.length : Int); let a5_ := j < (b_1.length : Int); let a6_ := out_1.length + 1; let a7_ := rGSpan 2 28 out_1; (bif (bif (decide a4_) then (decide a5_) else false) then (0 ≤ i_1) ∧ a4_ ∧ (0 ≤ j) ∧ a5_ ∧ (0 ≤ i_1) ∧ a4_ ∧ (0 ≤ j) ∧ a5_ ∧ ((bif (decide ((if a1_.From < a2_.From then a2_.From else a1_.From) < (if a2_.To < a1_.To then a2_.To else a1_.To))) then (out_1.length = out_1.length) ∧ (a6_ * 16 ≤ 140737488355328) ∧ (a6_ ≤ 140737488355328) ∧ ((0 ≤ i_1) ∧ a4_ ∧ (0 ≤ j) ∧ a5_ ∧ ((bif (decide (a1_.To < a2_.To)) then wK K .normal (⟨[sv 0 (.row 0 2 0 a_1.length), sv 1 (.row 1 2 0 b_1.length), sv 5 (.row 2 2 0 a6_), sv 6 (i64 (w64 (i_1 + 1))), sv 7 (i64 j), un 18, un 19, un 20, un 21], [(rGSpan 0 28 a_1), (rGSpan 1 28 b_1), (2, some (.row 28 2 a6_ (fun i => bif Nat.blt i out_1.length then (lGSpan out_1) i else (fun i => a3_ (0 + i)) (i - out_1.length))))], 3⟩) else wK K .normal (⟨[sv 0 (.row 0 2 0 a_1.length), sv 1 (.row 1 2 0 b_1.length), sv 5 (.row 2 2 0 a6_), sv 6 (i64 i_1), sv 7 (i64 (w64 (j + 1))), un 18, un 19, un 20, un 21], [(rGSpan 0 28 a_1), (rGSpan 1 28 b_1), (2, some (.row 28 2 a6_ (fun i => bif Nat.blt i out_1.length then (lGSpan out_1) i else (fun i => a3_ (0 + i)) (i - out_1.length))))], 3⟩)))) else (0 ≤ i_1) ∧ a4_ ∧ (0 ≤ j) ∧ a5_ ∧ ((bif (decide (a1_.To < a2_.To)) then wK K .normal (⟨[sv 0 (.row 0 2 0 a_1.length), sv 1 (.row 1 2 0 b_1.length), sv 5 (.row 2 2 0 out_1.length), sv 6 (i64 (w64 (i_1 + 1))), sv 7 (i64 j), un 18, un 19, un 20, un 21], [(rGSpan 0 28 a_1), (rGSpan 1 28 b_1), a7_], 3⟩) else wK K .normal (⟨[sv 0 (.row 0 2 0 a_1.length), sv 1 (.row 1 2 0 b_1.length), sv 5 (.row 2 2 0 out_1.length), sv 6 (i64 i_1), sv 7 (i64 (w64 (j + 1))), un 18, un 19, un 20, un 21], [(rGSpan 0 28 a_1), (rGSpan 1 28 b_1), a7_], 3⟩))))) else wK K (.exit 0) (⟨[sv 0 (.row 0 2 0 a_1.length), sv 1 (.row 1 2 0 b_1.length), sv 5 (.row 2 2 0 out_1.length), sv 6 (i64 i_1), sv 7 (i64 j), un 18, un 19, un 20, un 21], [(rGSpan 0 28 a_1), (rGSpan 1 28 b_1), a7_], 3⟩))) (W_bif h (fun _ h => (W_gd2 h fun _ h => (W_gd2 h fun _ h => (W_gd2 h fun _ h => (W_gd2 h fun _ h => (W_bif h (fun _ h => ⟨rfl, (W_gd2 h fun _ h => (W_gd2 h fun _ h => (W_gd2 h fun _ h => (W_bif h (fun _ h => (lf h (.of (.q rfl (.q rfl (.cons rfl (.rown (len_app rfl rfl)) (.q rfl (.q rfl .nil))))) (.same rfl (.same rfl (.row rfl (RowIs.app .b (RowIs.zero (RowIs.l1 (enc := eGSpan) (z := zGSpan) 2 (GSpan.mk (if (a_1.getD (0 + (Int.toNat i_1)) zGSpan).From < (b_1.getD (0 + (Int.toNat j)) zGSpan).From then (b_1.getD (0 + (Int.toNat j)) zGSpan).From else (a_1.getD (0 + (Int.toNat i_1)) zGSpan).From) (if (b_1.getD (0 + (Int.toNat j)) zGSpan).To < (a_1.getD (0 + (Int.toNat i_1)) zGSpan).To then (b_1.getD (0 + (Int.toNat j)) zGSpan).To else (a_1.getD (0 + (Int.toNat i_1)) zGSpan).To)) rfl))) .nil rfl))) rfl))) (fun _ h => (lf h (.of (.q rfl (.q rfl (.cons rfl (.rown (len_app rfl rfl)) (.q rfl (.q rfl .nil))))) (.same rfl (.same rfl (.row rfl (RowIs.app .b (RowIs.zero (RowIs.l1 (enc := eGSpan) (z := zGSpan) 2 (GSpan.mk (if (a_1.getD (0 + (Int.toNat i_1)) zGSpan).From < (b_1.getD (0 + (Int.toNat j)) zGSpan).From then (b_1.getD (0 + (Int.toNat j)) zGSpan).From else (a_1.getD (0 + (Int.toNat i_1)) zGSpan).From) (if (b_1.getD (0 + (Int.toNat j)) zGSpan).To < (a_1.getD (0 + (Int.toNat i_1)) zGSpan).To then (b_1.getD (0 + (Int.toNat j)) zGSpan).To else (a_1.getD (0 + (Int.toNat i_1)) zGSpan).To)) rfl))) .nil rfl))) rfl)))))))⟩) (fun _ h => (W_gd2 h fun _ h => (W_gd2 h fun _ h => (W_bif h (fun _ h => (lf h (.cn [0, 1, 5, 6, 7]))) (fun _ h => (lf h (.cn [0, 1, 5, 6, 7]))))))))))))) (fun _ h => (lf h (.cn [5])))))
noncomputable def spans_Intersect_l1 (a_1 b_1 : (List GSpan)) (s : ((List GSpan) × Int × Int)) : Option (((List GSpan) × Int × Int) ⊕ (((List GSpan)))) := match s with | (out_1, i_1, j) => spans_Intersect_p0 a_1 b_1 out_1 i_1 j
theorem z27l1ok (a_1 b_1 : (List GSpan)) (s : ((List GSpan) × Int × Int)) : Pp Try.prog 71 (List.drop 0 z27i1) (z27l1S a_1 b_1 s) (spans_Intersect_l1 a_1 b_1 s) (nextE (z27l1S a_1 b_1) (z27l1E a_1 b_1)) := fun K h => match s, h with | (out_1, i_1, j), h => (z27p0ok h)
theorem z27l1Ethen (a_1 b_1 : (List GSpan)) : ∀ (r : (((List GSpan)))) (J : St → Prop) (K : KT), z27l1E a_1 b_1 r K → z27l1E a_1 b_1 r (thenK J K)
  | s, _, _, h => h
def z27p1S (out_3 : (List GSpan)) : St := ⟨[sv 5 (.row 0 2 0 out_3.length)], [(rGSpan 0 28 out_3)], 1⟩
noncomputable def spans_Intersect_p1 (out_3 : (List GSpan)) : Option ((List GSpan)) := (some out_3)
theorem z27p1ok {out_3 : (List GSpan)} {K : KT} (h : W (spans_Intersect_p1 out_3) (rE z27R K)) : EvL Try.prog 71 (List.drop 5 z27i0) K (z27p1S out_3) :=
  EvL.qE mixed [] [4] 5 2 (.nx (fun K => wK K .ret (z27R out_3)) (l0 h))
def z27p2S (a_1 b_1 : (List GSpan)) : St := ⟨[sv 0 (.row 0 2 0 a_1.length), sv 1 (.row 1 2 0 b_1.length), sv 5 (.c .nil), sv 6 (i64 0), sv 7 (i64 0)], [(rGSpan 0 28 a_1), (rGSpan 1 28 b_1)], 2⟩
noncomputable def spans_Intersect_p2_g (a_1 b_1 : (List GSpan)) (r : (((List GSpan)))) : Option ((List GSpan)) := match r with | out_2 => (spans_Intersect_p1 out_2)
noncomputable def spans_Intersect_p2 (a_1 b_1 : (List GSpan)) : Option ((List GSpan)) := (fixL (spans_Intersect_l1 a_1 b_1) (([] : List GSpan), 0, 0)).bind (spans_Intersect_p2_g a_1 b_1)
theorem z27p2at : List.drop 4 z27i0 = .block 0 (.loop (inside (inside (nthI z27i0 4)))) :: List.drop 5 z27i0 := by kernel_rfl
theorem z27p2k (a_1 b_1 : (List GSpan)) (K : KT) : ∀ r : (((List GSpan))), W (spans_Intersect_p2_g a_1 b_1 r) (rE z27R K) → z27l1E a_1 b_1 r (wK (blockK 0 (thenK (EvL Try.prog 71 (List.drop 5 z27i0) K) K)))
  | out_2, h => ⟨(z27p1S out_2), (.refl _), (z27p1ok h)⟩
theorem z27p2ok {a_1 b_1 : (List GSpan)} {K : KT} (h : W (spans_Intersect_p2 a_1 b_1) (rE z27R K)) : EvL Try.prog 71 (List.drop 4 z27i0) K (z27p2S a_1 b_1) :=
  EvL.at_ z27p2at (EvL.cons_loop (EvOk.weak (EvOk.ent (.trans (.nilrow 5 2 28 2 (lsEl eGSpan zGSpan []) (Nat.le_of_ble_eq_true rfl) rfl) (.cn [0, 1, 5, 6, 7])) (EvOk.loopF (x := inside (inside (nthI z27i0 4))) (f := spans_Intersect_l1 a_1 b_1) (emb := z27l1S a_1 b_1) (E := z27l1E a_1 b_1) (z27l1ok a_1 b_1) (z27l1Ethen a_1 b_1) (W_loop h (z27p2k a_1 b_1 K))))))
def z27p3S (a b : (List GSpan)) : St := ⟨[sv 0 (sGSpan a), sv 1 (sGSpan b)], [], 0⟩
noncomputable def spans_Intersect_p3 (a b : (List GSpan)) : Option ((List GSpan)) := (spans_Make a).bind fun r_1 => ((spans_Make b).bind fun r_2 => ((spans_Intersect_p2 r_1 r_2)))
theorem z27p3nf (a b : (List GSpan)) (K : KT) {L1_ : List GSpan} (hL1_ : lst dGSpan a.length (lGSpan a) = L1_) {L2_ : List GSpan} (hL2_ : lst dGSpan b.length (lGSpan b) = L2_) :
    ev Try.prog (lookF [e14]) 71 (ofItems ((List.drop 0 z27i0).take 4)) (cN [0, 1, 5, 6, 7, 18, 19, 20, 21] K) (z27p3S a b) =
    ((kGSpan a) ∧ ((spans_Make L1_).isSome = true) ∧ (kGSpan b) ∧ ((spans_Make L2_).isSome = true) ∧ (wK K .normal (z27p2S ((spans_Make L1_).getD []) ((spans_Make L2_).getD [])))) := by subst hL1_ hL2_; kernel_rfl
theorem z27p3ok {a b : (List GSpan)} {K : KT} (h : W (spans_Intersect_p3 a b) (rE z27R K)) : EvL Try.prog 71 (List.drop 0 z27i0) K (z27p3S a b) :=
  EvL.qD mixed [e14] [0, 1, 5, 6, 7, 18, 19, 20, 21] 0 4 4 (.of (z27p3nf a b _ (lb dGSpan_eGSpan) (lb dGSpan_eGSpan)) (⟨kb dGSpan_eGSpan, (W_bind [] h fun _ h => ⟨kb dGSpan_eGSpan, (W_bind [] h fun _ h => (l0 (z27p2ok h)))⟩)⟩))
noncomputable def spans_Intersect (a b : (List GSpan)) : Option ((List GSpan)) := spans_Intersect_p3 a b
noncomputable def spans_Intersect_C : Con := con2 uGSpan uGSpan spans_Intersect ([] : List GSpan) spans_Intersect_out
theorem spans_Intersect_ok : Meets Try.prog 27 spans_Intersect_C := meets2 Try.f27 (bodyOf Try.f27) [.tmp 4] 71 fun u0 u1 y h => @z27p3ok u0 u1 _ (W_iff.2 ⟨y, h, (rtI (.row 0 2 0 y.length) (⟨_, _, _, rfl, rfl, rfl, fun _ _ => rfl, fun _ i hi d hd => scal_GSpan _ d hd⟩))⟩)
noncomputable abbrev e27 : FE Try.prog := ⟨27, .pure spans_Intersect_C, spans_Intersect_ok⟩

noncomputable def z17i0 : List Code := items (bodyOf Try.f17)
def spans_Clip_out (x_1 : (List GSpan)) : Out := .own true 28 2 (x_1).length (lsEl eGSpan zGSpan x_1)
def z17R (x_1 : (List GSpan)) : St := ⟨[sv 4 (.row 0 2 0 x_1.length)], [(rGSpan 0 28 x_1)], 1⟩
def z17p0S (l : (List GSpan)) (s_1 : GSpan) : St := ⟨[sv 0 (sGSpan l), sv 1 (.ag (eGSpan s_1))], [], 0⟩
noncomputable def spans_Clip_p0 (l : (List GSpan)) (s_1 : GSpan) : Option ((List GSpan)) := (spans_Intersect l ([s_1] : List GSpan)).bind fun r_1 => ((some r_1))
theorem z17p0nf (l : (List GSpan)) (s_1 : GSpan) (K : KT) {L1_ : List GSpan} (hL1_ : lst dGSpan l.length (lGSpan l) = L1_) {L2_ : List GSpan} (hL2_ : lst dGSpan 1 (fun i => (litE 2 (eGSpan s_1)) (0 + i)) = L2_) :
    ev Try.prog (lookF [e27]) 9 (ofItems ((List.drop 0 z17i0).take 3)) (cN [4] K) (z17p0S l s_1) =
    ((kGSpan l) ∧ (LstOk eGSpan dGSpan 2 2 1 (fun i => (litE 2 (eGSpan s_1)) (0 + i))) ∧ ((spans_Intersect L1_ L2_).isSome = true) ∧ (wK K .ret (z17R ((spans_Intersect L1_ L2_).getD [])))) := by subst hL1_ hL2_; kernel_rfl
theorem z17p0ok {l : (List GSpan)} {s_1 : GSpan} {K : KT} (h : W (spans_Clip_p0 l s_1) (rE z17R K)) : EvL Try.prog 9 (List.drop 0 z17i0) K (z17p0S l s_1) :=
  EvL.qE mixed [e27] [4] 0 3 (.of (z17p0nf l s_1 _ (lb dGSpan_eGSpan) (lr dGSpan_eGSpan (RowIs.zero (RowIs.l1 (enc := eGSpan) (z := zGSpan) 2 s_1 rfl)))) (⟨kb dGSpan_eGSpan, ⟨RowIs.ok dGSpan_eGSpan (RowIs.zero (RowIs.l1 (enc := eGSpan) (z := zGSpan) 2 s_1 rfl)), (W_bind [] h fun _ h => (l0 h))⟩⟩))
noncomputable def spans_Clip (l : (List GSpan)) (s_1 : GSpan) : Option ((List GSpan)) := spans_Clip_p0 l s_1
noncomputable def spans_Clip_C : Con := con2 uGSpan wGSpan spans_Clip ([] : List GSpan) spans_Clip_out
theorem spans_Clip_ok : Meets Try.prog 17 spans_Clip_C := meets2 Try.f17 (bodyOf Try.f17) [.tmp 4] 9 fun u0 u1 y h => @z17p0ok u0 u1 _ (W_iff.2 ⟨y, h, (rtI (.row 0 2 0 y.length) (⟨_, _, _, rfl, rfl, rfl, fun _ _ => rfl, fun _ i hi d hd => scal_GSpan _ d hd⟩))⟩)
noncomputable abbrev e17 : FE Try.prog := ⟨17, .pure spans_Clip_C, spans_Clip_ok⟩

noncomputable def z16i0 : List Code := items (bodyOf Try.f16)
noncomputable def z16i1 : List Code := items (inside (inside (nthI z16i0 1)))
def z16R (x_1 : (List GPeriod)) : St := ⟨[sv 1000000 (.ptr 0 1 0 0)], [(0, some (.box [(.row 1 4 0 x_1.length)])), (rGPeriod 1 30 x_1)], 2⟩
theorem z16Rok (x_1 : (List GPeriod)) {H : Heap} {nid : Nat} {ps : List Prop} {ob oc : Nat} {cs : List V} (hne : ob ≠ oc) (h0 : Heap.get H ob = some (.box cs)) (hl : cs.length = 1) : retM Try.prog [] (fun σ v => ∃ m, Left [ob, oc] nid H false { pre := ps, val := (.tup []), eff := [(ob, some (.box [.row oc 4 0 x_1.length])), (oc, some (.row 30 4 x_1.length (lsEl eGPeriod zGPeriod x_1)))], kill := [oc] } m σ v) .ret (z16R x_1) :=
  retM.intro (v := (.tup [])) (by kernel_rfl) ⟨_, left_two (qb := 0) (qr := 1) hne h0 hl rfl rfl rfl (fun _ _ => rfl) rfl (VLe.rfl' _) (.inr ⟨rfl, fun i hi d hd => scal_GPeriod _ d hd⟩) (.inl ⟨rfl, rfl⟩)⟩
theorem z16RokN (x_1 : (List GPeriod)) {H : Heap} {nid : Nat} {ps : List Prop} {ob : Nat} {cs : List V} (hne : ob ≠ nid) (h0 : Heap.get H ob = some (.box cs)) (hl : cs.length = 1) : retM Try.prog [] (fun σ v => ∃ m, Left [ob] nid H false { pre := ps, val := (.tup []), eff := [(ob, some (.box [.row nid 4 0 x_1.length])), (nid, some (.row 30 4 x_1.length (lsEl eGPeriod zGPeriod x_1)))], kill := [] } m σ v) .ret (z16R x_1) :=
  retM.intro (v := (.tup [])) (by kernel_rfl) ⟨_, left_two (qb := 0) (qr := 1) hne h0 hl rfl rfl rfl (fun _ _ => rfl) rfl (VLe.rfl' _) (.inr ⟨rfl, fun i hi d hd => scal_GPeriod _ d hd⟩) (.inr ⟨rfl, rfl, rfl⟩)⟩
def z16l1S (rank : Int) (t3 : GScheme) (days : (List GSpan)) (t2 : (List GPeriod)) (s : (Int × (List GPeriod))) : St := match s with | (t10, t2_1) => ⟨[sv 0 (i64 rank), sv 2 (.ptr 0 1 0 0), sv 3 (.dptr 9 [(di t3.State), (di t3.Version.From), (di t3.Version.Rounding.Mode), (di t3.Version.Rounding.Unit), (.sl 2 t3.Version.Credits.length (lGCredit t3.Version.Credits)), (.sl 3 t3.Version.Series.length (lGIndex t3.Version.Series)), (.sl 7 t3.Version.Lets.length (lGLet t3.Version.Lets)), (.sl 13 t3.Version.Grants.length (lGGrant t3.Version.Grants)), (.sl 7 t3.Version.Reduces.length (lGReduce t3.Version.Reduces))] 0), sv 8 (sGSpan days), sv 9 (i64 (days.length : Int)), sv 10 (i64 t10), sv 1000000 (.ptr 0 1 0 0)], [(0, some (.box [(.row 1 4 0 t2_1.length)])), (rGPeriod 1 30 t2_1)], 2⟩
def z16l1C0 (rank : Int) (t3 : GScheme) (days : (List GSpan)) (t2 : (List GPeriod)) (s : (List GPeriod)) : St := match s with | t1000000 => ⟨[sv 1000000 (.ptr 0 1 0 0)], [(0, some (.box [(.row 1 4 0 t1000000.length)])), (rGPeriod 1 30 t1000000)], 2⟩
def z16l1E (rank : Int) (t3 : GScheme) (days : (List GSpan)) (t2 : (List GPeriod)) (r : (((List GPeriod)))) (K : KT) : Prop := match r with | s => K (.exit 0) (z16l1C0 rank t3 days t2 s)
def z16p0S (rank : Int) (t3 : GScheme) (days : (List GSpan)) (t10 : Int) (t2_1 : (List GPeriod)) : St := ⟨[sv 0 (i64 rank), sv 2 (.ptr 0 1 0 0), sv 3 (.dptr 9 [(di t3.State), (di t3.Version.From), (di t3.Version.Rounding.Mode), (di t3.Version.Rounding.Unit), (.sl 2 t3.Version.Credits.length (lGCredit t3.Version.Credits)), (.sl 3 t3.Version.Series.length (lGIndex t3.Version.Series)), (.sl 7 t3.Version.Lets.length (lGLet t3.Version.Lets)), (.sl 13 t3.Version.Grants.length (lGGrant t3.Version.Grants)), (.sl 7 t3.Version.Reduces.length (lGReduce t3.Version.Reduces))] 0), sv 8 (sGSpan days), sv 9 (i64 (days.length : Int)), sv 10 (i64 t10), sv 1000000 (.ptr 0 1 0 0)], [(0, some (.box [(.row 1 4 0 t2_1.length)])), (rGPeriod 1 30 t2_1)], 2⟩
noncomputable def coverage_Claims_1_p0 (rank : Int) (t3 : GScheme) (days : (List GSpan)) (t10 : Int) (t2_1 : (List GPeriod)) : Option ((Int × (List GPeriod)) ⊕ (((List GPeriod)))) := (bif (decide (t10 < (days.length : Int))) then gd (0 ≤ t10 ∧ t10 < (days.length : Int)) (gd (capB (t2_1.length + 1) 32) ((some (Sum.inl ((w64 (t10 + 1)), (t2_1 ++ ([(GPeriod.mk t3.State rank (days.getD (Int.toNat t10) zGSpan))] : List GPeriod))))))) else (some (Sum.inr t2_1)))
theorem z16p0ok {rank : Int} {t3 : GScheme} {days : (List GSpan)} {t10 : Int} {t2_1 t2 : (List GPeriod)} {K : KT} (h : W (coverage_Claims_1_p0 rank t3 days t10 t2_1) (nE (z16l1S rank t3 days t2) (z16l1E rank t3 days t2) K)) : EvL Try.prog 23 (List.drop 0 z16i1) K (z16p0S rank t3 days t10 t2_1) :=
  EvL.qE mixed [] [0, 2, 3, 8, 9, 10, 1000000] 0 4 (.nx (fun K => let a1_ := (days.length : Int); let a2_ := di t3.Version.Rounding.Mode; let a3_ := di t3.Version.Rounding.Unit; let a4_ := lGCredit t3.Version.Credits; let a5_ := lGReduce t3.Version.Reduces; (bif (decide (t10 < a1_)) then (0 ≤ t10) ∧ (t10 < a1_) ∧ ((t2_1.length = t2_1.length) ∧ ((t2_1.length + 1) * 32 ≤ 140737488355328) ∧ ((t2_1.length + 1) ≤ 140737488355328) ∧ (wK K .normal (⟨[sv 0 (i64 rank), sv 2 (.ptr 0 1 0 0), sv 3 (.dptr 9 [(di t3.State), (di t3.Version.From), a2_, a3_, (.sl 2 t3.Version.Credits.length a4_), (.sl 3 t3.Version.Series.length (lGIndex t3.Version.Series)), (.sl 7 t3.Version.Lets.length (lGLet t3.Version.Lets)), (.sl 13 t3.Version.Grants.length (lGGrant t3.Version.Grants)), (.sl 7 t3.Version.Reduces.length a5_)] 0), sv 8 (sGSpan days), sv 9 (i64 a1_), sv 10 (i64 (w64 (t10 + 1))), sv 1000000 (.ptr 0 1 0 0)], [(0, some (.box [(.row 1 4 0 (t2_1.length + 1))])), (1, some (.row 30 4 (t2_1.length + 1) (fun i => bif Nat.blt i t2_1.length then (lGPeriod t2_1) i else (fun i => (litE 4 (eGPeriod (GPeriod.mk t3.State rank (days.getD (Int.toNat t10) zGSpan)))) (0 + i)) (i - t2_1.length))))], 2⟩))) else wK K (.exit 0) (⟨[sv 0 (i64 rank), sv 2 (.ptr 0 1 0 0), sv 3 (.dptr 9 [(di t3.State), (di t3.Version.From), a2_, a3_, (.sl 2 t3.Version.Credits.length a4_), (.sl 3 t3.Version.Series.length (lGIndex t3.Version.Series)), (.sl 7 t3.Version.Lets.length (lGLet t3.Version.Lets)), (.sl 13 t3.Version.Grants.length (lGGrant t3.Version.Grants)), (.sl 7 t3.Version.Reduces.length a5_)] 0), sv 8 (sGSpan days), sv 9 (i64 a1_), sv 10 (i64 t10), sv 1000000 (.ptr 0 1 0 0)], [(0, some (.box [(.row 1 4 0 t2_1.length)])), (rGPeriod 1 30 t2_1)], 2⟩))) (W_bif h (fun _ h => (W_gd2 h fun _ h => ⟨rfl, (W_gd2 h fun _ h => (lf h (.of (.qs 7 .nil) (.box rfl (.cons (.rown (len_app rfl rfl)) .nil) (.row rfl (RowIs.app .b (RowIs.zero (RowIs.l1 (enc := eGPeriod) (z := zGPeriod) 4 (GPeriod.mk t3.State rank (days.getD (Int.toNat t10) zGSpan)) rfl))) .nil rfl)) rfl)))⟩)) (fun _ h => (lf h (.cn [1000000])))))
noncomputable def coverage_Claims_1_l1 (rank : Int) (t3 : GScheme) (days : (List GSpan)) (t2 : (List GPeriod)) (s : (Int × (List GPeriod))) : Option ((Int × (List GPeriod)) ⊕ (((List GPeriod)))) := match s with | (t10, t2_1) => coverage_Claims_1_p0 rank t3 days t10 t2_1
theorem z16l1ok (rank : Int) (t3 : GScheme) (days : (List GSpan)) (t2 : (List GPeriod)) (s : (Int × (List GPeriod))) : Pp Try.prog 23 (List.drop 0 z16i1) (z16l1S rank t3 days t2 s) (coverage_Claims_1_l1 rank t3 days t2 s) (nextE (z16l1S rank t3 days t2) (z16l1E rank t3 days t2)) := fun K h => match s, h with | (t10, t2_1), h => (z16p0ok h)
theorem z16l1Ethen (rank : Int) (t3 : GScheme) (days : (List GSpan)) (t2 : (List GPeriod)) : ∀ (r : (((List GPeriod)))) (J : St → Prop) (K : KT), z16l1E rank t3 days t2 r K → z16l1E rank t3 days t2 r (thenK J K)
  | s, _, _, h => h
def z16p1S (rank : Int) (t3 : GScheme) (days : (List GSpan)) (t2 : (List GPeriod)) : St := ⟨[sv 0 (i64 rank), sv 2 (.ptr 0 1 0 0), sv 3 (.dptr 9 [(di t3.State), (di t3.Version.From), (di t3.Version.Rounding.Mode), (di t3.Version.Rounding.Unit), (.sl 2 t3.Version.Credits.length (lGCredit t3.Version.Credits)), (.sl 3 t3.Version.Series.length (lGIndex t3.Version.Series)), (.sl 7 t3.Version.Lets.length (lGLet t3.Version.Lets)), (.sl 13 t3.Version.Grants.length (lGGrant t3.Version.Grants)), (.sl 7 t3.Version.Reduces.length (lGReduce t3.Version.Reduces))] 0), sv 8 (sGSpan days), sv 9 (i64 (days.length : Int)), sv 10 (i64 0), sv 1000000 (.ptr 0 1 0 0)], [(0, some (.box [(.row 1 4 0 t2.length)])), (rGPeriod 1 30 t2)], 2⟩
noncomputable def coverage_Claims_1_p1_g (rank : Int) (t3 : GScheme) (days : (List GSpan)) (t2 : (List GPeriod)) (r : (((List GPeriod)))) : Option ((List GPeriod)) := match r with | t1000000 => (some t1000000)
noncomputable def coverage_Claims_1_p1 (rank : Int) (t3 : GScheme) (days : (List GSpan)) (t2 : (List GPeriod)) : Option ((List GPeriod)) := (fixL (coverage_Claims_1_l1 rank t3 days t2) (0, t2)).bind (coverage_Claims_1_p1_g rank t3 days t2)
theorem z16p1at : List.drop 1 z16i0 = .block 0 (.loop (inside (inside (nthI z16i0 1)))) :: List.drop 2 z16i0 := by kernel_rfl
theorem z16p1k (rank : Int) (t3 : GScheme) (days : (List GSpan)) (t2 : (List GPeriod)) (K : KT) : ∀ r : (((List GPeriod))), W (coverage_Claims_1_p1_g rank t3 days t2 r) (rEn z16R K) → z16l1E rank t3 days t2 r (wK (blockK 0 (thenK (EvL Try.prog 23 (List.drop 2 z16i0) K) K)))
  | t1000000, h => ⟨(z16R t1000000), (.refl _), (EvL.end_ (by kernel_rfl : List.drop 2 z16i0 = []) (And.left h))⟩
theorem z16p1ok {rank : Int} {t3 : GScheme} {days : (List GSpan)} {t2 : (List GPeriod)} {K : KT} (h : W (coverage_Claims_1_p1 rank t3 days t2) (rEn z16R K)) : EvL Try.prog 23 (List.drop 1 z16i0) K (z16p1S rank t3 days t2) :=
  EvL.at_ z16p1at (EvL.cons_loop (EvOk.weak (EvOk.ent (.refl _) (EvOk.loopF (x := inside (inside (nthI z16i0 1))) (f := coverage_Claims_1_l1 rank t3 days t2) (emb := z16l1S rank t3 days t2) (E := z16l1E rank t3 days t2) (z16l1ok rank t3 days t2) (z16l1Ethen rank t3 days t2) (W_loop h (z16p1k rank t3 days t2 K))))))
def z16p2S (rank : Int) (days : (List GSpan)) (t3 : GScheme) (t2 : (List GPeriod)) : St := ⟨[sv 0 (i64 rank), sv 1 (sGSpan days), sv 2 (.ptr 0 1 0 0), sv 3 (.dptr 9 [(di t3.State), (di t3.Version.From), (di t3.Version.Rounding.Mode), (di t3.Version.Rounding.Unit), (.sl 2 t3.Version.Credits.length (lGCredit t3.Version.Credits)), (.sl 3 t3.Version.Series.length (lGIndex t3.Version.Series)), (.sl 7 t3.Version.Lets.length (lGLet t3.Version.Lets)), (.sl 13 t3.Version.Grants.length (lGGrant t3.Version.Grants)), (.sl 7 t3.Version.Reduces.length (lGReduce t3.Version.Reduces))] 0), sv 1000000 (.ptr 0 1 0 0)], [(0, some (.box [(.row 1 4 0 t2.length)])), (rGPeriod 1 30 t2)], 2⟩
noncomputable def coverage_Claims_1_p2 (rank : Int) (days : (List GSpan)) (t3 : GScheme) (t2 : (List GPeriod)) : Option ((List GPeriod)) := (coverage_Claims_1_p1 rank t3 days t2)
theorem z16p2ok {rank : Int} {days : (List GSpan)} {t3 : GScheme} {t2 : (List GPeriod)} {K : KT} (h : W (coverage_Claims_1_p2 rank days t3 t2) (rEn z16R K)) : EvL Try.prog 23 (List.drop 0 z16i0) K (z16p2S rank days t3 t2) :=
  EvL.qD mixed [] [0, 2, 3, 8, 9, 10, 1000000] 0 1 1 (.nx (fun K => wK K .normal (z16p1S rank t3 days t2)) (l0 (z16p1ok h)))
noncomputable def coverage_Claims_1 (rank : Int) (days : (List GSpan)) (t2 : (List GPeriod)) (t3 : GScheme) : Option ((List GPeriod)) := coverage_Claims_1_p2 rank days t3 t2
noncomputable def coverage_Claims_1_C : Heap → Nat → List V → Option Res := fun H nid args => match viewF H [false, false, true, false] args with
  | [(.c (.lit (.int .i64 a1))), (.c (.sl k2 n3 e4)), (.ptr o_ k_ i_ j_), (.dptr 9 [(.lit (.int .i64 a5)), (.lit (.int .i64 a6)), (.lit (.int .i64 a7)), (.lit (.int .i64 a8)), (.sl k9 n10 e11), (.sl k12 n13 e14), (.sl k15 n16 e17), (.sl k18 n19 e20), (.sl k21 n22 e23)] 0)] => (match Heap.get H o_ with
    | some (.box [.row c_ k2_ f_ n_]) => (match Heap.get H c_ with
      | some (.row t_ k3_ m_ e_) => bif !(Nat.beq o_ c_) && Nat.beq k_ 1 && Nat.beq i_ 0 && Nat.beq j_ 0 && Nat.beq t_ 30 && Nat.beq k2_ 4 && Nat.beq k3_ 4 && Nat.beq f_ 0 && handOk [o_, c_] H false [false, false, true, false] args then some { pre := [LstOk eGSpan dGSpan 2 k2 n3 e4, n_ = m_, LstOk eGPeriod dGPeriod 4 4 m_ e_, LstOk eGCredit dGCredit 2 k9 n10 e11, LstOk eGIndex dGIndex 3 k12 n13 e14, LstOk eGLet dGLet 7 k15 n16 e17, LstOk eGGrant dGGrant 13 k18 n19 e20, LstOk eGReduce dGReduce 7 k21 n22 e23, (coverage_Claims_1 a1 (lst dGSpan n3 e4) (lst dGPeriod m_ e_) (GScheme.mk a5 (GVersion.mk a6 (GRounding.mk a7 a8) (lst dGCredit n10 e11) (lst dGIndex n13 e14) (lst dGLet n16 e17) (lst dGGrant n19 e20) (lst dGReduce n22 e23)))).isSome = true], val := (.tup []), eff := [(o_, some (.box [.row c_ 4 0 ((coverage_Claims_1 a1 (lst dGSpan n3 e4) (lst dGPeriod m_ e_) (GScheme.mk a5 (GVersion.mk a6 (GRounding.mk a7 a8) (lst dGCredit n10 e11) (lst dGIndex n13 e14) (lst dGLet n16 e17) (lst dGGrant n19 e20) (lst dGReduce n22 e23)))).getD ([] : List GPeriod)).length])), (c_, some (.row 30 4 ((coverage_Claims_1 a1 (lst dGSpan n3 e4) (lst dGPeriod m_ e_) (GScheme.mk a5 (GVersion.mk a6 (GRounding.mk a7 a8) (lst dGCredit n10 e11) (lst dGIndex n13 e14) (lst dGLet n16 e17) (lst dGGrant n19 e20) (lst dGReduce n22 e23)))).getD ([] : List GPeriod)).length (lsEl eGPeriod zGPeriod ((coverage_Claims_1 a1 (lst dGSpan n3 e4) (lst dGPeriod m_ e_) (GScheme.mk a5 (GVersion.mk a6 (GRounding.mk a7 a8) (lst dGCredit n10 e11) (lst dGIndex n13 e14) (lst dGLet n16 e17) (lst dGGrant n19 e20) (lst dGReduce n22 e23)))).getD ([] : List GPeriod)))))], kill := [c_] } else none
      | _ => none)
    | some (.box [.c .nil]) => bif !(Nat.beq o_ nid) && Nat.beq k_ 1 && Nat.beq i_ 0 && Nat.beq j_ 0 && handOk [o_] H false [false, false, true, false] args then some { pre := [LstOk eGSpan dGSpan 2 k2 n3 e4, LstOk eGCredit dGCredit 2 k9 n10 e11, LstOk eGIndex dGIndex 3 k12 n13 e14, LstOk eGLet dGLet 7 k15 n16 e17, LstOk eGGrant dGGrant 13 k18 n19 e20, LstOk eGReduce dGReduce 7 k21 n22 e23, (coverage_Claims_1 a1 (lst dGSpan n3 e4) ([] : List GPeriod) (GScheme.mk a5 (GVersion.mk a6 (GRounding.mk a7 a8) (lst dGCredit n10 e11) (lst dGIndex n13 e14) (lst dGLet n16 e17) (lst dGGrant n19 e20) (lst dGReduce n22 e23)))).isSome = true], val := (.tup []), eff := [(o_, some (.box [.row nid 4 0 ((coverage_Claims_1 a1 (lst dGSpan n3 e4) ([] : List GPeriod) (GScheme.mk a5 (GVersion.mk a6 (GRounding.mk a7 a8) (lst dGCredit n10 e11) (lst dGIndex n13 e14) (lst dGLet n16 e17) (lst dGGrant n19 e20) (lst dGReduce n22 e23)))).getD ([] : List GPeriod)).length])), (nid, some (.row 30 4 ((coverage_Claims_1 a1 (lst dGSpan n3 e4) ([] : List GPeriod) (GScheme.mk a5 (GVersion.mk a6 (GRounding.mk a7 a8) (lst dGCredit n10 e11) (lst dGIndex n13 e14) (lst dGLet n16 e17) (lst dGGrant n19 e20) (lst dGReduce n22 e23)))).getD ([] : List GPeriod)).length (lsEl eGPeriod zGPeriod ((coverage_Claims_1 a1 (lst dGSpan n3 e4) ([] : List GPeriod) (GScheme.mk a5 (GVersion.mk a6 (GRounding.mk a7 a8) (lst dGCredit n10 e11) (lst dGIndex n13 e14) (lst dGLet n16 e17) (lst dGGrant n19 e20) (lst dGReduce n22 e23)))).getD ([] : List GPeriod)))))], kill := [] } else none
    | _ => none)
  | _ => none
theorem coverage_Claims_1_ok : MeetsC Try.prog 16 (.mut coverage_Claims_1_C) := by
  refine meets_boxr (fn := Try.f16) (c := bodyOf Try.f16) (by kernel_rfl) (by kernel_rfl) (by kernel_rfl) (rs := []) (by kernel_rfl) (nt := 23) (by kernel_rfl) fun H nid args r h hp => ?_
  unfold coverage_Claims_1_C at h
  split at h
  · next a1 k2 n3 e4 o_ k_ i_ j_ a5 a6 a7 a8 k9 n10 e11 k12 n13 e14 k15 n16 e17 k18 n19 e20 k21 n22 e23 hv =>
    split at h
    · next c_ k2_ f_ n_ hg =>
      split at h
      · next t_ k3_ m_ e_ hg2 =>
        cases hb : (!(Nat.beq o_ c_) && Nat.beq k_ 1 && Nat.beq i_ 0 && Nat.beq j_ 0 && Nat.beq t_ 30 && Nat.beq k2_ 4 && Nat.beq k3_ 4 && Nat.beq f_ 0 && handOk [o_, c_] H false [false, false, true, false] args) with
        | false => rw [hb] at h; cases h
        | true =>
          rw [hb] at h
          simp only [Bool.and_eq_true, Nat.beq_eq] at hb
          obtain ⟨⟨⟨⟨⟨⟨⟨⟨hq, rfl⟩, rfl⟩, rfl⟩, rfl⟩, rfl⟩, rfl⟩, rfl⟩, hk⟩ := hb
          have hne : o_ ≠ c_ := fun e => by rw [e, beq_self] at hq; cases hq
          cases h
          obtain ⟨g0, hp⟩ := allq hp
          obtain ⟨hn, hp⟩ := allq hp
          obtain ⟨gr, hp⟩ := allq hp
          obtain ⟨g1, hp⟩ := allq hp
          obtain ⟨g2, hp⟩ := allq hp
          obtain ⟨g3, hp⟩ := allq hp
          obtain ⟨g4, hp⟩ := allq hp
          obtain ⟨g5, hp⟩ := allq hp
          obtain ⟨g, hp⟩ := allq hp
          obtain ⟨x, hx⟩ := Option.isSome_iff_exists.1 g
          rw [hx]
          subst hn
          exact .inl ⟨false, [false, false, true, false], o_, c_, 30, 4, _, e_, [(i64 a1), (sGSpan (lst dGSpan n3 e4)), .ptr 0 1 0 0, (.dptr 9 [(di (GScheme.mk a5 (GVersion.mk a6 (GRounding.mk a7 a8) (lst dGCredit n10 e11) (lst dGIndex n13 e14) (lst dGLet n16 e17) (lst dGGrant n19 e20) (lst dGReduce n22 e23))).State), (di ((GScheme.mk a5 (GVersion.mk a6 (GRounding.mk a7 a8) (lst dGCredit n10 e11) (lst dGIndex n13 e14) (lst dGLet n16 e17) (lst dGGrant n19 e20) (lst dGReduce n22 e23))).Version).From), (di (((GScheme.mk a5 (GVersion.mk a6 (GRounding.mk a7 a8) (lst dGCredit n10 e11) (lst dGIndex n13 e14) (lst dGLet n16 e17) (lst dGGrant n19 e20) (lst dGReduce n22 e23))).Version).Rounding).Mode), (di (((GScheme.mk a5 (GVersion.mk a6 (GRounding.mk a7 a8) (lst dGCredit n10 e11) (lst dGIndex n13 e14) (lst dGLet n16 e17) (lst dGGrant n19 e20) (lst dGReduce n22 e23))).Version).Rounding).Unit), (.sl 2 (((GScheme.mk a5 (GVersion.mk a6 (GRounding.mk a7 a8) (lst dGCredit n10 e11) (lst dGIndex n13 e14) (lst dGLet n16 e17) (lst dGGrant n19 e20) (lst dGReduce n22 e23))).Version).Credits).length (lGCredit (((GScheme.mk a5 (GVersion.mk a6 (GRounding.mk a7 a8) (lst dGCredit n10 e11) (lst dGIndex n13 e14) (lst dGLet n16 e17) (lst dGGrant n19 e20) (lst dGReduce n22 e23))).Version).Credits))), (.sl 3 (((GScheme.mk a5 (GVersion.mk a6 (GRounding.mk a7 a8) (lst dGCredit n10 e11) (lst dGIndex n13 e14) (lst dGLet n16 e17) (lst dGGrant n19 e20) (lst dGReduce n22 e23))).Version).Series).length (lGIndex (((GScheme.mk a5 (GVersion.mk a6 (GRounding.mk a7 a8) (lst dGCredit n10 e11) (lst dGIndex n13 e14) (lst dGLet n16 e17) (lst dGGrant n19 e20) (lst dGReduce n22 e23))).Version).Series))), (.sl 7 (((GScheme.mk a5 (GVersion.mk a6 (GRounding.mk a7 a8) (lst dGCredit n10 e11) (lst dGIndex n13 e14) (lst dGLet n16 e17) (lst dGGrant n19 e20) (lst dGReduce n22 e23))).Version).Lets).length (lGLet (((GScheme.mk a5 (GVersion.mk a6 (GRounding.mk a7 a8) (lst dGCredit n10 e11) (lst dGIndex n13 e14) (lst dGLet n16 e17) (lst dGGrant n19 e20) (lst dGReduce n22 e23))).Version).Lets))), (.sl 13 (((GScheme.mk a5 (GVersion.mk a6 (GRounding.mk a7 a8) (lst dGCredit n10 e11) (lst dGIndex n13 e14) (lst dGLet n16 e17) (lst dGGrant n19 e20) (lst dGReduce n22 e23))).Version).Grants).length (lGGrant (((GScheme.mk a5 (GVersion.mk a6 (GRounding.mk a7 a8) (lst dGCredit n10 e11) (lst dGIndex n13 e14) (lst dGLet n16 e17) (lst dGGrant n19 e20) (lst dGReduce n22 e23))).Version).Grants))), (.sl 7 (((GScheme.mk a5 (GVersion.mk a6 (GRounding.mk a7 a8) (lst dGCredit n10 e11) (lst dGIndex n13 e14) (lst dGLet n16 e17) (lst dGGrant n19 e20) (lst dGReduce n22 e23))).Version).Reduces).length (lGReduce (((GScheme.mk a5 (GVersion.mk a6 (GRounding.mk a7 a8) (lst dGCredit n10 e11) (lst dGIndex n13 e14) (lst dGLet n16 e17) (lst dGGrant n19 e20) (lst dGReduce n22 e23))).Version).Reduces)))] 0)], hne, hg, hg2, hk, by rw [hv]; simp only [renF, cond_true, cond_false, ren_ptrc]; exact (VLes.cons (VLe.rfl' _) (VLes.cons (VLe.slk g0.1 (RowIs.of_ok g0)) (VLes.cons (VLe.rfl' _) (VLes.cons (VLe.dptr (DsLe.cons (.refl _) (DsLe.cons (.refl _) (DsLe.cons (.refl _) (DsLe.cons (.refl _) (DsLe.cons (DLe.ls g1.1 (RowIs.of_ok g1)) (DsLe.cons (DLe.ls g2.1 (RowIs.of_ok g2)) (DsLe.cons (DLe.ls g3.1 (RowIs.of_ok g3)) (DsLe.cons (DLe.ls g4.1 (RowIs.of_ok g4)) (DsLe.cons (DLe.ls g5.1 (RowIs.of_ok g5)) DsLe.nil)))))))))) VLes.nil)))), rfl, EvL.ent (Ent.of (tmLe.cons rfl (VLe.rfl' _) (tmLe.cons rfl (VLe.rfl' _) (tmLe.cons rfl (VLe.rfl' _) (tmLe.cons rfl (VLe.rfl' _) (tmLe.cons rfl (VLe.rfl' _) tmLe.nil))))) (hpLe.box rfl (VLes.cons (VLe.rown (RowIs.of_ok (z := zGPeriod) gr).len) VLes.nil) (hpLe.row rfl (RowIs.of_ok gr) hpLe.nil rfl)) rfl) (@z16p2ok a1 (lst dGSpan n3 e4) (GScheme.mk a5 (GVersion.mk a6 (GRounding.mk a7 a8) (lst dGCredit n10 e11) (lst dGIndex n13 e14) (lst dGLet n16 e17) (lst dGGrant n19 e20) (lst dGReduce n22 e23))) (lst dGPeriod _ e_) _ (W_iff.2 ⟨x, hx, ⟨z16Rok x hne hg rfl, z16Rok x hne hg rfl⟩⟩))⟩
      · cases h
    · next hg =>
        cases hb : (!(Nat.beq o_ nid) && Nat.beq k_ 1 && Nat.beq i_ 0 && Nat.beq j_ 0 && handOk [o_] H false [false, false, true, false] args) with
        | false => rw [hb] at h; cases h
        | true =>
          rw [hb] at h
          simp only [Bool.and_eq_true, Nat.beq_eq] at hb
          obtain ⟨⟨⟨⟨hq, rfl⟩, rfl⟩, rfl⟩, hk⟩ := hb
          have hne : o_ ≠ nid := fun e => by rw [e, beq_self] at hq; cases hq
          cases h
          obtain ⟨g0, hp⟩ := allq hp
          obtain ⟨g1, hp⟩ := allq hp
          obtain ⟨g2, hp⟩ := allq hp
          obtain ⟨g3, hp⟩ := allq hp
          obtain ⟨g4, hp⟩ := allq hp
          obtain ⟨g5, hp⟩ := allq hp
          obtain ⟨g, hp⟩ := allq hp
          obtain ⟨x, hx⟩ := Option.isSome_iff_exists.1 g
          rw [hx]
          exact .inr ⟨false, [false, false, true, false], o_, [(i64 a1), (sGSpan (lst dGSpan n3 e4)), .ptr 0 1 0 0, (.dptr 9 [(di (GScheme.mk a5 (GVersion.mk a6 (GRounding.mk a7 a8) (lst dGCredit n10 e11) (lst dGIndex n13 e14) (lst dGLet n16 e17) (lst dGGrant n19 e20) (lst dGReduce n22 e23))).State), (di ((GScheme.mk a5 (GVersion.mk a6 (GRounding.mk a7 a8) (lst dGCredit n10 e11) (lst dGIndex n13 e14) (lst dGLet n16 e17) (lst dGGrant n19 e20) (lst dGReduce n22 e23))).Version).From), (di (((GScheme.mk a5 (GVersion.mk a6 (GRounding.mk a7 a8) (lst dGCredit n10 e11) (lst dGIndex n13 e14) (lst dGLet n16 e17) (lst dGGrant n19 e20) (lst dGReduce n22 e23))).Version).Rounding).Mode), (di (((GScheme.mk a5 (GVersion.mk a6 (GRounding.mk a7 a8) (lst dGCredit n10 e11) (lst dGIndex n13 e14) (lst dGLet n16 e17) (lst dGGrant n19 e20) (lst dGReduce n22 e23))).Version).Rounding).Unit), (.sl 2 (((GScheme.mk a5 (GVersion.mk a6 (GRounding.mk a7 a8) (lst dGCredit n10 e11) (lst dGIndex n13 e14) (lst dGLet n16 e17) (lst dGGrant n19 e20) (lst dGReduce n22 e23))).Version).Credits).length (lGCredit (((GScheme.mk a5 (GVersion.mk a6 (GRounding.mk a7 a8) (lst dGCredit n10 e11) (lst dGIndex n13 e14) (lst dGLet n16 e17) (lst dGGrant n19 e20) (lst dGReduce n22 e23))).Version).Credits))), (.sl 3 (((GScheme.mk a5 (GVersion.mk a6 (GRounding.mk a7 a8) (lst dGCredit n10 e11) (lst dGIndex n13 e14) (lst dGLet n16 e17) (lst dGGrant n19 e20) (lst dGReduce n22 e23))).Version).Series).length (lGIndex (((GScheme.mk a5 (GVersion.mk a6 (GRounding.mk a7 a8) (lst dGCredit n10 e11) (lst dGIndex n13 e14) (lst dGLet n16 e17) (lst dGGrant n19 e20) (lst dGReduce n22 e23))).Version).Series))), (.sl 7 (((GScheme.mk a5 (GVersion.mk a6 (GRounding.mk a7 a8) (lst dGCredit n10 e11) (lst dGIndex n13 e14) (lst dGLet n16 e17) (lst dGGrant n19 e20) (lst dGReduce n22 e23))).Version).Lets).length (lGLet (((GScheme.mk a5 (GVersion.mk a6 (GRounding.mk a7 a8) (lst dGCredit n10 e11) (lst dGIndex n13 e14) (lst dGLet n16 e17) (lst dGGrant n19 e20) (lst dGReduce n22 e23))).Version).Lets))), (.sl 13 (((GScheme.mk a5 (GVersion.mk a6 (GRounding.mk a7 a8) (lst dGCredit n10 e11) (lst dGIndex n13 e14) (lst dGLet n16 e17) (lst dGGrant n19 e20) (lst dGReduce n22 e23))).Version).Grants).length (lGGrant (((GScheme.mk a5 (GVersion.mk a6 (GRounding.mk a7 a8) (lst dGCredit n10 e11) (lst dGIndex n13 e14) (lst dGLet n16 e17) (lst dGGrant n19 e20) (lst dGReduce n22 e23))).Version).Grants))), (.sl 7 (((GScheme.mk a5 (GVersion.mk a6 (GRounding.mk a7 a8) (lst dGCredit n10 e11) (lst dGIndex n13 e14) (lst dGLet n16 e17) (lst dGGrant n19 e20) (lst dGReduce n22 e23))).Version).Reduces).length (lGReduce (((GScheme.mk a5 (GVersion.mk a6 (GRounding.mk a7 a8) (lst dGCredit n10 e11) (lst dGIndex n13 e14) (lst dGLet n16 e17) (lst dGGrant n19 e20) (lst dGReduce n22 e23))).Version).Reduces)))] 0)], hg, hk, by rw [hv]; simp only [renF, cond_true, cond_false, ren_ptrc]; exact (VLes.cons (VLe.rfl' _) (VLes.cons (VLe.slk g0.1 (RowIs.of_ok g0)) (VLes.cons (VLe.rfl' _) (VLes.cons (VLe.dptr (DsLe.cons (.refl _) (DsLe.cons (.refl _) (DsLe.cons (.refl _) (DsLe.cons (.refl _) (DsLe.cons (DLe.ls g1.1 (RowIs.of_ok g1)) (DsLe.cons (DLe.ls g2.1 (RowIs.of_ok g2)) (DsLe.cons (DLe.ls g3.1 (RowIs.of_ok g3)) (DsLe.cons (DLe.ls g4.1 (RowIs.of_ok g4)) (DsLe.cons (DLe.ls g5.1 (RowIs.of_ok g5)) DsLe.nil)))))))))) VLes.nil)))), rfl, EvL.ent (Ent.trans (Ent.nilbox 0 0 1 30 4 (lsEl eGPeriod zGPeriod []) [.c .nil] (Nat.le_of_ble_eq_true rfl) rfl rfl) (Ent.of (tmLe.cons rfl (VLe.rfl' _) (tmLe.cons rfl (VLe.rfl' _) (tmLe.cons rfl (VLe.rfl' _) (tmLe.cons rfl (VLe.rfl' _) (tmLe.cons rfl (VLe.rfl' _) tmLe.nil))))) (hpLe.box rfl (VLes.cons (VLe.rown rfl) VLes.nil) (hpLe.row rfl (RowIs.ls eGPeriod zGPeriod []) hpLe.nil rfl)) rfl)) (@z16p2ok a1 (lst dGSpan n3 e4) (GScheme.mk a5 (GVersion.mk a6 (GRounding.mk a7 a8) (lst dGCredit n10 e11) (lst dGIndex n13 e14) (lst dGLet n16 e17) (lst dGGrant n19 e20) (lst dGReduce n22 e23))) ([] : List GPeriod) _ (W_iff.2 ⟨x, hx, ⟨z16RokN x hne hg rfl, z16RokN x hne hg rfl⟩⟩))⟩
    · cases h
  · cases h
noncomputable abbrev e16 : FE Try.prog := ⟨16, .mut coverage_Claims_1_C, coverage_Claims_1_ok⟩

noncomputable def z13i0 : List Code := items (bodyOf Try.f13)
def coverage_credited_out (x_1 : (List GAnon57)) : Out := .own true 57 2 (x_1).length (lsEl eGAnon57 zGAnon57 x_1)
def z13R (x_1 : (List GAnon57)) : St := ⟨[sv 0 (.row 0 2 0 x_1.length)], [(rGAnon57 0 57 x_1)], 1⟩
def z13p0S : St := ⟨[], [], 0⟩
noncomputable def coverage_credited_p0 : Option ((List GAnon57)) := (some ([(GAnon57.mk 6 2), (GAnon57.mk 9 3), (GAnon57.mk 7 4), (GAnon57.mk 8 5), (GAnon57.mk 10 6), (GAnon57.mk 5 7)] : List GAnon57))
theorem z13p0ok {K : KT} (h : W (coverage_credited_p0) (rE z13R K)) : EvL Try.prog 8 (List.drop 0 z13i0) K (z13p0S) :=
  EvL.qE mixed [] [0] 0 3 (.nx (fun K => wK K .ret (⟨[sv 0 (.row 0 2 0 6)], [(0, some (.row 57 2 6 (fun i => (List.take 2 (List.drop (i * 2) (eGAnon57 (GAnon57.mk 6 2) ++ eGAnon57 (GAnon57.mk 9 3) ++ eGAnon57 (GAnon57.mk 7 4) ++ eGAnon57 (GAnon57.mk 8 5) ++ eGAnon57 (GAnon57.mk 10 6) ++ eGAnon57 (GAnon57.mk 5 7)))))))], 1⟩)) (lf h (.of (.q rfl .nil) (.row rfl (RowIs.lits (el := (fun i => (List.take 2 (List.drop (i * 2) (eGAnon57 (GAnon57.mk 6 2) ++ eGAnon57 (GAnon57.mk 9 3) ++ eGAnon57 (GAnon57.mk 7 4) ++ eGAnon57 (GAnon57.mk 8 5) ++ eGAnon57 (GAnon57.mk 10 6) ++ eGAnon57 (GAnon57.mk 5 7)))))) (z := zGAnon57) (l := ([(GAnon57.mk 6 2), (GAnon57.mk 9 3), (GAnon57.mk 7 4), (GAnon57.mk 8 5), (GAnon57.mk 10 6), (GAnon57.mk 5 7)] : List GAnon57)) ⟨.refl _, .refl _, .refl _, .refl _, .refl _, .refl _, trivial⟩) .nil rfl) rfl)))
noncomputable def coverage_credited : Option ((List GAnon57)) := coverage_credited_p0
noncomputable def coverage_credited_C : Con := con0 coverage_credited ([] : List GAnon57) coverage_credited_out
theorem coverage_credited_ok : Meets Try.prog 13 coverage_credited_C := meets0 Try.f13 (bodyOf Try.f13) [.tmp 0] 8 fun y h => @z13p0ok _ (W_iff.2 ⟨y, h, (rtI (.row 0 2 0 y.length) (⟨_, _, _, rfl, rfl, rfl, fun _ _ => rfl, fun _ i hi d hd => scal_GAnon57 _ d hd⟩))⟩)
noncomputable abbrev e13 : FE Try.prog := ⟨13, .pure coverage_credited_C, coverage_credited_ok⟩

noncomputable def z29i0 : List Code := items (bodyOf Try.f29)
def statute_Credit_1_out (x_1 : Bool) : Out := .data (bl x_1)
def z29R (x_1 : Bool) : St := ⟨[sv 3 (bl x_1)], [], 0⟩
theorem z29Rok (x_1 : Bool) : retK Try.prog [.tmp 3] (OutOk (statute_Credit_1_out x_1)) .ret (z29R x_1) :=
  retK.intro (v := (bl x_1)) (by kernel_rfl) ((VLe.rfl' _))
def z29p0S (c : GCredit) (t1 : Int) : St := ⟨[sv 0 (.ag (eGCredit c)), sv 1 (.dptr 1 [(di t1)] 0)], [], 0⟩
noncomputable def statute_Credit_1_p0 (c : GCredit) (t1 : Int) : Option (Bool) := (some (c.Kind == t1))
theorem z29p0ok {c : GCredit} {t1 : Int} {K : KT} (h : W (statute_Credit_1_p0 c t1) (rE z29R K)) : EvL Try.prog 8 (List.drop 0 z29i0) K (z29p0S c t1) :=
  EvL.qE mixed [] [3] 0 3 (.nx (fun K => wK K .ret (z29R (c.Kind == t1))) (l0 h))
noncomputable def statute_Credit_1 (c : GCredit) (t1 : Int) : Option (Bool) := statute_Credit_1_p0 c t1
theorem z29run (c : GCredit) (t1 : Int) (y_ : Bool) (h : statute_Credit_1 c t1 = some y_) : EvL Try.prog 8 (items (bodyOf Try.f29)) (retK Try.prog [.tmp 3] (OutOk (statute_Credit_1_out y_))) (z29p0S c t1) :=
  @z29p0ok c t1 _ (W_iff.2 ⟨y_, h, z29Rok y_⟩)
noncomputable def statute_Credit_1_C : Con
  | [(.agg [(.c (.lit (.int .i64 a1))), (.c (.lit (.int .i64 a2)))]), (.dptr 1 [(.lit (.int .i64 a3))] 0)] => some ([(statute_Credit_1 (GCredit.mk a1 a2) a3).isSome = true], (statute_Credit_1_out ((statute_Credit_1 (GCredit.mk a1 a2) a3).getD false)))
  | _ => none
theorem statute_Credit_1_ok : Meets Try.prog 29 statute_Credit_1_C := by
  refine meets_fun (fn := Try.f29) (c := bodyOf Try.f29) (by kernel_rfl) (by kernel_rfl) (by kernel_rfl) (rs := [.tmp 3]) (by kernel_rfl) (nt := 8) (by kernel_rfl) fun vs p out h hp => ?_
  unfold statute_Credit_1_C at h
  split at h
  · next a1 a2 a3 =>
    cases h
    obtain ⟨g, hp⟩ := allq hp
    obtain ⟨x, hx⟩ := Option.isSome_iff_exists.1 g
    rw [hx]
    exact ⟨[(.agg [(i64 (GCredit.mk a1 a2).Kind), (i64 (GCredit.mk a1 a2).Limit)]), (.dptr 1 [(di a3)] 0)], (VLes.cons (VLe.rfl' _) (VLes.cons (VLe.rfl' _) VLes.nil)), rfl, z29run (GCredit.mk a1 a2) a3 x hx⟩
  · cases h
noncomputable abbrev e29 : FE Try.prog := ⟨29, .pure statute_Credit_1_C, statute_Credit_1_ok⟩

noncomputable def z28i0 : List Code := items (bodyOf Try.f28)
noncomputable def z28i1 : List Code := items (inside (inside (nthI z28i0 2)))
def slices_IndexFunc_api_Credit_api_Credit_Credit_1_out (x_1 : Int) : Out := .data (i64 x_1)
def z28R (x_1 : Int) : St := ⟨[sv 4 (i64 x_1)], [], 0⟩
theorem z28Rok (x_1 : Int) : retK Try.prog [.tmp 4] (OutOk (slices_IndexFunc_api_Credit_api_Credit_Credit_1_out x_1)) .ret (z28R x_1) :=
  retK.intro (v := (i64 x_1)) (by kernel_rfl) ((VLe.rfl' _))
def z28l1S (s_1 : (List GCredit)) (f : Int) (s : (Int)) : St := match s with | t8 => ⟨[sv 0 (sGCredit s_1), sv 1 (.fn 29 [(.dptr 1 [(di f)] 0)]), sv 7 (i64 (s_1.length : Int)), sv 8 (i64 t8)], [], 0⟩
def z28l1C0 (s_1 : (List GCredit)) (f : Int) (s : Int) : St := match s with | t4_1 => ⟨[sv 4 (i64 t4_1)], [], 0⟩
def z28l1C1 (s_1 : (List GCredit)) (f : Int) (s : Unit) : St := match s with | () => ⟨[], [], 0⟩
def z28l1E (s_1 : (List GCredit)) (f : Int) (r : ((Int) ⊕ (Unit))) (K : KT) : Prop := match r with | (.inl s) => K .ret (z28l1C0 s_1 f s) | (.inr s) => K (.exit 0) (z28l1C1 s_1 f s)
def z28p0S (s_1 : (List GCredit)) (f t8 : Int) : St := ⟨[sv 0 (sGCredit s_1), sv 1 (.fn 29 [(.dptr 1 [(di f)] 0)]), sv 7 (i64 (s_1.length : Int)), sv 8 (i64 t8)], [], 0⟩
noncomputable def slices_IndexFunc_api_Credit_api_Credit_Credit_1_p0 (s_1 : (List GCredit)) (f t8 : Int) : Option ((Int) ⊕ ((Int) ⊕ (Unit))) := (bif (decide (t8 < (s_1.length : Int))) then gd (0 ≤ t8 ∧ t8 < (s_1.length : Int)) ((statute_Credit_1 (s_1.getD (Int.toNat t8) zGCredit) f).bind fun r_1 => ((bif r_1 then (some (Sum.inr (Sum.inl t8))) else (some (Sum.inl (w64 (t8 + 1))))))) else (some (Sum.inr (Sum.inr ()))))
theorem z28p0ok {s_1 : (List GCredit)} {f t8 : Int} {K : KT} (h : W (slices_IndexFunc_api_Credit_api_Credit_Credit_1_p0 s_1 f t8) (nE (z28l1S s_1 f) (z28l1E s_1 f) K)) : EvL Try.prog 19 (List.drop 0 z28i1) K (z28p0S s_1 f t8) :=
  EvL.qE mixed [e29] [0, 1, 4, 7, 8] 0 4 (.nx (fun K => let a1_ := statute_Credit_1 (s_1.getD (Int.toNat t8) zGCredit) f; let a2_ := (s_1.length : Int); (bif (decide (t8 < a2_)) then (0 ≤ t8) ∧ (t8 < a2_) ∧ (a1_.isSome = true) ∧ ((bif (a1_.getD false) then wK K .ret (⟨[sv 0 (sGCredit s_1), sv 1 (.fn 29 [(.dptr 1 [(di f)] 0)]), sv 4 (i64 t8), sv 7 (i64 a2_), sv 8 (i64 t8)], [], 0⟩) else wK K .normal (z28l1S s_1 f (w64 (t8 + 1))))) else wK K (.exit 0) (⟨[sv 0 (sGCredit s_1), sv 1 (.fn 29 [(.dptr 1 [(di f)] 0)]), sv 7 (i64 a2_), sv 8 (i64 t8)], [], 0⟩))) (W_bif h (fun _ h => (W_gd2 h fun _ h => (W_bind false h fun _ h => (W_bif h (fun _ h => (lf h (.cn [4]))) (fun _ h => (l0 h)))))) (fun _ h => (lf h (.cn [])))))
noncomputable def slices_IndexFunc_api_Credit_api_Credit_Credit_1_l1 (s_1 : (List GCredit)) (f : Int) (s : (Int)) : Option ((Int) ⊕ ((Int) ⊕ (Unit))) := match s with | t8 => slices_IndexFunc_api_Credit_api_Credit_Credit_1_p0 s_1 f t8
theorem z28l1ok (s_1 : (List GCredit)) (f : Int) (s : (Int)) : Pp Try.prog 19 (List.drop 0 z28i1) (z28l1S s_1 f s) (slices_IndexFunc_api_Credit_api_Credit_Credit_1_l1 s_1 f s) (nextE (z28l1S s_1 f) (z28l1E s_1 f)) := fun K h => match s, h with | t8, h => (z28p0ok h)
theorem z28l1Ethen (s_1 : (List GCredit)) (f : Int) : ∀ (r : ((Int) ⊕ (Unit))) (J : St → Prop) (K : KT), z28l1E s_1 f r K → z28l1E s_1 f r (thenK J K)
  | (.inl s), _, _, h => h
  | (.inr s), _, _, h => h
def z28p1S : St := ⟨[], [], 0⟩
noncomputable def slices_IndexFunc_api_Credit_api_Credit_Credit_1_p1 : Option (Int) := (some (-1))
theorem z28p1ok {K : KT} (h : W (slices_IndexFunc_api_Credit_api_Credit_Credit_1_p1) (rE z28R K)) : EvL Try.prog 19 (List.drop 3 z28i0) K (z28p1S) :=
  EvL.qE mixed [] [4] 3 2 (.nx (fun K => wK K .ret (z28R (-1))) (l0 h))
def z28p2S (s_1 : (List GCredit)) (f : Int) : St := ⟨[sv 0 (sGCredit s_1), sv 1 (.fn 29 [(.dptr 1 [(di f)] 0)]), sv 7 (i64 (s_1.length : Int)), sv 8 (i64 0)], [], 0⟩
noncomputable def slices_IndexFunc_api_Credit_api_Credit_Credit_1_p2_g (s_1 : (List GCredit)) (f : Int) (r : ((Int) ⊕ (Unit))) : Option (Int) := match r with | (.inl t4_1) => (some t4_1) | (.inr ()) => slices_IndexFunc_api_Credit_api_Credit_Credit_1_p1
noncomputable def slices_IndexFunc_api_Credit_api_Credit_Credit_1_p2 (s_1 : (List GCredit)) (f : Int) : Option (Int) := (fixL (slices_IndexFunc_api_Credit_api_Credit_Credit_1_l1 s_1 f) 0).bind (slices_IndexFunc_api_Credit_api_Credit_Credit_1_p2_g s_1 f)
theorem z28p2at : List.drop 2 z28i0 = .block 0 (.loop (inside (inside (nthI z28i0 2)))) :: List.drop 3 z28i0 := by kernel_rfl
theorem z28p2k (s_1 : (List GCredit)) (f : Int) (K : KT) : ∀ r : ((Int) ⊕ (Unit)), W (slices_IndexFunc_api_Credit_api_Credit_Credit_1_p2_g s_1 f r) (rE z28R K) → z28l1E s_1 f r (wK (blockK 0 (thenK (EvL Try.prog 19 (List.drop 3 z28i0) K) K)))
  | (.inl t4_1), h => ⟨(z28R t4_1), (.refl _), h⟩
  | (.inr ()), h => ⟨(z28p1S), (.refl _), (z28p1ok h)⟩
theorem z28p2ok {s_1 : (List GCredit)} {f : Int} {K : KT} (h : W (slices_IndexFunc_api_Credit_api_Credit_Credit_1_p2 s_1 f) (rE z28R K)) : EvL Try.prog 19 (List.drop 2 z28i0) K (z28p2S s_1 f) :=
  EvL.at_ z28p2at (EvL.cons_loop (EvOk.weak (EvOk.ent (.refl _) (EvOk.loopF (x := inside (inside (nthI z28i0 2))) (f := slices_IndexFunc_api_Credit_api_Credit_Credit_1_l1 s_1 f) (emb := z28l1S s_1 f) (E := z28l1E s_1 f) (z28l1ok s_1 f) (z28l1Ethen s_1 f) (W_loop h (z28p2k s_1 f K))))))
def z28p3S (s_1 : (List GCredit)) (f : Int) : St := ⟨[sv 0 (sGCredit s_1), sv 1 (.fn 29 [(.dptr 1 [(di f)] 0)])], [], 0⟩
noncomputable def slices_IndexFunc_api_Credit_api_Credit_Credit_1_p3 (s_1 : (List GCredit)) (f : Int) : Option (Int) := (slices_IndexFunc_api_Credit_api_Credit_Credit_1_p2 s_1 f)
theorem z28p3ok {s_1 : (List GCredit)} {f : Int} {K : KT} (h : W (slices_IndexFunc_api_Credit_api_Credit_Credit_1_p3 s_1 f) (rE z28R K)) : EvL Try.prog 19 (List.drop 0 z28i0) K (z28p3S s_1 f) :=
  EvL.qD mixed [] [0, 1, 7, 8] 0 2 2 (.nx (fun K => wK K .normal (z28p2S s_1 f)) (l0 (z28p2ok h)))
noncomputable def slices_IndexFunc_api_Credit_api_Credit_Credit_1 (s_1 : (List GCredit)) (f : Int) : Option (Int) := slices_IndexFunc_api_Credit_api_Credit_Credit_1_p3 s_1 f
theorem z28run (s_1 : (List GCredit)) (f : Int) (y_ : Int) (h : slices_IndexFunc_api_Credit_api_Credit_Credit_1 s_1 f = some y_) : EvL Try.prog 19 (items (bodyOf Try.f28)) (retK Try.prog [.tmp 4] (OutOk (slices_IndexFunc_api_Credit_api_Credit_Credit_1_out y_))) (z28p3S s_1 f) :=
  @z28p3ok s_1 f _ (W_iff.2 ⟨y_, h, z28Rok y_⟩)
noncomputable def slices_IndexFunc_api_Credit_api_Credit_Credit_1_C : Con
  | [(.c (.sl k1 n2 e3)), (.fn 29 [(.dptr 1 [(.lit (.int .i64 a4))] 0)])] => some ([LstOk eGCredit dGCredit 2 k1 n2 e3, (slices_IndexFunc_api_Credit_api_Credit_Credit_1 (lst dGCredit n2 e3) a4).isSome = true], (slices_IndexFunc_api_Credit_api_Credit_Credit_1_out ((slices_IndexFunc_api_Credit_api_Credit_Credit_1 (lst dGCredit n2 e3) a4).getD (0 : Int))))
  | _ => none
theorem slices_IndexFunc_api_Credit_api_Credit_Credit_1_ok : Meets Try.prog 28 slices_IndexFunc_api_Credit_api_Credit_Credit_1_C := by
  refine meets_fun (fn := Try.f28) (c := bodyOf Try.f28) (by kernel_rfl) (by kernel_rfl) (by kernel_rfl) (rs := [.tmp 4]) (by kernel_rfl) (nt := 19) (by kernel_rfl) fun vs p out h hp => ?_
  unfold slices_IndexFunc_api_Credit_api_Credit_Credit_1_C at h
  split at h
  · next k1 n2 e3 a4 =>
    cases h
    obtain ⟨g0, hp⟩ := allq hp
    obtain ⟨g, hp⟩ := allq hp
    obtain ⟨x, hx⟩ := Option.isSome_iff_exists.1 g
    rw [hx]
    exact ⟨[(sGCredit (lst dGCredit n2 e3)), (.fn 29 [(.dptr 1 [(di a4)] 0)])], (VLes.cons (VLe.slk g0.1 (RowIs.of_ok g0)) (VLes.cons (VLe.rfl' _) VLes.nil)), rfl, z28run (lst dGCredit n2 e3) a4 x hx⟩
  · cases h
noncomputable abbrev e28 : FE Try.prog := ⟨28, .pure slices_IndexFunc_api_Credit_api_Credit_Credit_1_C, slices_IndexFunc_api_Credit_api_Credit_Credit_1_ok⟩

noncomputable def z19i0 : List Code := items (bodyOf Try.f19)
def statute_Credit_out (x_1 : (Int × Bool)) : Out := .data (.tup [(i64 x_1.1), (bl x_1.2)])
def z19R (x_1 : (Int × Bool)) : St := ⟨[sv 4 (i64 x_1.1), sv 5 (bl x_1.2)], [], 0⟩
theorem z19Rok (x_1 : (Int × Bool)) : retK Try.prog [.tmp 4, .tmp 5] (OutOk (statute_Credit_out x_1)) .ret (z19R x_1) :=
  retK.intro (v := (.tup [(i64 x_1.1), (bl x_1.2)])) (by kernel_rfl) (VLe.tup (VLes.cons (VLe.rfl' _) (VLes.cons (VLe.rfl' _) (VLes.nil))))
def z19p0S (v : GVersion) (kind : Int) : St := ⟨[sv 0 (.agg [(i64 v.From), (i64 v.Rounding.Mode), (i64 v.Rounding.Unit), (sGCredit v.Credits), (sGIndex v.Series), (sGLet v.Lets), (sGGrant v.Grants), (sGReduce v.Reduces)]), sv 1 (i64 kind)], [], 0⟩
noncomputable def statute_Credit_p0 (v : GVersion) (kind : Int) : Option ((Int × Bool)) := (slices_IndexFunc_api_Credit_api_Credit_Credit_1 v.Credits kind).bind fun r_1 => ((bif (decide (r_1 < 0)) then (some (0, false)) else gd (0 ≤ r_1 ∧ r_1 < (v.Credits.length : Int)) ((some ((v.Credits.getD (Int.toNat r_1) zGCredit).Limit, true)))))
theorem z19p0nf (v : GVersion) (kind : Int) (K : KT) {L1_ : List GCredit} (hL1_ : lst dGCredit v.Credits.length (lGCredit v.Credits) = L1_) :
    ev Try.prog (lookF [e28]) 19 (ofItems ((List.drop 0 z19i0).take 6)) (cN [4, 5] K) (z19p0S v kind) =
    (let a1_ := slices_IndexFunc_api_Credit_api_Credit_Credit_1 L1_ kind; (kGCredit v.Credits) ∧ (a1_.isSome = true) ∧ ((bif (decide ((a1_.getD 0) < 0)) then wK K .ret (z19R (0, false)) else (0 ≤ (a1_.getD 0)) ∧ ((a1_.getD 0) < (v.Credits.length : Int)) ∧ (wK K .ret (z19R ((v.Credits.getD (Int.toNat (a1_.getD 0)) zGCredit).Limit, true)))))) := by subst hL1_; kernel_rfl
theorem z19p0ok {v : GVersion} {kind : Int} {K : KT} (h : W (statute_Credit_p0 v kind) (rE z19R K)) : EvL Try.prog 19 (List.drop 0 z19i0) K (z19p0S v kind) :=
  EvL.qE mixed [e28] [4, 5] 0 6 (.of (z19p0nf v kind _ (lb dGCredit_eGCredit)) (⟨kb dGCredit_eGCredit, (W_bind 0 h fun _ h => (W_bif h (fun _ h => (l0 h)) (fun _ h => (W_gd2 h fun _ h => (l0 h)))))⟩))
noncomputable def statute_Credit (v : GVersion) (kind : Int) : Option ((Int × Bool)) := statute_Credit_p0 v kind
theorem z19run (v : GVersion) (kind : Int) (y_ : (Int × Bool)) (h : statute_Credit v kind = some y_) : EvL Try.prog 19 (items (bodyOf Try.f19)) (retK Try.prog [.tmp 4, .tmp 5] (OutOk (statute_Credit_out y_))) (z19p0S v kind) :=
  @z19p0ok v kind _ (W_iff.2 ⟨y_, h, z19Rok y_⟩)
noncomputable def statute_Credit_C : Con
  | [(.agg [(.c (.lit (.int .i64 a1))), (.c (.lit (.int .i64 a2))), (.c (.lit (.int .i64 a3))), (.c (.sl k4 n5 e6)), (.c (.sl k7 n8 e9)), (.c (.sl k10 n11 e12)), (.c (.sl k13 n14 e15)), (.c (.sl k16 n17 e18))]), (.c (.lit (.int .i64 a19)))] => some ([LstOk eGCredit dGCredit 2 k4 n5 e6, LstOk eGIndex dGIndex 3 k7 n8 e9, LstOk eGLet dGLet 7 k10 n11 e12, LstOk eGGrant dGGrant 13 k13 n14 e15, LstOk eGReduce dGReduce 7 k16 n17 e18, (statute_Credit (GVersion.mk a1 (GRounding.mk a2 a3) (lst dGCredit n5 e6) (lst dGIndex n8 e9) (lst dGLet n11 e12) (lst dGGrant n14 e15) (lst dGReduce n17 e18)) a19).isSome = true], (statute_Credit_out ((statute_Credit (GVersion.mk a1 (GRounding.mk a2 a3) (lst dGCredit n5 e6) (lst dGIndex n8 e9) (lst dGLet n11 e12) (lst dGGrant n14 e15) (lst dGReduce n17 e18)) a19).getD ((0 : Int), false))))
  | _ => none
theorem statute_Credit_ok : Meets Try.prog 19 statute_Credit_C := by
  refine meets_fun (fn := Try.f19) (c := bodyOf Try.f19) (by kernel_rfl) (by kernel_rfl) (by kernel_rfl) (rs := [.tmp 4, .tmp 5]) (by kernel_rfl) (nt := 19) (by kernel_rfl) fun vs p out h hp => ?_
  unfold statute_Credit_C at h
  split at h
  · next a1 a2 a3 k4 n5 e6 k7 n8 e9 k10 n11 e12 k13 n14 e15 k16 n17 e18 a19 =>
    cases h
    obtain ⟨g0, hp⟩ := allq hp
    obtain ⟨g1, hp⟩ := allq hp
    obtain ⟨g2, hp⟩ := allq hp
    obtain ⟨g3, hp⟩ := allq hp
    obtain ⟨g4, hp⟩ := allq hp
    obtain ⟨g, hp⟩ := allq hp
    obtain ⟨x, hx⟩ := Option.isSome_iff_exists.1 g
    rw [hx]
    exact ⟨[(.agg [(i64 (GVersion.mk a1 (GRounding.mk a2 a3) (lst dGCredit n5 e6) (lst dGIndex n8 e9) (lst dGLet n11 e12) (lst dGGrant n14 e15) (lst dGReduce n17 e18)).From), (i64 ((GVersion.mk a1 (GRounding.mk a2 a3) (lst dGCredit n5 e6) (lst dGIndex n8 e9) (lst dGLet n11 e12) (lst dGGrant n14 e15) (lst dGReduce n17 e18)).Rounding).Mode), (i64 ((GVersion.mk a1 (GRounding.mk a2 a3) (lst dGCredit n5 e6) (lst dGIndex n8 e9) (lst dGLet n11 e12) (lst dGGrant n14 e15) (lst dGReduce n17 e18)).Rounding).Unit), (sGCredit ((GVersion.mk a1 (GRounding.mk a2 a3) (lst dGCredit n5 e6) (lst dGIndex n8 e9) (lst dGLet n11 e12) (lst dGGrant n14 e15) (lst dGReduce n17 e18)).Credits)), (sGIndex ((GVersion.mk a1 (GRounding.mk a2 a3) (lst dGCredit n5 e6) (lst dGIndex n8 e9) (lst dGLet n11 e12) (lst dGGrant n14 e15) (lst dGReduce n17 e18)).Series)), (sGLet ((GVersion.mk a1 (GRounding.mk a2 a3) (lst dGCredit n5 e6) (lst dGIndex n8 e9) (lst dGLet n11 e12) (lst dGGrant n14 e15) (lst dGReduce n17 e18)).Lets)), (sGGrant ((GVersion.mk a1 (GRounding.mk a2 a3) (lst dGCredit n5 e6) (lst dGIndex n8 e9) (lst dGLet n11 e12) (lst dGGrant n14 e15) (lst dGReduce n17 e18)).Grants)), (sGReduce ((GVersion.mk a1 (GRounding.mk a2 a3) (lst dGCredit n5 e6) (lst dGIndex n8 e9) (lst dGLet n11 e12) (lst dGGrant n14 e15) (lst dGReduce n17 e18)).Reduces))]), (i64 a19)], (VLes.cons (VLe.agg (VLes.cons (VLe.rfl' _) (VLes.cons (VLe.rfl' _) (VLes.cons (VLe.rfl' _) (VLes.cons (VLe.slk g0.1 (RowIs.of_ok g0)) (VLes.cons (VLe.slk g1.1 (RowIs.of_ok g1)) (VLes.cons (VLe.slk g2.1 (RowIs.of_ok g2)) (VLes.cons (VLe.slk g3.1 (RowIs.of_ok g3)) (VLes.cons (VLe.slk g4.1 (RowIs.of_ok g4)) VLes.nil))))))))) (VLes.cons (VLe.rfl' _) VLes.nil)), rfl, z19run (GVersion.mk a1 (GRounding.mk a2 a3) (lst dGCredit n5 e6) (lst dGIndex n8 e9) (lst dGLet n11 e12) (lst dGGrant n14 e15) (lst dGReduce n17 e18)) a19 x hx⟩
  · cases h
noncomputable abbrev e19 : FE Try.prog := ⟨19, .pure statute_Credit_C, statute_Credit_ok⟩

end Go.Ax
