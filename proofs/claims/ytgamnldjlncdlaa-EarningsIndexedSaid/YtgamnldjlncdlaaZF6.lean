import Derived.Test.YtgamnldjlncdlaaZF5
import Derived.Test.YtgamnldjlncdlaaRows
/- Types of the program, and functions of it: printed by a program, checked by the kernel. -/
set_option linter.all false
set_option maxRecDepth 100000
namespace Go.Ax
open Go.Proofs Go.Proofs.Ytgamnldjlncdlaa
noncomputable def Ph : List Code := be (aH Try.f24)
def ug (x_2 : (Int × Int)) : cm := .data (.tup [(.c (.lit (.int .u64 x_2.1))),(.c (.lit (.int .u64 x_2.2)))])
def M5 (x_2 : (Int × Int)) : St := ⟨[sv 4 (.c (.lit (.int .u64 x_2.1))),sv 5 (.c (.lit (.int .u64 x_2.2)))],[],0⟩
def Ox (x_1 y : Int) : St := ⟨[sv 0 (.c (.lit (.int .u64 x_1))),sv 1 (.c (.lit (.int .u64 y)))],[],0⟩
noncomputable def gH (x_1 y : Int) : Option ((Int × Int)) := (some ((IntKind.u64.wrap ((IntKind.u64.wrap ((IntKind.u64.wrap ((Int.fdiv x_1 (2 ^ min (Int.toNat (32 : Int)) 64)) * (Int.fdiv y (2 ^ min (Int.toNat (32 : Int)) 64)))) + (Int.fdiv (IntKind.u64.wrap ((IntKind.u64.wrap ((Int.fdiv x_1 (2 ^ min (Int.toNat (32 : Int)) 64)) * (IntKind.u64.wrap (BitVec.ofInt 64 y &&& BitVec.ofInt 64 (4294967295 : Int)).toNat))) + (Int.fdiv (IntKind.u64.wrap ((IntKind.u64.wrap (BitVec.ofInt 64 x_1 &&& BitVec.ofInt 64 (4294967295 : Int)).toNat) * (IntKind.u64.wrap (BitVec.ofInt 64 y &&& BitVec.ofInt 64 (4294967295 : Int)).toNat))) (2 ^ min (Int.toNat (32 : Int)) 64)))) (2 ^ min (Int.toNat (32 : Int)) 64)))) + (Int.fdiv (IntKind.u64.wrap ((IntKind.u64.wrap (BitVec.ofInt 64 (IntKind.u64.wrap ((IntKind.u64.wrap ((Int.fdiv x_1 (2 ^ min (Int.toNat (32 : Int)) 64)) * (IntKind.u64.wrap (BitVec.ofInt 64 y &&& BitVec.ofInt 64 (4294967295 : Int)).toNat))) + (Int.fdiv (IntKind.u64.wrap ((IntKind.u64.wrap (BitVec.ofInt 64 x_1 &&& BitVec.ofInt 64 (4294967295 : Int)).toNat) * (IntKind.u64.wrap (BitVec.ofInt 64 y &&& BitVec.ofInt 64 (4294967295 : Int)).toNat))) (2 ^ min (Int.toNat (32 : Int)) 64)))) &&& BitVec.ofInt 64 (4294967295 : Int)).toNat) + (IntKind.u64.wrap ((IntKind.u64.wrap (BitVec.ofInt 64 x_1 &&& BitVec.ofInt 64 (4294967295 : Int)).toNat) * (Int.fdiv y (2 ^ min (Int.toNat (32 : Int)) 64)))))) (2 ^ min (Int.toNat (32 : Int)) 64)))),(IntKind.u64.wrap (x_1 * y))))
theorem Kn {x_1 y : Int} {K : KT} (h : W (gH x_1 y) (rE M5 K)) : au Try.prog 51 (List.drop 0 Ph) K (Ox x_1 y) :=
  au.qE aX [] [4,5] 0 13 (.nx (fun K => let a2_ := 2 ^ min (Int.toNat (32 : Int)) 64; let a1_ := IntKind.u64.wrap ((IntKind.u64.wrap ((Int.fdiv x_1 a2_) * (IntKind.u64.wrap (BitVec.ofInt 64 y &&& BitVec.ofInt 64 (4294967295 : Int)).toNat))) + (Int.fdiv (IntKind.u64.wrap ((IntKind.u64.wrap (BitVec.ofInt 64 x_1 &&& BitVec.ofInt 64 (4294967295 : Int)).toNat) * (IntKind.u64.wrap (BitVec.ofInt 64 y &&& BitVec.ofInt 64 (4294967295 : Int)).toNat))) a2_)); (0 ≤ (32 : Int)) ∧ ((0 ≤ (32 : Int)) ∧ ((0 ≤ (32 : Int)) ∧ ((0 ≤ (32 : Int)) ∧ ((0 ≤ (32 : Int)) ∧ (wK K .ret (M5 ((IntKind.u64.wrap ((IntKind.u64.wrap ((IntKind.u64.wrap ((Int.fdiv x_1 a2_) * (Int.fdiv y a2_))) + (Int.fdiv a1_ a2_))) + (Int.fdiv (IntKind.u64.wrap ((IntKind.u64.wrap (BitVec.ofInt 64 a1_ &&& BitVec.ofInt 64 (4294967295 : Int)).toNat) + (IntKind.u64.wrap ((IntKind.u64.wrap (BitVec.ofInt 64 x_1 &&& BitVec.ofInt 64 (4294967295 : Int)).toNat) * (Int.fdiv y a2_))))) a2_))),(IntKind.u64.wrap (x_1 * y)))))))))) (⟨(by decide),⟨(by decide),⟨(by decide),⟨(by decide),⟨(by decide),(l0 h)⟩⟩⟩⟩⟩))
noncomputable def dO (x_1 y : Int) : Option ((Int × Int)) := gH x_1 y
noncomputable def oB : ct := jr (aI .u64) (aI .u64) dO ((0 : Int),(0 : Int)) ug
theorem uZ : br Try.prog 24 oB := fQ Try.f24 (aH Try.f24) [.tmp 4, .tmp 5] 51 fun u0 u1 y h => @Kn u0 u1 _ (bF.2 ⟨y,h,(dG (.tup [(.c (.lit (.int .u64 y.1))),(.c (.lit (.int .u64 y.2)))]) (VLe.tup (VLes.cons (VLe.rfl' _) (VLes.cons (VLe.rfl' _) (VLes.nil)))))⟩)
noncomputable abbrev lH : FE Try.prog := ⟨24, .pure oB,uZ⟩
noncomputable def Ii : List Code := be (aH Try.f14)
def jp (x_1 : (Int × Int)) : cm := .data (.tup [(i64 x_1.1),(i64 x_1.2)])
def y2 (x_1 : (Int × Int)) : St := ⟨[sv 8 (i64 x_1.1),sv 9 (i64 x_1.2)],[],0⟩
theorem N8 (x_1 : (Int × Int)) : cD Try.prog [.tmp 8, .tmp 9] (cw (jp x_1)) .ret (y2 x_1) :=
  cD.intro (v := (.tup [(i64 x_1.1),(i64 x_1.2)])) (by kernel_rfl) (VLe.tup (VLes.cons (VLe.rfl' _) (VLes.cons (VLe.rfl' _) (VLes.nil))))
def BV (v : am) (amount year reference : Int) : St := ⟨[sv 0 (.agg [(i64 v.From),(i64 v.Rounding.Mode),(i64 v.Rounding.Unit),(bU v.Credits),(bZ v.Series),(cv v.Lets),(ck v.Grants),(bT v.Reduces)]),sv 1 (i64 amount),sv 2 (i64 year),sv 3 (i64 reference)],[],0⟩
noncomputable def jU (v : am) (amount year reference : Int) : Option ((Int × Int)) := (eg v reference).bind fun r_1 => ((eg v year).bind fun r_2 => (gd (((!(bif (decide (amount < 0)) then true else (decide (1000000000000 < amount)))) && true) = true → (cX r_1).isSome = true) (gd (((!(bif (bif (decide (amount < 0)) then true else (decide (1000000000000 < amount))) then true else (!((cX r_1).getD false)))) && true) = true → (cX r_2).isSome = true) ((bif (bif (bif (bif (decide (amount < 0)) then true else (decide (1000000000000 < amount))) then true else (!((cX r_1).getD false))) then true else (!((cX r_2).getD false))) then (some (0,1)) else (dO (IntKind.u64.wrap amount) (IntKind.u64.wrap ((IntKind.u64.wrap r_1.Num) * (IntKind.u64.wrap r_2.Den)))).bind fun r_3 => ((bif (decide ((IntKind.u64.wrap ((IntKind.u64.wrap r_1.Den) * (IntKind.u64.wrap r_2.Num))) ≤ r_3.1)) then (some (0,2)) else (eF r_3.1 r_3.2 (IntKind.u64.wrap ((IntKind.u64.wrap r_1.Den) * (IntKind.u64.wrap r_2.Num)))).bind fun r_4 => ((bif (decide (1000000000000 < r_4.1)) then (some (0,2)) else (some ((ak r_4.1),0)))))))))))
theorem KR (v : am) (amount year reference : Int) (K : KT) {L1_ : List av} (hL1_ : lst aV v.Credits.length (dy v.Credits) = L1_) {L2_ : List aD} (hL2_ : lst bc v.Series.length (eK v.Series) = L2_) {L3_ : List bk} (hL3_ : lst bp v.Lets.length (gm v.Lets) = L3_) {L4_ : List bf} (hL4_ : lst ba v.Grants.length (dR v.Grants) = L4_) {L5_ : List bJ} (hL5_ : lst aU v.Reduces.length (ee v.Reduces) = L5_) {L6_ : List av} (hL6_ : lst aV v.Credits.length (dy v.Credits) = L6_) {L7_ : List aD} (hL7_ : lst bc v.Series.length (eK v.Series) = L7_) {L8_ : List bk} (hL8_ : lst bp v.Lets.length (gm v.Lets) = L8_) {L9_ : List bf} (hL9_ : lst ba v.Grants.length (dR v.Grants) = L9_) {L10_ : List bJ} (hL10_ : lst aU v.Reduces.length (ee v.Reduces) = L10_) :
    ev Try.prog (dx [yq,P7,lH,NH]) 73 (ofItems ((List.drop 0 Ii).take 13)) (cN [8,9] K) (BV v amount year reference) =
    (let a3_ := eg (am.mk v.From v.Rounding L1_ L2_ L3_ L4_ L5_) reference; let a5_ := eg (am.mk v.From v.Rounding L6_ L7_ L8_ L9_ L10_) year; let a1_ := dO (IntKind.u64.wrap amount) (IntKind.u64.wrap ((IntKind.u64.wrap (a3_.getD bz).Num) * (IntKind.u64.wrap (a5_.getD bz).Den))); let a2_ := IntKind.u64.wrap ((IntKind.u64.wrap (a3_.getD bz).Den) * (IntKind.u64.wrap (a5_.getD bz).Num)); let a4_ := bif (bif (decide (amount < 0)) then true else (decide (1000000000000 < amount))) then true else (!((cX (a3_.getD bz)).getD false)); let a6_ := eF ((a1_.getD (0,0)).1) ((a1_.getD (0,0)).2) a2_; let a7_ := cX (a5_.getD bz); (iL v.Credits) ∧ (j6 v.Series) ∧ (pn v.Lets) ∧ (j7 v.Grants) ∧ (i6 v.Reduces) ∧ (a3_.isSome = true) ∧ (iL v.Credits) ∧ (j6 v.Series) ∧ (pn v.Lets) ∧ (j7 v.Grants) ∧ (i6 v.Reduces) ∧ (a5_.isSome = true) ∧ ((((!(bif (decide (amount < 0)) then true else (decide (1000000000000 < amount)))) && true) = true → (cX (a3_.getD bz)).isSome = true) ∧ (((!a4_) && true) = true → a7_.isSome = true) ∧ ((bif (bif a4_ then true else (!(a7_.getD false))) then wK K .ret (y2 (0,1)) else (a1_.isSome = true) ∧ ((bif (decide (a2_ ≤ (a1_.getD (0,0)).1)) then wK K .ret (y2 (0,2)) else (a6_.isSome = true) ∧ ((bif (decide (1000000000000 < (a6_.getD (0,0)).1)) then wK K .ret (y2 (0,2)) else wK K .ret (y2 ((ak (a6_.getD (0,0)).1),0)))))))))) := by subst hL1_ hL2_ hL3_ hL4_ hL5_ hL6_ hL7_ hL8_ hL9_ hL10_; kernel_rfl
theorem Jm {v : am} {amount year reference : Int} {K : KT} (h : W (jU v amount year reference) (rE y2 K)) : au Try.prog 73 (List.drop 0 Ii) K (BV v amount year reference) :=
  au.qE aX [yq,P7,lH,NH] [8,9] 0 13 (.of (KR v amount year reference _ (lb bI) (lb bW) (lb cA) (lb bV) (lb bH) (lb bI) (lb bW) (lb cA) (lb bV) (lb bH)) (⟨kb bI,⟨kb bW,⟨kb cA,⟨kb bV,⟨kb bH,(az bz h fun _ h => ⟨kb bI,⟨kb bW,⟨kb cA,⟨kb bV,⟨kb bH,(az bz h fun _ h => (bX h fun _ h => (bX h fun _ h => (an h (fun _ h => (l0 h)) (fun _ h => (az (0,0) h fun _ h => (an h (fun _ h => (l0 h)) (fun _ h => (az (0,0) h fun _ h => (an h (fun _ h => (l0 h)) (fun _ h => (l0 h))))))))))))⟩⟩⟩⟩⟩)⟩⟩⟩⟩⟩))
noncomputable def dM (v : am) (amount year reference : Int) : Option ((Int × Int)) := jU v amount year reference
theorem Od (v : am) (amount year reference : Int) (y_ : (Int × Int)) (h : dM v amount year reference = some y_) : au Try.prog 73 (be (aH Try.f14)) (cD Try.prog [.tmp 8, .tmp 9] (cw (jp y_))) (BV v amount year reference) :=
  @Jm v amount year reference _ (bF.2 ⟨y_,h,N8 y_⟩)
noncomputable def kA : ct
  | [(.agg [(.c (.lit (.int .i64 a1))),(.c (.lit (.int .i64 a2))),(.c (.lit (.int .i64 a3))),(.c (.sl k4 n5 e6)),(.c (.sl k7 n8 e9)),(.c (.sl k10 n11 e12)),(.c (.sl k13 n14 bC)),(.c (.sl k16 n17 bw))]),(.c (.lit (.int .i64 a19))),(.c (.lit (.int .i64 a20))),(.c (.lit (.int .i64 a21)))] => some ([aT dh aV 2 k4 n5 e6,aT eo bc 3 k7 n8 e9,aT gI bp 7 k10 n11 e12,aT dP ba 13 k13 n14 bC,aT ef aU 7 k16 n17 bw,(dM (am.mk a1 (aA.mk a2 a3) (lst aV n5 e6) (lst bc n8 e9) (lst bp n11 e12) (lst ba n14 bC) (lst aU n17 bw)) a19 a20 a21).isSome = true],(jp ((dM (am.mk a1 (aA.mk a2 a3) (lst aV n5 e6) (lst bc n8 e9) (lst bp n11 e12) (lst ba n14 bC) (lst aU n17 bw)) a19 a20 a21).getD ((0 : Int),(0 : Int)))))
  | _ => none
theorem uU : br Try.prog 14 kA := by
  refine eL (fn := Try.f14) (c := aH Try.f14) (by kernel_rfl) (by kernel_rfl) (by kernel_rfl) (rs := [.tmp 8, .tmp 9]) (by kernel_rfl) (nt := 73) (by kernel_rfl) fun vs p out h hp => ?_
  unfold kA at h
  split at h
  · next a1 a2 a3 k4 n5 e6 k7 n8 e9 k10 n11 e12 k13 n14 bC k16 n17 bw a19 a20 a21 =>
    cases h
    obtain ⟨g0,hp⟩ := bE hp
    obtain ⟨g1,hp⟩ := bE hp
    obtain ⟨g2,hp⟩ := bE hp
    obtain ⟨g3,hp⟩ := bE hp
    obtain ⟨g4,hp⟩ := bE hp
    obtain ⟨g,hp⟩ := bE hp
    obtain ⟨x,hx⟩ := Option.isSome_iff_exists.1 g
    rw [hx]
    exact ⟨[(.agg [(i64 (am.mk a1 (aA.mk a2 a3) (lst aV n5 e6) (lst bc n8 e9) (lst bp n11 e12) (lst ba n14 bC) (lst aU n17 bw)).From),(i64 ((am.mk a1 (aA.mk a2 a3) (lst aV n5 e6) (lst bc n8 e9) (lst bp n11 e12) (lst ba n14 bC) (lst aU n17 bw)).Rounding).Mode),(i64 ((am.mk a1 (aA.mk a2 a3) (lst aV n5 e6) (lst bc n8 e9) (lst bp n11 e12) (lst ba n14 bC) (lst aU n17 bw)).Rounding).Unit),(bU ((am.mk a1 (aA.mk a2 a3) (lst aV n5 e6) (lst bc n8 e9) (lst bp n11 e12) (lst ba n14 bC) (lst aU n17 bw)).Credits)),(bZ ((am.mk a1 (aA.mk a2 a3) (lst aV n5 e6) (lst bc n8 e9) (lst bp n11 e12) (lst ba n14 bC) (lst aU n17 bw)).Series)),(cv ((am.mk a1 (aA.mk a2 a3) (lst aV n5 e6) (lst bc n8 e9) (lst bp n11 e12) (lst ba n14 bC) (lst aU n17 bw)).Lets)),(ck ((am.mk a1 (aA.mk a2 a3) (lst aV n5 e6) (lst bc n8 e9) (lst bp n11 e12) (lst ba n14 bC) (lst aU n17 bw)).Grants)),(bT ((am.mk a1 (aA.mk a2 a3) (lst aV n5 e6) (lst bc n8 e9) (lst bp n11 e12) (lst ba n14 bC) (lst aU n17 bw)).Reduces))]),(i64 a19),(i64 a20),(i64 a21)],(VLes.cons (VLe.agg (VLes.cons (VLe.rfl' _) (VLes.cons (VLe.rfl' _) (VLes.cons (VLe.rfl' _) (VLes.cons (VLe.slk g0.1 (aj.of_ok g0)) (VLes.cons (VLe.slk g1.1 (aj.of_ok g1)) (VLes.cons (VLe.slk g2.1 (aj.of_ok g2)) (VLes.cons (VLe.slk g3.1 (aj.of_ok g3)) (VLes.cons (VLe.slk g4.1 (aj.of_ok g4)) VLes.nil))))))))) (VLes.cons (VLe.rfl' _) (VLes.cons (VLe.rfl' _) (VLes.cons (VLe.rfl' _) VLes.nil)))),rfl,Od (am.mk a1 (aA.mk a2 a3) (lst aV n5 e6) (lst bc n8 e9) (lst bp n11 e12) (lst ba n14 bC) (lst aU n17 bw)) a19 a20 a21 x hx⟩
  · cases h
noncomputable abbrev P3 : FE Try.prog := ⟨14, .pure kA,uU⟩
noncomputable def sE : List Code := be (aH Try.f6)
noncomputable def Hu : List Code := be (aE (aE (bS sE 3)))
def iP (x_1 : ((List Int) × Int)) : cm := .new (.tup [(aC x_1.1),(i64 x_1.2)])
def Cu (x_1 : ((List Int) × Int)) : St := ⟨[sv 6 (.row 0 1 0 x_1.1.length),sv 7 (i64 x_1.2)],[(jq 0 3 x_1.1)],1⟩
theorem Px (x_1 : ((List Int) × Int)) : cD Try.prog [.tmp 6, .tmp 7] (cw (iP x_1)) .ret (Cu x_1) :=
  cD.intro (v := (.tup [(.row 0 1 0 x_1.1.length),(i64 x_1.2)])) (by kernel_rfl) (⟨VLe.tup (VLes.cons (VLe.sl (aj.ls0 aR (0 : Int) x_1.1)) (VLes.cons (VLe.rfl' _) (VLes.nil))),⟨⟨_,_,_,rfl,fun i hi d hd => BZ _ d hd⟩,rfl,trivial⟩⟩)
def AO (reference : Int) (l : (List aF)) (v : am) (s : ((List Int) × Int)) : St := match s with | (out_1,t15) => ⟨[sv 2 (i64 reference),sv 4 (.ptr 0 8 0 0),sv 8 (.row 1 1 0 out_1.length),sv 13 (cq l),sv 14 (i64 (l.length : Int)),sv 15 (i64 t15)],[(0,some (.box [(i64 v.From),(i64 v.Rounding.Mode),(i64 v.Rounding.Unit),(bU v.Credits),(bZ v.Series),(cv v.Lets),(ck v.Grants),(bT v.Reduces)])),(jq 1 3 out_1)],2⟩
def N0 (reference : Int) (l : (List aF)) (v : am) (s : Int) : St := match s with | t7 => ⟨[sv 6 (.c .nil),sv 7 (i64 t7)],[],0⟩
def NS (reference : Int) (l : (List aF)) (v : am) (s : (List Int)) : St := match s with | out_2 => ⟨[sv 8 (.row 0 1 0 out_2.length)],[(jq 0 3 out_2)],1⟩
def vX (reference : Int) (l : (List aF)) (v : am) (r : ((Int) ⊕ ((List Int)))) (K : KT) : Prop := match r with | (.inl s) => K .ret (N0 reference l v s) | (.inr s) => K (.exit 0) (NS reference l v s)
def ID (reference : Int) (out_1 : (List Int)) (l : (List aF)) (t15 : Int) (v : am) : St := ⟨[sv 2 (i64 reference),sv 4 (.ptr 0 8 0 0),sv 8 (.row 1 1 0 out_1.length),sv 13 (cq l),sv 14 (i64 (l.length : Int)),sv 15 (i64 t15)],[(0,some (.box [(i64 v.From),(i64 v.Rounding.Mode),(i64 v.Rounding.Unit),(bU v.Credits),(bZ v.Series),(cv v.Lets),(ck v.Grants),(bT v.Reduces)])),(jq 1 3 out_1)],2⟩
noncomputable def dQ (reference : Int) (out_1 : (List Int)) (l : (List aF)) (t15 : Int) (v : am) : Option (((List Int) × Int) ⊕ ((Int) ⊕ ((List Int)))) := (bif (decide (t15 < (l.length : Int))) then gd (0 ≤ t15 ∧ t15 < (l.length : Int)) ((dM v ((l.getD (Int.toNat t15) bY).Amount) ((l.getD (Int.toNat t15) bY).Year) reference).bind fun r_1 => ((bif (r_1.2 != 0) then (some (Sum.inr (Sum.inl r_1.2))) else gd (jF (out_1.length + 1) 8) ((some (Sum.inl ((out_1 ++ ([r_1.1] : List Int)),(ak (t15 + 1))))))))) else (some (Sum.inr (Sum.inr out_1))))
theorem MA (reference : Int) (out_1 : (List Int)) (l : (List aF)) (t15 : Int) (v : am) (K : KT) {L1_ : List av} (hL1_ : lst aV v.Credits.length (dy v.Credits) = L1_) {L2_ : List aD} (hL2_ : lst bc v.Series.length (eK v.Series) = L2_) {L3_ : List bk} (hL3_ : lst bp v.Lets.length (gm v.Lets) = L3_) {L4_ : List bf} (hL4_ : lst ba v.Grants.length (dR v.Grants) = L4_) {L5_ : List bJ} (hL5_ : lst aU v.Reduces.length (ee v.Reduces) = L5_) :
    ev Try.prog (dx [P3]) 38 (ofItems ((List.drop 0 Hu).take 4)) (cN [2,4,6,7,8,13,14,15] K) (ID reference out_1 l t15 v) =
    (let a1_ := dM (am.mk v.From v.Rounding L1_ L2_ L3_ L4_ L5_) ((l.getD (Int.toNat t15) bY).Amount) ((l.getD (Int.toNat t15) bY).Year) reference; let a2_ := out_1.length + 1; let a3_ := i64 (l.length : Int); let a4_ := i64 v.Rounding.Mode; let a5_ := i64 v.Rounding.Unit; let a6_ := bU v.Credits; let a7_ := bT v.Reduces; let a8_ := bZ v.Series; let a9_ := ck v.Grants; (bif (decide (t15 < (l.length : Int))) then (0 ≤ t15) ∧ (t15 < (l.length : Int)) ∧ ((iL v.Credits) ∧ (j6 v.Series) ∧ (pn v.Lets) ∧ (j7 v.Grants) ∧ (i6 v.Reduces) ∧ (a1_.isSome = true) ∧ ((bif ((a1_.getD (0,0)).2 != 0) then wK K .ret (⟨[sv 2 (i64 reference),sv 4 (.ptr 0 8 0 0),sv 6 (.c .nil),sv 7 (i64 (a1_.getD (0,0)).2),sv 8 (.row 1 1 0 out_1.length),sv 13 (cq l),sv 14 a3_,sv 15 (i64 t15)],[(0,some (.box [(i64 v.From),a4_,a5_,a6_,a8_,(cv v.Lets),a9_,a7_])),(jq 1 3 out_1)],2⟩) else (out_1.length = out_1.length) ∧ (a2_ * 8 ≤ 140737488355328) ∧ (a2_ ≤ 140737488355328) ∧ (wK K .normal (⟨[sv 2 (i64 reference),sv 4 (.ptr 0 8 0 0),sv 8 (.row 1 1 0 a2_),sv 13 (cq l),sv 14 a3_,sv 15 (i64 (ak (t15 + 1)))],[(0,some (.box [(i64 v.From),a4_,a5_,a6_,a8_,(cv v.Lets),a9_,a7_])),(1,some (.row 3 1 a2_ (fun i => bif Nat.blt i out_1.length then (aQ out_1) i else (fun i => (aQ ([(a1_.getD (0,0)).1] : List Int)) (0 + i)) (i - out_1.length))))],2⟩))))) else wK K (.exit 0) (⟨[sv 2 (i64 reference),sv 4 (.ptr 0 8 0 0),sv 8 (.row 1 1 0 out_1.length),sv 13 (cq l),sv 14 a3_,sv 15 (i64 t15)],[(0,some (.box [(i64 v.From),a4_,a5_,a6_,a8_,(cv v.Lets),a9_,a7_])),(jq 1 3 out_1)],2⟩))) := by subst hL1_ hL2_ hL3_ hL4_ hL5_; kernel_rfl
theorem NV {reference : Int} {out_1 : (List Int)} {l : (List aF)} {t15 : Int} {v : am} {K : KT} (h : W (dQ reference out_1 l t15 v) (nE (AO reference l v) (vX reference l v) K)) : au Try.prog 38 (List.drop 0 Hu) K (ID reference out_1 l t15 v) :=
  au.qE aX [P3] [2,4,6,7,8,13,14,15] 0 4 (.of (MA reference out_1 l t15 v _ (lb bI) (lb bW) (lb cA) (lb bV) (lb bH)) (an h (fun _ h => (bD h fun _ h => ⟨kb bI,⟨kb bW,⟨kb cA,⟨kb bV,⟨kb bH,(az (0,0) h fun _ h => (an h (fun _ h => (lf h (.cn [6,7]))) (fun _ h => ⟨rfl,(bD h fun _ h => (lf h (.of (.q rfl (.q rfl (.cons rfl (.rown (fg rfl rfl)) (.qs 3 .nil)))) (.same rfl (.row rfl (aj.app .b (aj.zero (aj.ls aR (0 : Int) ([((dM v (l.getD (Int.toNat t15) bY).Amount (l.getD (Int.toNat t15) bY).Year reference).getD (0,0)).1] : List Int)))) .nil rfl)) rfl)))⟩)))⟩⟩⟩⟩⟩)) (fun _ h => (lf h (.cn [8])))))
noncomputable def gn (reference : Int) (l : (List aF)) (v : am) (s : ((List Int) × Int)) : Option (((List Int) × Int) ⊕ ((Int) ⊕ ((List Int)))) := match s with | (out_1,t15) => dQ reference out_1 l t15 v
theorem MH (reference : Int) (l : (List aF)) (v : am) (s : ((List Int) × Int)) : Pp Try.prog 38 (List.drop 0 Hu) (AO reference l v s) (gn reference l v s) (dK (AO reference l v) (vX reference l v)) := fun K h => match s,h with | (out_1,t15),h => (NV h)
theorem GR (reference : Int) (l : (List aF)) (v : am) : ∀ (r : ((Int) ⊕ ((List Int)))) (J : St → Prop) (K : KT),vX reference l v r K → vX reference l v r (bB J K)
  | (.inl s),_,_,h => h
  | (.inr s),_,_,h => h
def Iu (out_3 : (List Int)) : St := ⟨[sv 8 (.row 0 1 0 out_3.length)],[(jq 0 3 out_3)],1⟩
noncomputable def mu (out_3 : (List Int)) : Option (((List Int) × Int)) := (some (out_3,0))
theorem Mv {out_3 : (List Int)} {K : KT} (h : W (mu out_3) (rE Cu K)) : au Try.prog 38 (List.drop 4 sE) K (Iu out_3) :=
  au.qE aX [] [6,7] 4 2 (.nx (fun K => wK K .ret (Cu (out_3,0))) (l0 h))
def Il (reference : Int) (l : (List aF)) (v : am) : St := ⟨[sv 2 (i64 reference),sv 4 (.ptr 0 8 0 0),sv 8 (.c .nil),sv 13 (cq l),sv 14 (i64 (l.length : Int)),sv 15 (i64 0)],[(0,some (.box [(i64 v.From),(i64 v.Rounding.Mode),(i64 v.Rounding.Unit),(bU v.Credits),(bZ v.Series),(cv v.Lets),(ck v.Grants),(bT v.Reduces)]))],1⟩
noncomputable def iv (reference : Int) (l : (List aF)) (v : am) (r : ((Int) ⊕ ((List Int)))) : Option (((List Int) × Int)) := match r with | (.inl t7) => (some (([] : List Int),t7)) | (.inr out_2) => (mu out_2)
noncomputable def eZ (reference : Int) (l : (List aF)) (v : am) : Option (((List Int) × Int)) := (fixL (gn reference l v) (([] : List Int),0)).bind (iv reference l v)
theorem NB : List.drop 3 sE = .block 0 (.loop (aE (aE (bS sE 3)))) :: List.drop 4 sE := by kernel_rfl
theorem PO (reference : Int) (l : (List aF)) (v : am) (K : KT) : ∀ r : ((Int) ⊕ ((List Int))),W (iv reference l v r) (rE Cu K) → vX reference l v r (wK (cO 0 (bB (au Try.prog 38 (List.drop 4 sE) K) K)))
  | (.inl t7),h => ⟨(Cu (([] : List Int),t7)),(.trans (.nilrow 6 0 3 1 (bP aR (0 : Int) []) (Nat.le_of_ble_eq_true rfl) rfl) (.cn [6,7])),h⟩
  | (.inr out_2),h => ⟨(Iu out_2),(.refl _),(Mv h)⟩
theorem M7 {reference : Int} {l : (List aF)} {v : am} {K : KT} (h : W (eZ reference l v) (rE Cu K)) : au Try.prog 38 (List.drop 3 sE) K (Il reference l v) :=
  au.at_ NB (au.cons_loop (bg.weak (bg.ent (.trans (.nilrow 8 1 3 1 (bP aR (0 : Int) []) (Nat.le_of_ble_eq_true rfl) rfl) (.cn [2,4,8,13,14,15])) (bg.loopF (x := aE (aE (bS sE 3))) (f := gn reference l v) (emb := AO reference l v) (E := vX reference l v) (MH reference l v) (GR reference l v) (dq h (PO reference l v K))))))
def IL (l : (List aF)) (v : am) (reference : Int) : St := ⟨[sv 0 (cq l),sv 1 (.agg [(i64 v.From),(i64 v.Rounding.Mode),(i64 v.Rounding.Unit),(bU v.Credits),(bZ v.Series),(cv v.Lets),(ck v.Grants),(bT v.Reduces)]),sv 2 (i64 reference)],[],0⟩
noncomputable def jm (l : (List aF)) (v : am) (reference : Int) : Option (((List Int) × Int)) := (eZ reference l v)
theorem Mc {l : (List aF)} {v : am} {reference : Int} {K : KT} (h : W (jm l v reference) (rE Cu K)) : au Try.prog 38 (List.drop 0 sE) K (IL l v reference) :=
  au.qD aX [] [2,4,8,13,14,15] 0 3 3 (.nx (fun K => wK K .normal (Il reference l v)) (l0 (M7 h)))
noncomputable def cT (l : (List aF)) (v : am) (reference : Int) : Option (((List Int) × Int)) := jm l v reference
theorem PQ (l : (List aF)) (v : am) (reference : Int) (y_ : ((List Int) × Int)) (h : cT l v reference = some y_) : au Try.prog 38 (be (aH Try.f6)) (cD Try.prog [.tmp 6, .tmp 7] (cw (iP y_))) (IL l v reference) :=
  @Mc l v reference _ (bF.2 ⟨y_,h,Px y_⟩)
noncomputable def jX : ct
  | [(.c (.sl k1 n2 e3)),(.agg [(.c (.lit (.int .i64 a4))),(.c (.lit (.int .i64 a5))),(.c (.lit (.int .i64 a6))),(.c (.sl k7 n8 e9)),(.c (.sl k10 n11 e12)),(.c (.sl k13 n14 bC)),(.c (.sl k16 n17 bw)),(.c (.sl k19 n20 e21))]),(.c (.lit (.int .i64 a22)))] => some ([aT dn cz 2 k1 n2 e3,aT dh aV 2 k7 n8 e9,aT eo bc 3 k10 n11 e12,aT gI bp 7 k13 n14 bC,aT dP ba 13 k16 n17 bw,aT ef aU 7 k19 n20 e21,(cT (lst cz n2 e3) (am.mk a4 (aA.mk a5 a6) (lst aV n8 e9) (lst bc n11 e12) (lst bp n14 bC) (lst ba n17 bw) (lst aU n20 e21)) a22).isSome = true],(iP ((cT (lst cz n2 e3) (am.mk a4 (aA.mk a5 a6) (lst aV n8 e9) (lst bc n11 e12) (lst bp n14 bC) (lst ba n17 bw) (lst aU n20 e21)) a22).getD (([] : List Int),(0 : Int)))))
  | _ => none
theorem uh : br Try.prog 6 jX := by
  refine eL (fn := Try.f6) (c := aH Try.f6) (by kernel_rfl) (by kernel_rfl) (by kernel_rfl) (rs := [.tmp 6, .tmp 7]) (by kernel_rfl) (nt := 38) (by kernel_rfl) fun vs p out h hp => ?_
  unfold jX at h
  split at h
  · next k1 n2 e3 a4 a5 a6 k7 n8 e9 k10 n11 e12 k13 n14 bC k16 n17 bw k19 n20 e21 a22 =>
    cases h
    obtain ⟨g0,hp⟩ := bE hp
    obtain ⟨g1,hp⟩ := bE hp
    obtain ⟨g2,hp⟩ := bE hp
    obtain ⟨g3,hp⟩ := bE hp
    obtain ⟨g4,hp⟩ := bE hp
    obtain ⟨g5,hp⟩ := bE hp
    obtain ⟨g,hp⟩ := bE hp
    obtain ⟨x,hx⟩ := Option.isSome_iff_exists.1 g
    rw [hx]
    exact ⟨[(cq (lst cz n2 e3)),(.agg [(i64 (am.mk a4 (aA.mk a5 a6) (lst aV n8 e9) (lst bc n11 e12) (lst bp n14 bC) (lst ba n17 bw) (lst aU n20 e21)).From),(i64 ((am.mk a4 (aA.mk a5 a6) (lst aV n8 e9) (lst bc n11 e12) (lst bp n14 bC) (lst ba n17 bw) (lst aU n20 e21)).Rounding).Mode),(i64 ((am.mk a4 (aA.mk a5 a6) (lst aV n8 e9) (lst bc n11 e12) (lst bp n14 bC) (lst ba n17 bw) (lst aU n20 e21)).Rounding).Unit),(bU ((am.mk a4 (aA.mk a5 a6) (lst aV n8 e9) (lst bc n11 e12) (lst bp n14 bC) (lst ba n17 bw) (lst aU n20 e21)).Credits)),(bZ ((am.mk a4 (aA.mk a5 a6) (lst aV n8 e9) (lst bc n11 e12) (lst bp n14 bC) (lst ba n17 bw) (lst aU n20 e21)).Series)),(cv ((am.mk a4 (aA.mk a5 a6) (lst aV n8 e9) (lst bc n11 e12) (lst bp n14 bC) (lst ba n17 bw) (lst aU n20 e21)).Lets)),(ck ((am.mk a4 (aA.mk a5 a6) (lst aV n8 e9) (lst bc n11 e12) (lst bp n14 bC) (lst ba n17 bw) (lst aU n20 e21)).Grants)),(bT ((am.mk a4 (aA.mk a5 a6) (lst aV n8 e9) (lst bc n11 e12) (lst bp n14 bC) (lst ba n17 bw) (lst aU n20 e21)).Reduces))]),(i64 a22)],(VLes.cons (VLe.slk g0.1 (aj.of_ok g0)) (VLes.cons (VLe.agg (VLes.cons (VLe.rfl' _) (VLes.cons (VLe.rfl' _) (VLes.cons (VLe.rfl' _) (VLes.cons (VLe.slk g1.1 (aj.of_ok g1)) (VLes.cons (VLe.slk g2.1 (aj.of_ok g2)) (VLes.cons (VLe.slk g3.1 (aj.of_ok g3)) (VLes.cons (VLe.slk g4.1 (aj.of_ok g4)) (VLes.cons (VLe.slk g5.1 (aj.of_ok g5)) VLes.nil))))))))) (VLes.cons (VLe.rfl' _) VLes.nil))),rfl,PQ (lst cz n2 e3) (am.mk a4 (aA.mk a5 a6) (lst aV n8 e9) (lst bc n11 e12) (lst bp n14 bC) (lst ba n17 bw) (lst aU n20 e21)) a22 x hx⟩
  · cases h
noncomputable abbrev e6 : FE Try.prog := ⟨6, .pure jX,uh⟩
noncomputable def pf : List Code := be (aH Try.f26)
noncomputable def IA : List Code := be (aE (aE (bS pf 3)))
def me (x_1 : aq) : cm := .data (.agg [(i64 x_1.Num),(i64 x_1.Den)])
def xb (x_1 : aq) : St := ⟨[sv 4 (.ptr 0 2 0 0)],[(0,some (.box [(i64 x_1.Num),(i64 x_1.Den)]))],1⟩
theorem Mw (x_1 : aq) : cD Try.prog [.cell 4 49] (cw (me x_1)) .ret (xb x_1) :=
  cD.intro (v := (.agg [(i64 x_1.Num),(i64 x_1.Den)])) (by kernel_rfl) ((VLe.rfl' _))
def yt (year : Int) (v : am) (s : (Int × Int)) : St := match s with | (at_1,i_1) => ⟨[sv 1 (i64 year),sv 2 (.ptr 0 8 0 0),sv 4 (.ptr 1 2 0 0),sv 5 (i64 at_1),sv 6 (i64 i_1)],[(0,some (.box [(i64 v.From),(i64 v.Rounding.Mode),(i64 v.Rounding.Unit),(bU v.Credits),(bZ v.Series),(cv v.Lets),(ck v.Grants),(bT v.Reduces)])),(1,some (.bx (cl (aq.mk 0 0))))],2⟩
def JH (year : Int) (v : am) (s : Int) : St := match s with | at_2 => ⟨[sv 2 (.ptr 0 8 0 0),sv 4 (.ptr 1 2 0 0),sv 5 (i64 at_2)],[(0,some (.box [(i64 v.From),(i64 v.Rounding.Mode),(i64 v.Rounding.Unit),(bU v.Credits),(bZ v.Series),(cv v.Lets),(ck v.Grants),(bT v.Reduces)])),(1,some (.bx (cl (aq.mk 0 0))))],2⟩
def sa (year : Int) (v : am) (r : ((Int))) (K : KT) : Prop := match r with | s => K (.exit 0) (JH year v s)
def Nq (year at_1 i_1 : Int) (v : am) : St := ⟨[sv 1 (i64 year),sv 2 (.ptr 0 8 0 0),sv 4 (.ptr 1 2 0 0),sv 5 (i64 at_1),sv 6 (i64 i_1)],[(0,some (.box [(i64 v.From),(i64 v.Rounding.Mode),(i64 v.Rounding.Unit),(bU v.Credits),(bZ v.Series),(cv v.Lets),(ck v.Grants),(bT v.Reduces)])),(1,some (.bx (cl (aq.mk 0 0))))],2⟩
noncomputable def jY (year at_1 i_1 : Int) (v : am) : Option ((Int × Int) ⊕ ((Int))) := (bif (decide (i_1 < (v.Series.length : Int))) then gd (0 ≤ i_1 ∧ i_1 < (v.Series.length : Int)) (gd (((!(decide (at_1 < 0))) && ((decide ((v.Series.getD (Int.toNat i_1) cg).Year ≤ year)) && true)) = true → 0 ≤ at_1) (gd (((!(decide (at_1 < 0))) && ((decide ((v.Series.getD (Int.toNat i_1) cg).Year ≤ year)) && true)) = true → at_1 < (v.Series.length : Int)) ((bif (bif (decide ((v.Series.getD (Int.toNat i_1) cg).Year ≤ year)) then (bif (decide (at_1 < 0)) then true else (decide ((v.Series.getD (Int.toNat at_1) cg).Year < (v.Series.getD (Int.toNat i_1) cg).Year))) else false) then (some (Sum.inl (i_1,(ak (i_1 + 1))))) else (some (Sum.inl (at_1,(ak (i_1 + 1))))))))) else (some (Sum.inr at_1)))
theorem Jp {year at_1 i_1 : Int} {v : am} {K : KT} (h : W (jY year at_1 i_1 v) (nE (yt year v) (sa year v) K)) : au Try.prog 48 (List.drop 0 IA) K (Nq year at_1 i_1 v) :=
  au.qE aX [] [1,2,4,5,6,25,26,27,28,29,30,31,32,33,34,35,36] 0 4 (.nx (fun K => let a1_ := decide ((v.Series.getD (Int.toNat i_1) cg).Year ≤ year); let a2_ := cl (aq.mk 0 0); let a3_ := (v.Series.length : Int); let a4_ := (!(decide (at_1 < 0))) && (a1_ && true); let a5_ := i64 v.Rounding.Mode; let a6_ := i64 v.Rounding.Unit; let a7_ := bU v.Credits; let a8_ := bT v.Reduces; let a9_ := bZ v.Series; let a10_ := ck v.Grants; (bif (decide (i_1 < a3_)) then (0 ≤ i_1) ∧ (i_1 < a3_) ∧ ((a4_ = true → 0 ≤ at_1) ∧ (a4_ = true → at_1 < a3_) ∧ ((bif (bif a1_ then (bif (decide (at_1 < 0)) then true else (decide ((v.Series.getD (Int.toNat at_1) cg).Year < (v.Series.getD (Int.toNat i_1) cg).Year))) else false) then wK K .normal (⟨[sv 1 (i64 year),sv 2 (.ptr 0 8 0 0),sv 4 (.ptr 1 2 0 0),sv 5 (i64 i_1),sv 6 (i64 (ak (i_1 + 1))),un 25,un 26,un 27,un 28,un 29,un 30,un 31,un 32,un 33,un 34,un 35,un 36],[(0,some (.box [(i64 v.From),a5_,a6_,a7_,a9_,(cv v.Lets),a10_,a8_])),(1,some (.bx a2_))],2⟩) else wK K .normal (⟨[sv 1 (i64 year),sv 2 (.ptr 0 8 0 0),sv 4 (.ptr 1 2 0 0),sv 5 (i64 at_1),sv 6 (i64 (ak (i_1 + 1))),un 25,un 26,un 27,un 28,un 29,un 30,un 31,un 32,un 33,un 34,un 35,un 36],[(0,some (.box [(i64 v.From),a5_,a6_,a7_,a9_,(cv v.Lets),a10_,a8_])),(1,some (.bx a2_))],2⟩)))) else wK K (.exit 0) (⟨[sv 1 (i64 year),sv 2 (.ptr 0 8 0 0),sv 4 (.ptr 1 2 0 0),sv 5 (i64 at_1),sv 6 (i64 i_1)],[(0,some (.box [(i64 v.From),a5_,a6_,a7_,a9_,(cv v.Lets),a10_,a8_])),(1,some (.bx a2_))],2⟩))) (an h (fun _ h => (bD h fun _ h => (bX h fun _ h => (bX h fun _ h => (an h (fun _ h => (lf h (.cn [1,2,4,5,6]))) (fun _ h => (lf h (.cn [1,2,4,5,6])))))))) (fun _ h => (lf h (.cn [2,4,5])))))
noncomputable def m4 (year : Int) (v : am) (s : (Int × Int)) : Option ((Int × Int) ⊕ ((Int))) := match s with | (at_1,i_1) => jY year at_1 i_1 v
theorem J6 (year : Int) (v : am) (s : (Int × Int)) : Pp Try.prog 48 (List.drop 0 IA) (yt year v s) (m4 year v s) (dK (yt year v) (sa year v)) := fun K h => match s,h with | (at_1,i_1),h => (Jp h)
theorem D6 (year : Int) (v : am) : ∀ (r : ((Int))) (J : St → Prop) (K : KT),sa year v r K → sa year v r (bB J K)
  | s,_,_,h => h
def Gy (at_3 : Int) (v : am) : St := ⟨[sv 2 (.ptr 0 8 0 0),sv 4 (.ptr 1 2 0 0),sv 5 (i64 at_3)],[(0,some (.box [(i64 v.From),(i64 v.Rounding.Mode),(i64 v.Rounding.Unit),(bU v.Credits),(bZ v.Series),(cv v.Lets),(ck v.Grants),(bT v.Reduces)])),(1,some (.bx (cl (aq.mk 0 0))))],2⟩
noncomputable def j5 (at_3 : Int) (v : am) : Option (aq) := (bif (decide (at_3 < 0)) then (some (aq.mk 1 1)) else gd (0 ≤ at_3 ∧ at_3 < (v.Series.length : Int)) ((some ((v.Series.getD (Int.toNat at_3) cg).Factor))))
theorem Jd {at_3 : Int} {v : am} {K : KT} (h : W (j5 at_3 v) (rE xb K)) : au Try.prog 48 (List.drop 4 pf) K (Gy at_3 v) :=
  au.qE aX [] [4] 4 4 (.nx (fun K => (bif (decide (at_3 < 0)) then wK K .ret (xb (aq.mk 1 1)) else (0 ≤ at_3) ∧ (at_3 < (v.Series.length : Int)) ∧ (wK K .ret (xb ((v.Series.getD (Int.toNat at_3) cg).Factor))))) (an h (fun _ h => (l0 h)) (fun _ h => (bD h fun _ h => (l0 h)))))
def EY (year : Int) (v : am) : St := ⟨[sv 1 (i64 year),sv 2 (.ptr 0 8 0 0),sv 4 (.ptr 1 2 0 0),sv 5 (i64 (-1)),sv 6 (i64 0)],[(0,some (.box [(i64 v.From),(i64 v.Rounding.Mode),(i64 v.Rounding.Unit),(bU v.Credits),(bZ v.Series),(cv v.Lets),(ck v.Grants),(bT v.Reduces)])),(1,some (.bx (cl (aq.mk 0 0))))],2⟩
noncomputable def pW (year : Int) (v : am) (r : ((Int))) : Option (aq) := match r with | at_2 => (j5 at_2 v)
noncomputable def mN (year : Int) (v : am) : Option (aq) := (fixL (m4 year v) ((-1),0)).bind (pW year v)
theorem Lf : List.drop 3 pf = .block 0 (.loop (aE (aE (bS pf 3)))) :: List.drop 4 pf := by kernel_rfl
theorem M1 (year : Int) (v : am) (K : KT) : ∀ r : ((Int)),W (pW year v r) (rE xb K) → sa year v r (wK (cO 0 (bB (au Try.prog 48 (List.drop 4 pf) K) K)))
  | at_2,h => ⟨(Gy at_2 v),(.refl _),(Jd h)⟩
theorem Lc {year : Int} {v : am} {K : KT} (h : W (mN year v) (rE xb K)) : au Try.prog 48 (List.drop 3 pf) K (EY year v) :=
  au.at_ Lf (au.cons_loop (bg.weak (bg.ent (.refl _) (bg.loopF (x := aE (aE (bS pf 3))) (f := m4 year v) (emb := yt year v) (E := sa year v) (J6 year v) (D6 year v) (dq h (M1 year v K))))))
def Fi (v : am) (year : Int) : St := ⟨[sv 0 (.agg [(i64 v.From),(i64 v.Rounding.Mode),(i64 v.Rounding.Unit),(bU v.Credits),(bZ v.Series),(cv v.Lets),(ck v.Grants),(bT v.Reduces)]),sv 1 (i64 year)],[],0⟩
noncomputable def m1 (v : am) (year : Int) : Option (aq) := (mN year v)
theorem KI {v : am} {year : Int} {K : KT} (h : W (m1 v year) (rE xb K)) : au Try.prog 48 (List.drop 0 pf) K (Fi v year) :=
  au.qD aX [] [1,2,4,5,6,25,26,27,28,29,30,31,32,33,34,35,36] 0 3 3 (.nx (fun K => wK K .normal (EY year v)) (l0 (Lc h)))
noncomputable def es (v : am) (year : Int) : Option (aq) := m1 v year
theorem Oc (v : am) (year : Int) (y_ : aq) (h : es v year = some y_) : au Try.prog 48 (be (aH Try.f26)) (cD Try.prog [.cell 4 49] (cw (me y_))) (Fi v year) :=
  @KI v year _ (bF.2 ⟨y_,h,Mw y_⟩)
noncomputable def ot : ct
  | [(.agg [(.c (.lit (.int .i64 a1))),(.c (.lit (.int .i64 a2))),(.c (.lit (.int .i64 a3))),(.c (.sl k4 n5 e6)),(.c (.sl k7 n8 e9)),(.c (.sl k10 n11 e12)),(.c (.sl k13 n14 bC)),(.c (.sl k16 n17 bw))]),(.c (.lit (.int .i64 a19)))] => some ([aT dh aV 2 k4 n5 e6,aT eo bc 3 k7 n8 e9,aT gI bp 7 k10 n11 e12,aT dP ba 13 k13 n14 bC,aT ef aU 7 k16 n17 bw,(es (am.mk a1 (aA.mk a2 a3) (lst aV n5 e6) (lst bc n8 e9) (lst bp n11 e12) (lst ba n14 bC) (lst aU n17 bw)) a19).isSome = true],(me ((es (am.mk a1 (aA.mk a2 a3) (lst aV n5 e6) (lst bc n8 e9) (lst bp n11 e12) (lst ba n14 bC) (lst aU n17 bw)) a19).getD bz)))
  | _ => none
theorem zb : br Try.prog 26 ot := by
  refine eL (fn := Try.f26) (c := aH Try.f26) (by kernel_rfl) (by kernel_rfl) (by kernel_rfl) (rs := [.cell 4 49]) (by kernel_rfl) (nt := 48) (by kernel_rfl) fun vs p out h hp => ?_
  unfold ot at h
  split at h
  · next a1 a2 a3 k4 n5 e6 k7 n8 e9 k10 n11 e12 k13 n14 bC k16 n17 bw a19 =>
    cases h
    obtain ⟨g0,hp⟩ := bE hp
    obtain ⟨g1,hp⟩ := bE hp
    obtain ⟨g2,hp⟩ := bE hp
    obtain ⟨g3,hp⟩ := bE hp
    obtain ⟨g4,hp⟩ := bE hp
    obtain ⟨g,hp⟩ := bE hp
    obtain ⟨x,hx⟩ := Option.isSome_iff_exists.1 g
    rw [hx]
    exact ⟨[(.agg [(i64 (am.mk a1 (aA.mk a2 a3) (lst aV n5 e6) (lst bc n8 e9) (lst bp n11 e12) (lst ba n14 bC) (lst aU n17 bw)).From),(i64 ((am.mk a1 (aA.mk a2 a3) (lst aV n5 e6) (lst bc n8 e9) (lst bp n11 e12) (lst ba n14 bC) (lst aU n17 bw)).Rounding).Mode),(i64 ((am.mk a1 (aA.mk a2 a3) (lst aV n5 e6) (lst bc n8 e9) (lst bp n11 e12) (lst ba n14 bC) (lst aU n17 bw)).Rounding).Unit),(bU ((am.mk a1 (aA.mk a2 a3) (lst aV n5 e6) (lst bc n8 e9) (lst bp n11 e12) (lst ba n14 bC) (lst aU n17 bw)).Credits)),(bZ ((am.mk a1 (aA.mk a2 a3) (lst aV n5 e6) (lst bc n8 e9) (lst bp n11 e12) (lst ba n14 bC) (lst aU n17 bw)).Series)),(cv ((am.mk a1 (aA.mk a2 a3) (lst aV n5 e6) (lst bc n8 e9) (lst bp n11 e12) (lst ba n14 bC) (lst aU n17 bw)).Lets)),(ck ((am.mk a1 (aA.mk a2 a3) (lst aV n5 e6) (lst bc n8 e9) (lst bp n11 e12) (lst ba n14 bC) (lst aU n17 bw)).Grants)),(bT ((am.mk a1 (aA.mk a2 a3) (lst aV n5 e6) (lst bc n8 e9) (lst bp n11 e12) (lst ba n14 bC) (lst aU n17 bw)).Reduces))]),(i64 a19)],(VLes.cons (VLe.agg (VLes.cons (VLe.rfl' _) (VLes.cons (VLe.rfl' _) (VLes.cons (VLe.rfl' _) (VLes.cons (VLe.slk g0.1 (aj.of_ok g0)) (VLes.cons (VLe.slk g1.1 (aj.of_ok g1)) (VLes.cons (VLe.slk g2.1 (aj.of_ok g2)) (VLes.cons (VLe.slk g3.1 (aj.of_ok g3)) (VLes.cons (VLe.slk g4.1 (aj.of_ok g4)) VLes.nil))))))))) (VLes.cons (VLe.rfl' _) VLes.nil)),rfl,Oc (am.mk a1 (aA.mk a2 a3) (lst aV n5 e6) (lst bc n8 e9) (lst bp n11 e12) (lst ba n14 bC) (lst aU n17 bw)) a19 x hx⟩
  · cases h
noncomputable abbrev P6 : FE Try.prog := ⟨26, .pure ot,zb⟩
noncomputable def PL : List Code := be (aH Try.f27)
def xZ (x_1 : Bool) : cm := .data (bl x_1)
def MQ (x_1 : Bool) : St := ⟨[sv 2 (bl x_1)],[],0⟩
def Mh (f : aq) : St := ⟨[sv 0 (.ag (cl f))],[],0⟩
noncomputable def m6 (f : aq) : Option (Bool) := (cd f).bind fun r_1 => ((some (bif (bif (bif r_1 then (decide (0 < f.Num)) else false) then (decide (f.Num ≤ 10000000000000)) else false) then (decide (f.Den ≤ 10000)) else false)))
theorem Jc {f : aq} {K : KT} (h : W (m6 f) (rE MQ K)) : au Try.prog 20 (List.drop 0 PL) K (Mh f) :=
  au.qE aX [zU] [2] 0 3 (.nx (fun K => ((cd f).isSome = true) ∧ (wK K .ret (MQ (bif (bif (bif ((cd f).getD false) then (decide (0 < f.Num)) else false) then (decide (f.Num ≤ 10000000000000)) else false) then (decide (f.Den ≤ 10000)) else false)))) (az false h fun _ h => (l0 h)))
noncomputable def dY (f : aq) : Option (Bool) := m6 f
noncomputable def tG : ct := gj ke dY false xZ
theorem yZ : br Try.prog 27 tG := dW Try.f27 (aH Try.f27) [.tmp 2] 20 fun u0 y h => @Jc u0 _ (bF.2 ⟨y,h,(dG (bl y) (VLe.rfl' _))⟩)
noncomputable abbrev P9 : FE Try.prog := ⟨27, .pure tG,yZ⟩
noncomputable def O9 : List Code := be (aH Try.f42)
def yW (x_1 : aN) : cm := .data (.agg [(.c (.lit (.int .u64 x_1.hi))),(.c (.lit (.int .u64 x_1.lo)))])
def Nu (x_1 : aN) : St := ⟨[sv 4 (.ptr 0 2 0 0)],[(0,some (.box [(.c (.lit (.int .u64 x_1.hi))),(.c (.lit (.int .u64 x_1.lo)))]))],1⟩
def Mn (a b : Int) : St := ⟨[sv 0 (.c (.lit (.int .u64 a))),sv 1 (.c (.lit (.int .u64 b)))],[],0⟩
noncomputable def kV (a b : Int) : Option (aN) := (dO a b).bind fun r_1 => ((some (aN.mk r_1.1 r_1.2)))
theorem IV {a b : Int} {K : KT} (h : W (kV a b) (rE Nu K)) : au Try.prog 16 (List.drop 0 O9) K (Mn a b) :=
  au.qE aX [lH] [4] 0 4 (.nx (fun K => let a1_ := dO a b; (a1_.isSome = true) ∧ (wK K .ret (Nu (aN.mk (a1_.getD (0,0)).1 (a1_.getD (0,0)).2)))) (az (0,0) h fun _ h => (l0 h)))
noncomputable def gM (a b : Int) : Option (aN) := kV a b
noncomputable def vp : ct := jr (aI .u64) (aI .u64) gM bG yW
theorem Ap : br Try.prog 42 vp := fQ Try.f42 (aH Try.f42) [.cell 4 81] 16 fun u0 u1 y h => @IV u0 u1 _ (bF.2 ⟨y,h,(dG (.agg [(.c (.lit (.int .u64 y.hi))),(.c (.lit (.int .u64 y.lo)))]) (VLe.rfl' _))⟩)
noncomputable abbrev QQ : FE Try.prog := ⟨42, .pure vp,Ap⟩
noncomputable def fG (x y c : Int) : Option (Int × Int) := gd ((0 : Int) ≤ x ∧ (0 : Int) ≤ y ∧ (0 : Int) ≤ c ∧ c ≤ (1 : Int)) (some ((x + y + c) % 18446744073709551616,(x + y + c) / 18446744073709551616))
def ud (x_2 : (Int × Int)) : cm := .data (.tup [(.c (.lit (.int .u64 x_2.1))),(.c (.lit (.int .u64 x_2.2)))])
noncomputable def kz : ct
  | [(.c (.lit (.int .u64 a1))),(.c (.lit (.int .u64 a2))),(.c (.lit (.int .u64 a3)))] => some ([(fG a1 a2 a3).isSome = true],(ud ((fG a1 a2 a3).getD ((0 : Int),(0 : Int)))))
  | _ => none
theorem um : br Try.prog 59 kz := by
  intro ok w xs vs p out hx hok hcon hp
  unfold kz at hcon
  split at hcon
  · next a b c =>
    cases hcon
    obtain ⟨g,hp⟩ := bE hp
    obtain ⟨r,hr⟩ := Option.isSome_iff_exists.1 g
    have hr' := hr
    unfold fG at hr'
    obtain ⟨⟨h1,h2,h3,h4⟩,hq⟩ := JL.1 hr'
    cases hq
    rw [hr]
    obtain ⟨x,y,z,rfl⟩ : ∃ x y z,xs = [x,y,z] := by
      have := hx.1
      match xs,this with
      | [x,y,z],_ => exact ⟨x,y,z,rfl⟩
    have e1 := (hx.2 0 x _ rfl rfl).lit_inv
    have e2 := (hx.2 1 y _ rfl rfl).lit_inv
    have e3 := (hx.2 2 z _ rfl rfl).lit_inv
    subst e1 e2 e3
    refine .inr ⟨.tuple #[.int .u64 ((a + b + c) % 18446744073709551616), .int .u64 ((a + b + c) / 18446744073709551616)],w, ?_, .refl _ _, ?_⟩
    · rw [run_callFunc_extern (fn := Try.f59) (e := add64Entry) (by kernel_rfl) (by kernel_rfl) (by kernel_rfl) (by kernel_rfl) (by kernel_rfl)]
      have := run_add64 (P := Try.prog) a b c h1 h2 h3 h4 w
      rw [show [Value.int .u64 a,Value.int .u64 b,Value.int .u64 c].toArray = #[Value.int .u64 a,Value.int .u64 b,Value.int .u64 c] from rfl,this]
      rfl
    · refine aK.tup [Value.int .u64 ((a + b + c) % 18446744073709551616),Value.int .u64 ((a + b + c) / 18446744073709551616)] _ rfl fun i v d hv hd => ?_
      match i with
      | 0 => cases hv; cases hd; exact .c _ _ (.lit _)
      | 1 => cases hv; cases hd; exact .c _ _ (.lit _)
      | i + 2 => cases hv
  · cases hcon
noncomputable abbrev QG : FE Try.prog := ⟨59, .pure kz,um⟩
noncomputable def PK : List Code := be (aH Try.f44)
def uF (x_2 : aN) : cm := .data (.agg [(.c (.lit (.int .u64 x_2.hi))),(.c (.lit (.int .u64 x_2.lo)))])
def NK (x_2 : aN) : St := ⟨[sv 4 (.ptr 0 2 0 0)],[(0,some (.box [(.c (.lit (.int .u64 x_2.hi))),(.c (.lit (.int .u64 x_2.lo)))]))],1⟩
def Nc (w x_1 : aN) : St := ⟨[sv 0 (.ag (dB w)),sv 1 (.ag (dB x_1))],[],0⟩
noncomputable def kp (w x_1 : aN) : Option (aN) := (fG w.lo x_1.lo 0).bind fun r_1 => ((some (aN.mk (IntKind.u64.wrap ((IntKind.u64.wrap (w.hi + x_1.hi)) + r_1.2)) r_1.1)))
theorem Ki {w x_1 : aN} {K : KT} (h : W (kp w x_1) (rE NK K)) : au Try.prog 24 (List.drop 0 PK) K (Nc w x_1) :=
  au.qE aX [QG] [4] 0 4 (.nx (fun K => let a1_ := fG w.lo x_1.lo 0; (a1_.isSome = true) ∧ (wK K .ret (NK (aN.mk (IntKind.u64.wrap ((IntKind.u64.wrap (w.hi + x_1.hi)) + (a1_.getD (0,0)).2)) (a1_.getD (0,0)).1)))) (az (0,0) h fun _ h => (l0 h)))
noncomputable def il (w x_1 : aN) : Option (aN) := kp w x_1
noncomputable def qb : ct := jr fB fB il bG uF
theorem vZ : br Try.prog 44 qb := fQ Try.f44 (aH Try.f44) [.cell 4 81] 24 fun u0 u1 y h => @Ki u0 u1 _ (bF.2 ⟨y,h,(dG (.agg [(.c (.lit (.int .u64 y.hi))),(.c (.lit (.int .u64 y.lo)))]) (VLe.rfl' _))⟩)
noncomputable abbrev Q7 : FE Try.prog := ⟨44, .pure qb,vZ⟩
noncomputable def DC : List Code := be (aH Try.f43)
def w6 (x_1 : (Int × Int)) : cm := .data (.tup [(i64 x_1.1),(i64 x_1.2)])
def zE (x_1 : (Int × Int)) : St := ⟨[sv 8 (i64 x_1.1),sv 9 (i64 x_1.2)],[],0⟩
def Ba (negative : Bool) (unit k_1 : Int) : St := ⟨[sv 0 (bl negative),sv 10 (.c (.lit (.int .u64 unit))),sv 13 (.c (.lit (.int .u64 k_1)))],[],0⟩
noncomputable def cS (negative : Bool) (unit k_1 : Int) : Option ((Int × Int)) := gd (unit ≠ 0) ((bif (decide ((IntKind.u64.wrap (Int.tdiv 1000000000000 unit)) < k_1)) then (some (0,2)) else (bif negative then (some ((ak (0 - (ak (IntKind.u64.wrap (k_1 * unit))))),0)) else (some ((ak (IntKind.u64.wrap (k_1 * unit))),0)))))
theorem jZ {negative : Bool} {unit k_1 : Int} {K : KT} (h : W (cS negative unit k_1) (rE zE K)) : au Try.prog 109 (List.drop 9 DC) K (Ba negative unit k_1) :=
  au.qE aX [] [8,9] 9 6 (.nx (fun K => let a1_ := ak (IntKind.u64.wrap (k_1 * unit)); (unit ≠ 0) ∧ ((bif (decide ((IntKind.u64.wrap (Int.tdiv 1000000000000 unit)) < k_1)) then wK K .ret (zE (0,2)) else (bif negative then wK K .ret (zE ((ak (0 - a1_)),0)) else wK K .ret (zE (a1_,0)))))) (bX h fun _ h => (an h (fun _ h => (l0 h)) (fun _ h => (an h (fun _ h => (l0 h)) (fun _ h => (l0 h)))))))
def M6 (negative : Bool) (unit rest k left : Int) (r_1 : aA) : St := ⟨[sv 0 (bl negative),sv 10 (.c (.lit (.int .u64 unit))),sv 12 (.c (.lit (.int .u64 rest))),sv 13 (.c (.lit (.int .u64 k))),sv 14 (.c (.lit (.int .u64 left))),sv 42 (i64 r_1.Mode)],[],0⟩
noncomputable def mn (negative : Bool) (unit rest k left : Int) (r_1 : aA) : Option ((Int × Int)) := (bif (r_1.Mode == 1) then (bif (bif negative then (decide (0 < rest)) else false) then (cS negative unit (IntKind.u64.wrap (k + 1))) else (cS negative unit k)) else (bif (r_1.Mode == 2) then (bif (bif (!negative) then (decide (0 < rest)) else false) then (cS negative unit (IntKind.u64.wrap (k + 1))) else (cS negative unit k)) else (bif (r_1.Mode == 3) then (bif (bif (decide (left < rest)) then true else (bif (rest == left) then (!negative) else false)) then (cS negative unit (IntKind.u64.wrap (k + 1))) else (cS negative unit k)) else (bif (r_1.Mode == 4) then (bif (bif (decide (left < rest)) then true else (bif (rest == left) then ((Int.tmod k 2) == 1) else false)) then (cS negative unit (IntKind.u64.wrap (k + 1))) else (cS negative unit k)) else (cS negative unit k)))))
theorem Kt {negative : Bool} {unit rest k left : Int} {r_1 : aA} {K : KT} (h : W (mn negative unit rest k left r_1) (rE zE K)) : au Try.prog 109 (List.drop 8 DC) K (M6 negative unit rest k left r_1) :=
  au.qD aX [] [0,10,13] 8 1 9 (.nx (fun K => let a1_ := Ba negative unit (IntKind.u64.wrap (k + 1)); let a2_ := Ba negative unit k; let a3_ := decide (left < rest); (bif (r_1.Mode == 1) then (bif (bif negative then (decide (0 < rest)) else false) then wK K .normal a1_ else wK K .normal a2_) else (bif (r_1.Mode == 2) then (bif (bif (!negative) then (decide (0 < rest)) else false) then wK K .normal a1_ else wK K .normal a2_) else (bif (r_1.Mode == 3) then (bif (bif a3_ then true else (bif (rest == left) then (!negative) else false)) then wK K .normal a1_ else wK K .normal a2_) else (bif (r_1.Mode == 4) then (((rest == left) && ((!a3_) && true)) = true → (2 : Int) ≠ 0) ∧ ((bif (bif a3_ then true else (bif (rest == left) then ((Int.tmod k 2) == 1) else false)) then wK K .normal a1_ else wK K .normal a2_)) else wK K .normal a2_))))) (an h (fun _ h => (an h (fun _ h => (l0 (jZ h))) (fun _ h => (l0 (jZ h))))) (fun _ h => (an h (fun _ h => (an h (fun _ h => (l0 (jZ h))) (fun _ h => (l0 (jZ h))))) (fun _ h => (an h (fun _ h => (an h (fun _ h => (l0 (jZ h))) (fun _ h => (l0 (jZ h))))) (fun _ h => (an h (fun _ h => ⟨(fun _ => (by decide)),(an h (fun _ h => (l0 (jZ h))) (fun _ h => (l0 (jZ h))))⟩) (fun _ h => (l0 (jZ h)))))))))))
def L0 (negative : Bool) (n : aN) (d_1 : Int) (r_1 : aA) : St := ⟨[sv 0 (bl negative),sv 1 (.ag (dB n)),sv 2 (.c (.lit (.int .u64 d_1))),sv 3 (.ag (tk r_1))],[],0⟩
noncomputable def l5 (negative : Bool) (n : aN) (d_1 : Int) (r_1 : aA) : Option ((Int × Int)) := (cP n (IntKind.u64.wrap (d_1 * (IntKind.u64.wrap r_1.Unit)))).bind fun r_2 => ((bif (bif (r_2.1.hi != 0) then true else (decide (1000000000000 < r_2.1.lo))) then (some (0,2)) else (mn negative (IntKind.u64.wrap r_1.Unit) r_2.2 r_2.1.lo (IntKind.u64.wrap ((IntKind.u64.wrap (d_1 * (IntKind.u64.wrap r_1.Unit))) - r_2.2)) r_1)))
theorem IU {negative : Bool} {n : aN} {d_1 : Int} {r_1 : aA} {K : KT} (h : W (l5 negative n d_1 r_1) (rE zE K)) : au Try.prog 109 (List.drop 0 DC) K (L0 negative n d_1 r_1) :=
  au.qD aX [P2] [0,8,9,10,12,13,14,42,47,48,57,58,68,69,70,71,72,73,74,84,85,86,87,88,89,90,91] 0 8 8 (.nx (fun K => let a2_ := IntKind.u64.wrap r_1.Unit; let a3_ := IntKind.u64.wrap (d_1 * a2_); let a1_ := (cP n a3_).getD (bG,0); ((cP n a3_).isSome = true) ∧ ((bif (bif ((a1_.1).hi != 0) then true else (decide (1000000000000 < (a1_.1).lo))) then wK K .ret (⟨[sv 0 (bl negative),sv 8 (i64 0),sv 9 (i64 2),sv 10 (.c (.lit (.int .u64 a2_))),sv 12 (.c (.lit (.int .u64 a1_.2)))],[],0⟩) else wK K .normal (⟨[sv 0 (bl negative),sv 8 (i64 0),sv 9 (i64 0),sv 10 (.c (.lit (.int .u64 a2_))),sv 12 (.c (.lit (.int .u64 a1_.2))),sv 13 (.c (.lit (.int .u64 (a1_.1).lo))),sv 14 (.c (.lit (.int .u64 (IntKind.u64.wrap (a3_ - a1_.2))))),sv 42 (i64 r_1.Mode)],[],0⟩)))) (az (bG,0) h fun _ h => (an h (fun _ h => (lf h (.cn [8,9]))) (fun _ h => (lf (Kt h) (.cn [0,10,12,13,14,42]))))))
noncomputable def jP (negative : Bool) (n : aN) (d_1 : Int) (r_1 : aA) : Option ((Int × Int)) := l5 negative n d_1 r_1
noncomputable def r7 : ct := EK aB fB (aI .u64) DO jP ((0 : Int),(0 : Int)) w6
theorem xV : br Try.prog 43 r7 := Fh Try.f43 (aH Try.f43) [.tmp 8, .tmp 9] 109 fun u0 u1 u2 u3 y h => @IU u0 u1 u2 u3 _ (bF.2 ⟨y,h,(dG (.tup [(i64 y.1),(i64 y.2)]) (VLe.tup (VLes.cons (VLe.rfl' _) (VLes.cons (VLe.rfl' _) (VLes.nil)))))⟩)
noncomputable abbrev QS : FE Try.prog := ⟨43, .pure r7,xV⟩
noncomputable def Pu : List Code := be (aH Try.f28)
def wd (x_1 : (Int × Int)) : cm := .data (.tup [(i64 x_1.1),(i64 x_1.2)])
def Ho (x_1 : (Int × Int)) : St := ⟨[sv 10 (i64 x_1.1),sv 11 (i64 x_1.2)],[],0⟩
def O3 (a b c d_1 e_1 : Int) : St := ⟨[sv 0 (i64 a),sv 1 (i64 b),sv 2 (i64 c),sv 3 (i64 d_1),sv 4 (i64 e_1)],[],0⟩
noncomputable def lq (a b c d_1 e_1 : Int) : Option ((Int × Int)) := (gM (IntKind.u64.wrap a) (IntKind.u64.wrap b)).bind fun r_1 => ((dO r_1.hi (IntKind.u64.wrap c)).bind fun r_2 => ((gM r_1.lo (IntKind.u64.wrap c)).bind fun r_3 => ((bif (r_2.1 != 0) then (some (0,2)) else (il r_3 (aN.mk r_2.2 0)).bind fun r_4 => ((jP false r_4 (IntKind.u64.wrap ((IntKind.u64.wrap d_1) * (IntKind.u64.wrap e_1))) (aA.mk 1 1)).bind fun r_5 => ((some (r_5.1,r_5.2))))))))
theorem I9 {a b c d_1 e_1 : Int} {K : KT} (h : W (lq a b c d_1 e_1) (rE Ho K)) : au Try.prog 49 (List.drop 0 Pu) K (O3 a b c d_1 e_1) :=
  au.qE aX [lH,QQ,QS,Q7] [10,11] 0 8 (.nx (fun K => let a3_ := (gM (IntKind.u64.wrap a) (IntKind.u64.wrap b)).getD bG; let a4_ := dO (a3_.hi) (IntKind.u64.wrap c); let a1_ := il ((gM (a3_.lo) (IntKind.u64.wrap c)).getD bG) (aN.mk (a4_.getD (0,0)).2 0); let a2_ := jP false (a1_.getD bG) (IntKind.u64.wrap ((IntKind.u64.wrap d_1) * (IntKind.u64.wrap e_1))) (aA.mk 1 1); ((gM (IntKind.u64.wrap a) (IntKind.u64.wrap b)).isSome = true) ∧ ((a4_.isSome = true) ∧ (((gM (a3_.lo) (IntKind.u64.wrap c)).isSome = true) ∧ ((bif ((a4_.getD (0,0)).1 != 0) then wK K .ret (Ho (0,2)) else (a1_.isSome = true) ∧ (a2_.isSome = true) ∧ (wK K .ret (Ho ((a2_.getD (0,0)).1,(a2_.getD (0,0)).2)))))))) (az bG h fun _ h => (az (0,0) h fun _ h => (az bG h fun _ h => (an h (fun _ h => (l0 h)) (fun _ h => (az bG h fun _ h => (az (0,0) h fun _ h => (l0 h)))))))))
noncomputable def i7 (a b c d_1 e_1 : Int) : Option ((Int × Int)) := lq a b c d_1 e_1
noncomputable def qt : ct := G8 (aI .i64) (aI .i64) (aI .i64) (aI .i64) (aI .i64) i7 ((0 : Int),(0 : Int)) wd
theorem w8 : br Try.prog 28 qt := Ou Try.f28 (aH Try.f28) [.tmp 10, .tmp 11] 49 fun u0 u1 u2 u3 u4 y h => @I9 u0 u1 u2 u3 u4 _ (bF.2 ⟨y,h,(dG (.tup [(i64 y.1),(i64 y.2)]) (VLe.tup (VLes.cons (VLe.rfl' _) (VLes.cons (VLe.rfl' _) (VLes.nil)))))⟩)
noncomputable abbrev Qc : FE Try.prog := ⟨28, .pure qt,w8⟩
noncomputable def IF : List Code := be (aH Try.f15)
def ln (x_1 : (Int × Int)) : cm := .data (.tup [(i64 x_1.1),(i64 x_1.2)])
def DP (x_1 : (Int × Int)) : St := ⟨[sv 8 (i64 x_1.1),sv 9 (i64 x_1.2)],[],0⟩
theorem Np (x_1 : (Int × Int)) : cD Try.prog [.tmp 8, .tmp 9] (cw (ln x_1)) .ret (DP x_1) :=
  cD.intro (v := (.tup [(i64 x_1.1),(i64 x_1.2)])) (by kernel_rfl) (VLe.tup (VLes.cons (VLe.rfl' _) (VLes.cons (VLe.rfl' _) (VLes.nil))))
def B7 (v : am) (amount year reference : Int) : St := ⟨[sv 0 (.agg [(i64 v.From),(i64 v.Rounding.Mode),(i64 v.Rounding.Unit),(bU v.Credits),(bZ v.Series),(cv v.Lets),(ck v.Grants),(bT v.Reduces)]),sv 1 (i64 amount),sv 2 (i64 year),sv 3 (i64 reference)],[],0⟩
noncomputable def l4 (v : am) (amount year reference : Int) : Option ((Int × Int)) := (es v reference).bind fun r_1 => ((es v year).bind fun r_2 => (gd (((!(bif (decide (amount < 0)) then true else (decide (1000000000000 < amount)))) && true) = true → (dY r_1).isSome = true) (gd (((!(bif (bif (decide (amount < 0)) then true else (decide (1000000000000 < amount))) then true else (!((dY r_1).getD false)))) && true) = true → (dY r_2).isSome = true) ((bif (bif (bif (bif (decide (amount < 0)) then true else (decide (1000000000000 < amount))) then true else (!((dY r_1).getD false))) then true else (!((dY r_2).getD false))) then (some (0,1)) else (i7 amount r_1.Num r_2.Den r_1.Den r_2.Num).bind fun r_3 => ((some (r_3.1,r_3.2))))))))
theorem K3 (v : am) (amount year reference : Int) (K : KT) {L1_ : List av} (hL1_ : lst aV v.Credits.length (dy v.Credits) = L1_) {L2_ : List aD} (hL2_ : lst bc v.Series.length (eK v.Series) = L2_) {L3_ : List bk} (hL3_ : lst bp v.Lets.length (gm v.Lets) = L3_) {L4_ : List bf} (hL4_ : lst ba v.Grants.length (dR v.Grants) = L4_) {L5_ : List bJ} (hL5_ : lst aU v.Reduces.length (ee v.Reduces) = L5_) {L6_ : List av} (hL6_ : lst aV v.Credits.length (dy v.Credits) = L6_) {L7_ : List aD} (hL7_ : lst bc v.Series.length (eK v.Series) = L7_) {L8_ : List bk} (hL8_ : lst bp v.Lets.length (gm v.Lets) = L8_) {L9_ : List bf} (hL9_ : lst ba v.Grants.length (dR v.Grants) = L9_) {L10_ : List bJ} (hL10_ : lst aU v.Reduces.length (ee v.Reduces) = L10_) :
    ev Try.prog (dx [P6,P9,Qc]) 46 (ofItems ((List.drop 0 IF).take 6)) (cN [8,9] K) (B7 v amount year reference) =
    (let a4_ := es (am.mk v.From v.Rounding L1_ L2_ L3_ L4_ L5_) reference; let a3_ := es (am.mk v.From v.Rounding L6_ L7_ L8_ L9_ L10_) year; let a1_ := i7 amount ((a4_.getD bz).Num) ((a3_.getD bz).Den) ((a4_.getD bz).Den) ((a3_.getD bz).Num); let a2_ := bif (bif (decide (amount < 0)) then true else (decide (1000000000000 < amount))) then true else (!((dY (a4_.getD bz)).getD false)); let a5_ := dY (a3_.getD bz); (iL v.Credits) ∧ (j6 v.Series) ∧ (pn v.Lets) ∧ (j7 v.Grants) ∧ (i6 v.Reduces) ∧ (a4_.isSome = true) ∧ (iL v.Credits) ∧ (j6 v.Series) ∧ (pn v.Lets) ∧ (j7 v.Grants) ∧ (i6 v.Reduces) ∧ (a3_.isSome = true) ∧ ((((!(bif (decide (amount < 0)) then true else (decide (1000000000000 < amount)))) && true) = true → (dY (a4_.getD bz)).isSome = true) ∧ (((!a2_) && true) = true → a5_.isSome = true) ∧ ((bif (bif a2_ then true else (!(a5_.getD false))) then wK K .ret (DP (0,1)) else (a1_.isSome = true) ∧ (wK K .ret (DP ((a1_.getD (0,0)).1,(a1_.getD (0,0)).2))))))) := by subst hL1_ hL2_ hL3_ hL4_ hL5_ hL6_ hL7_ hL8_ hL9_ hL10_; kernel_rfl
theorem Ks {v : am} {amount year reference : Int} {K : KT} (h : W (l4 v amount year reference) (rE DP K)) : au Try.prog 46 (List.drop 0 IF) K (B7 v amount year reference) :=
  au.qE aX [P6,P9,Qc] [8,9] 0 6 (.of (K3 v amount year reference _ (lb bI) (lb bW) (lb cA) (lb bV) (lb bH) (lb bI) (lb bW) (lb cA) (lb bV) (lb bH)) (⟨kb bI,⟨kb bW,⟨kb cA,⟨kb bV,⟨kb bH,(az bz h fun _ h => ⟨kb bI,⟨kb bW,⟨kb cA,⟨kb bV,⟨kb bH,(az bz h fun _ h => (bX h fun _ h => (bX h fun _ h => (an h (fun _ h => (l0 h)) (fun _ h => (az (0,0) h fun _ h => (l0 h)))))))⟩⟩⟩⟩⟩)⟩⟩⟩⟩⟩))
noncomputable def fy (v : am) (amount year reference : Int) : Option ((Int × Int)) := l4 v amount year reference
theorem OU (v : am) (amount year reference : Int) (y_ : (Int × Int)) (h : fy v amount year reference = some y_) : au Try.prog 46 (be (aH Try.f15)) (cD Try.prog [.tmp 8, .tmp 9] (cw (ln y_))) (B7 v amount year reference) :=
  @Ks v amount year reference _ (bF.2 ⟨y_,h,Np y_⟩)
noncomputable def mU : ct
  | [(.agg [(.c (.lit (.int .i64 a1))),(.c (.lit (.int .i64 a2))),(.c (.lit (.int .i64 a3))),(.c (.sl k4 n5 e6)),(.c (.sl k7 n8 e9)),(.c (.sl k10 n11 e12)),(.c (.sl k13 n14 bC)),(.c (.sl k16 n17 bw))]),(.c (.lit (.int .i64 a19))),(.c (.lit (.int .i64 a20))),(.c (.lit (.int .i64 a21)))] => some ([aT dh aV 2 k4 n5 e6,aT eo bc 3 k7 n8 e9,aT gI bp 7 k10 n11 e12,aT dP ba 13 k13 n14 bC,aT ef aU 7 k16 n17 bw,(fy (am.mk a1 (aA.mk a2 a3) (lst aV n5 e6) (lst bc n8 e9) (lst bp n11 e12) (lst ba n14 bC) (lst aU n17 bw)) a19 a20 a21).isSome = true],(ln ((fy (am.mk a1 (aA.mk a2 a3) (lst aV n5 e6) (lst bc n8 e9) (lst bp n11 e12) (lst ba n14 bC) (lst aU n17 bw)) a19 a20 a21).getD ((0 : Int),(0 : Int)))))
  | _ => none
theorem ye : br Try.prog 15 mU := by
  refine eL (fn := Try.f15) (c := aH Try.f15) (by kernel_rfl) (by kernel_rfl) (by kernel_rfl) (rs := [.tmp 8, .tmp 9]) (by kernel_rfl) (nt := 46) (by kernel_rfl) fun vs p out h hp => ?_
  unfold mU at h
  split at h
  · next a1 a2 a3 k4 n5 e6 k7 n8 e9 k10 n11 e12 k13 n14 bC k16 n17 bw a19 a20 a21 =>
    cases h
    obtain ⟨g0,hp⟩ := bE hp
    obtain ⟨g1,hp⟩ := bE hp
    obtain ⟨g2,hp⟩ := bE hp
    obtain ⟨g3,hp⟩ := bE hp
    obtain ⟨g4,hp⟩ := bE hp
    obtain ⟨g,hp⟩ := bE hp
    obtain ⟨x,hx⟩ := Option.isSome_iff_exists.1 g
    rw [hx]
    exact ⟨[(.agg [(i64 (am.mk a1 (aA.mk a2 a3) (lst aV n5 e6) (lst bc n8 e9) (lst bp n11 e12) (lst ba n14 bC) (lst aU n17 bw)).From),(i64 ((am.mk a1 (aA.mk a2 a3) (lst aV n5 e6) (lst bc n8 e9) (lst bp n11 e12) (lst ba n14 bC) (lst aU n17 bw)).Rounding).Mode),(i64 ((am.mk a1 (aA.mk a2 a3) (lst aV n5 e6) (lst bc n8 e9) (lst bp n11 e12) (lst ba n14 bC) (lst aU n17 bw)).Rounding).Unit),(bU ((am.mk a1 (aA.mk a2 a3) (lst aV n5 e6) (lst bc n8 e9) (lst bp n11 e12) (lst ba n14 bC) (lst aU n17 bw)).Credits)),(bZ ((am.mk a1 (aA.mk a2 a3) (lst aV n5 e6) (lst bc n8 e9) (lst bp n11 e12) (lst ba n14 bC) (lst aU n17 bw)).Series)),(cv ((am.mk a1 (aA.mk a2 a3) (lst aV n5 e6) (lst bc n8 e9) (lst bp n11 e12) (lst ba n14 bC) (lst aU n17 bw)).Lets)),(ck ((am.mk a1 (aA.mk a2 a3) (lst aV n5 e6) (lst bc n8 e9) (lst bp n11 e12) (lst ba n14 bC) (lst aU n17 bw)).Grants)),(bT ((am.mk a1 (aA.mk a2 a3) (lst aV n5 e6) (lst bc n8 e9) (lst bp n11 e12) (lst ba n14 bC) (lst aU n17 bw)).Reduces))]),(i64 a19),(i64 a20),(i64 a21)],(VLes.cons (VLe.agg (VLes.cons (VLe.rfl' _) (VLes.cons (VLe.rfl' _) (VLes.cons (VLe.rfl' _) (VLes.cons (VLe.slk g0.1 (aj.of_ok g0)) (VLes.cons (VLe.slk g1.1 (aj.of_ok g1)) (VLes.cons (VLe.slk g2.1 (aj.of_ok g2)) (VLes.cons (VLe.slk g3.1 (aj.of_ok g3)) (VLes.cons (VLe.slk g4.1 (aj.of_ok g4)) VLes.nil))))))))) (VLes.cons (VLe.rfl' _) (VLes.cons (VLe.rfl' _) (VLes.cons (VLe.rfl' _) VLes.nil)))),rfl,OU (am.mk a1 (aA.mk a2 a3) (lst aV n5 e6) (lst bc n8 e9) (lst bp n11 e12) (lst ba n14 bC) (lst aU n17 bw)) a19 a20 a21 x hx⟩
  · cases h
noncomputable abbrev bC : FE Try.prog := ⟨15, .pure mU,ye⟩
noncomputable def sQ : List Code := be (aH Try.f7)
noncomputable def HS : List Code := be (aE (aE (bS sQ 3)))
def gP (x_1 : ((List Int) × Int)) : cm := .new (.tup [(aC x_1.1),(i64 x_1.2)])
def BA (x_1 : ((List Int) × Int)) : St := ⟨[sv 6 (.row 0 1 0 x_1.1.length),sv 7 (i64 x_1.2)],[(jq 0 3 x_1.1)],1⟩
theorem O7 (x_1 : ((List Int) × Int)) : cD Try.prog [.tmp 6, .tmp 7] (cw (gP x_1)) .ret (BA x_1) :=
  cD.intro (v := (.tup [(.row 0 1 0 x_1.1.length),(i64 x_1.2)])) (by kernel_rfl) (⟨VLe.tup (VLes.cons (VLe.sl (aj.ls0 aR (0 : Int) x_1.1)) (VLes.cons (VLe.rfl' _) (VLes.nil))),⟨⟨_,_,_,rfl,fun i hi d hd => BZ _ d hd⟩,rfl,trivial⟩⟩)
def AN (l : (List aF)) (reference : Int) (v : am) (s : ((List Int) × Int)) : St := match s with | (out_1,i_1) => ⟨[sv 0 (cq l),sv 2 (i64 reference),sv 4 (.ptr 0 8 0 0),sv 8 (.row 1 1 0 out_1.length),sv 9 (i64 i_1)],[(0,some (.box [(i64 v.From),(i64 v.Rounding.Mode),(i64 v.Rounding.Unit),(bU v.Credits),(bZ v.Series),(cv v.Lets),(ck v.Grants),(bT v.Reduces)])),(jq 1 3 out_1)],2⟩
def Oy (l : (List aF)) (reference : Int) (v : am) (s : Int) : St := match s with | t7 => ⟨[sv 6 (.c .nil),sv 7 (i64 t7)],[],0⟩
def Ok (l : (List aF)) (reference : Int) (v : am) (s : (List Int)) : St := match s with | out_2 => ⟨[sv 8 (.row 0 1 0 out_2.length)],[(jq 0 3 out_2)],1⟩
def vE (l : (List aF)) (reference : Int) (v : am) (r : ((Int) ⊕ ((List Int)))) (K : KT) : Prop := match r with | (.inl s) => K .ret (Oy l reference v s) | (.inr s) => K (.exit 0) (Ok l reference v s)
def HY (l : (List aF)) (reference : Int) (out_1 : (List Int)) (i_1 : Int) (v : am) : St := ⟨[sv 0 (cq l),sv 2 (i64 reference),sv 4 (.ptr 0 8 0 0),sv 8 (.row 1 1 0 out_1.length),sv 9 (i64 i_1)],[(0,some (.box [(i64 v.From),(i64 v.Rounding.Mode),(i64 v.Rounding.Unit),(bU v.Credits),(bZ v.Series),(cv v.Lets),(ck v.Grants),(bT v.Reduces)])),(jq 1 3 out_1)],2⟩
noncomputable def fE (l : (List aF)) (reference : Int) (out_1 : (List Int)) (i_1 : Int) (v : am) : Option (((List Int) × Int) ⊕ ((Int) ⊕ ((List Int)))) := (bif (decide (i_1 < (l.length : Int))) then gd (0 ≤ i_1 ∧ i_1 < (l.length : Int)) (gd (0 ≤ i_1 ∧ i_1 < (l.length : Int)) ((fy v ((l.getD (Int.toNat i_1) bY).Amount) ((l.getD (Int.toNat i_1) bY).Year) reference).bind fun r_1 => ((bif (r_1.2 != 0) then (some (Sum.inr (Sum.inl r_1.2))) else gd (jF (out_1.length + 1) 8) ((some (Sum.inl ((out_1 ++ ([r_1.1] : List Int)),(ak (i_1 + 1)))))))))) else (some (Sum.inr (Sum.inr out_1))))
theorem MU (l : (List aF)) (reference : Int) (out_1 : (List Int)) (i_1 : Int) (v : am) (K : KT) {L1_ : List av} (hL1_ : lst aV v.Credits.length (dy v.Credits) = L1_) {L2_ : List aD} (hL2_ : lst bc v.Series.length (eK v.Series) = L2_) {L3_ : List bk} (hL3_ : lst bp v.Lets.length (gm v.Lets) = L3_) {L4_ : List bf} (hL4_ : lst ba v.Grants.length (dR v.Grants) = L4_) {L5_ : List bJ} (hL5_ : lst aU v.Reduces.length (ee v.Reduces) = L5_) :
    ev Try.prog (dx [bC]) 42 (ofItems ((List.drop 0 HS).take 4)) (cN [0,2,4,6,7,8,9] K) (HY l reference out_1 i_1 v) =
    (let a1_ := fy (am.mk v.From v.Rounding L1_ L2_ L3_ L4_ L5_) ((l.getD (Int.toNat i_1) bY).Amount) ((l.getD (Int.toNat i_1) bY).Year) reference; let a2_ := out_1.length + 1; let a3_ := i_1 < (l.length : Int); let a4_ := i64 v.Rounding.Mode; let a5_ := i64 v.Rounding.Unit; let a6_ := bU v.Credits; let a7_ := bT v.Reduces; let a8_ := bZ v.Series; let a9_ := ck v.Grants; (bif (decide a3_) then (0 ≤ i_1) ∧ a3_ ∧ (0 ≤ i_1) ∧ a3_ ∧ (iL v.Credits) ∧ (j6 v.Series) ∧ (pn v.Lets) ∧ (j7 v.Grants) ∧ (i6 v.Reduces) ∧ (a1_.isSome = true) ∧ ((bif ((a1_.getD (0,0)).2 != 0) then wK K .ret (⟨[sv 0 (cq l),sv 2 (i64 reference),sv 4 (.ptr 0 8 0 0),sv 6 (.c .nil),sv 7 (i64 (a1_.getD (0,0)).2),sv 8 (.row 1 1 0 out_1.length),sv 9 (i64 i_1)],[(0,some (.box [(i64 v.From),a4_,a5_,a6_,a8_,(cv v.Lets),a9_,a7_])),(jq 1 3 out_1)],2⟩) else (out_1.length = out_1.length) ∧ (a2_ * 8 ≤ 140737488355328) ∧ (a2_ ≤ 140737488355328) ∧ (wK K .normal (⟨[sv 0 (cq l),sv 2 (i64 reference),sv 4 (.ptr 0 8 0 0),sv 8 (.row 1 1 0 a2_),sv 9 (i64 (ak (i_1 + 1)))],[(0,some (.box [(i64 v.From),a4_,a5_,a6_,a8_,(cv v.Lets),a9_,a7_])),(1,some (.row 3 1 a2_ (fun i => bif Nat.blt i out_1.length then (aQ out_1) i else (fun i => (aQ ([(a1_.getD (0,0)).1] : List Int)) (0 + i)) (i - out_1.length))))],2⟩)))) else wK K (.exit 0) (⟨[sv 0 (cq l),sv 2 (i64 reference),sv 4 (.ptr 0 8 0 0),sv 8 (.row 1 1 0 out_1.length),sv 9 (i64 i_1)],[(0,some (.box [(i64 v.From),a4_,a5_,a6_,a8_,(cv v.Lets),a9_,a7_])),(jq 1 3 out_1)],2⟩))) := by subst hL1_ hL2_ hL3_ hL4_ hL5_; kernel_rfl
theorem Ni {l : (List aF)} {reference : Int} {out_1 : (List Int)} {i_1 : Int} {v : am} {K : KT} (h : W (fE l reference out_1 i_1 v) (nE (AN l reference v) (vE l reference v) K)) : au Try.prog 42 (List.drop 0 HS) K (HY l reference out_1 i_1 v) :=
  au.qE aX [bC] [0,2,4,6,7,8,9] 0 4 (.of (MU l reference out_1 i_1 v _ (lb bI) (lb bW) (lb cA) (lb bV) (lb bH)) (an h (fun _ h => (bD h fun _ h => (bD h fun _ h => ⟨kb bI,⟨kb bW,⟨kb cA,⟨kb bV,⟨kb bH,(az (0,0) h fun _ h => (an h (fun _ h => (lf h (.cn [6,7]))) (fun _ h => ⟨rfl,(bD h fun _ h => (lf h (.of (.qs 3 (.cons rfl (.rown (fg rfl rfl)) (.q rfl .nil))) (.same rfl (.row rfl (aj.app .b (aj.zero (aj.ls aR (0 : Int) ([((fy v (l.getD (Int.toNat i_1) bY).Amount (l.getD (Int.toNat i_1) bY).Year reference).getD (0,0)).1] : List Int)))) .nil rfl)) rfl)))⟩)))⟩⟩⟩⟩⟩))) (fun _ h => (lf h (.cn [8])))))
noncomputable def fJ (l : (List aF)) (reference : Int) (v : am) (s : ((List Int) × Int)) : Option (((List Int) × Int) ⊕ ((Int) ⊕ ((List Int)))) := match s with | (out_1,i_1) => fE l reference out_1 i_1 v
theorem NF (l : (List aF)) (reference : Int) (v : am) (s : ((List Int) × Int)) : Pp Try.prog 42 (List.drop 0 HS) (AN l reference v s) (fJ l reference v s) (dK (AN l reference v) (vE l reference v)) := fun K h => match s,h with | (out_1,i_1),h => (Ni h)
theorem Fc (l : (List aF)) (reference : Int) (v : am) : ∀ (r : ((Int) ⊕ ((List Int)))) (J : St → Prop) (K : KT),vE l reference v r K → vE l reference v r (bB J K)
  | (.inl s),_,_,h => h
  | (.inr s),_,_,h => h
def Ij (out_3 : (List Int)) : St := ⟨[sv 8 (.row 0 1 0 out_3.length)],[(jq 0 3 out_3)],1⟩
noncomputable def lz (out_3 : (List Int)) : Option (((List Int) × Int)) := (some (out_3,0))
theorem Mo {out_3 : (List Int)} {K : KT} (h : W (lz out_3) (rE BA K)) : au Try.prog 42 (List.drop 4 sQ) K (Ij out_3) :=
  au.qE aX [] [6,7] 4 2 (.nx (fun K => wK K .ret (BA (out_3,0))) (l0 h))
def H3 (l : (List aF)) (reference : Int) (v : am) : St := ⟨[sv 0 (cq l),sv 2 (i64 reference),sv 4 (.ptr 0 8 0 0),sv 8 (.c .nil),sv 9 (i64 0)],[(0,some (.box [(i64 v.From),(i64 v.Rounding.Mode),(i64 v.Rounding.Unit),(bU v.Credits),(bZ v.Series),(cv v.Lets),(ck v.Grants),(bT v.Reduces)]))],1⟩
noncomputable def gv (l : (List aF)) (reference : Int) (v : am) (r : ((Int) ⊕ ((List Int)))) : Option (((List Int) × Int)) := match r with | (.inl t7) => (some (([] : List Int),t7)) | (.inr out_2) => (lz out_2)
noncomputable def fI (l : (List aF)) (reference : Int) (v : am) : Option (((List Int) × Int)) := (fixL (fJ l reference v) (([] : List Int),0)).bind (gv l reference v)
theorem Nn : List.drop 3 sQ = .block 0 (.loop (aE (aE (bS sQ 3)))) :: List.drop 4 sQ := by kernel_rfl
theorem PE (l : (List aF)) (reference : Int) (v : am) (K : KT) : ∀ r : ((Int) ⊕ ((List Int))),W (gv l reference v r) (rE BA K) → vE l reference v r (wK (cO 0 (bB (au Try.prog 42 (List.drop 4 sQ) K) K)))
  | (.inl t7),h => ⟨(BA (([] : List Int),t7)),(.trans (.nilrow 6 0 3 1 (bP aR (0 : Int) []) (Nat.le_of_ble_eq_true rfl) rfl) (.cn [6,7])),h⟩
  | (.inr out_2),h => ⟨(Ij out_2),(.refl _),(Mo h)⟩
theorem Of {l : (List aF)} {reference : Int} {v : am} {K : KT} (h : W (fI l reference v) (rE BA K)) : au Try.prog 42 (List.drop 3 sQ) K (H3 l reference v) :=
  au.at_ Nn (au.cons_loop (bg.weak (bg.ent (.trans (.nilrow 8 1 3 1 (bP aR (0 : Int) []) (Nat.le_of_ble_eq_true rfl) rfl) (.cn [0,2,4,8,9])) (bg.loopF (x := aE (aE (bS sQ 3))) (f := fJ l reference v) (emb := AN l reference v) (E := vE l reference v) (NF l reference v) (Fc l reference v) (dq h (PE l reference v K))))))
def Im (l : (List aF)) (v : am) (reference : Int) : St := ⟨[sv 0 (cq l),sv 1 (.agg [(i64 v.From),(i64 v.Rounding.Mode),(i64 v.Rounding.Unit),(bU v.Credits),(bZ v.Series),(cv v.Lets),(ck v.Grants),(bT v.Reduces)]),sv 2 (i64 reference)],[],0⟩
noncomputable def lx (l : (List aF)) (v : am) (reference : Int) : Option (((List Int) × Int)) := (fI l reference v)
theorem MZ {l : (List aF)} {v : am} {reference : Int} {K : KT} (h : W (lx l v reference) (rE BA K)) : au Try.prog 42 (List.drop 0 sQ) K (Im l v reference) :=
  au.qD aX [] [0,2,4,8,9] 0 3 3 (.nx (fun K => wK K .normal (H3 l reference v)) (l0 (Of h)))
noncomputable def cZ (l : (List aF)) (v : am) (reference : Int) : Option (((List Int) × Int)) := lx l v reference
theorem PJ (l : (List aF)) (v : am) (reference : Int) (y_ : ((List Int) × Int)) (h : cZ l v reference = some y_) : au Try.prog 42 (be (aH Try.f7)) (cD Try.prog [.tmp 6, .tmp 7] (cw (gP y_))) (Im l v reference) :=
  @MZ l v reference _ (bF.2 ⟨y_,h,O7 y_⟩)
noncomputable def iH : ct
  | [(.c (.sl k1 n2 e3)),(.agg [(.c (.lit (.int .i64 a4))),(.c (.lit (.int .i64 a5))),(.c (.lit (.int .i64 a6))),(.c (.sl k7 n8 e9)),(.c (.sl k10 n11 e12)),(.c (.sl k13 n14 bC)),(.c (.sl k16 n17 bw)),(.c (.sl k19 n20 e21))]),(.c (.lit (.int .i64 a22)))] => some ([aT dn cz 2 k1 n2 e3,aT dh aV 2 k7 n8 e9,aT eo bc 3 k10 n11 e12,aT gI bp 7 k13 n14 bC,aT dP ba 13 k16 n17 bw,aT ef aU 7 k19 n20 e21,(cZ (lst cz n2 e3) (am.mk a4 (aA.mk a5 a6) (lst aV n8 e9) (lst bc n11 e12) (lst bp n14 bC) (lst ba n17 bw) (lst aU n20 e21)) a22).isSome = true],(gP ((cZ (lst cz n2 e3) (am.mk a4 (aA.mk a5 a6) (lst aV n8 e9) (lst bc n11 e12) (lst bp n14 bC) (lst ba n17 bw) (lst aU n20 e21)) a22).getD (([] : List Int),(0 : Int)))))
  | _ => none
theorem r5 : br Try.prog 7 iH := by
  refine eL (fn := Try.f7) (c := aH Try.f7) (by kernel_rfl) (by kernel_rfl) (by kernel_rfl) (rs := [.tmp 6, .tmp 7]) (by kernel_rfl) (nt := 42) (by kernel_rfl) fun vs p out h hp => ?_
  unfold iH at h
  split at h
  · next k1 n2 e3 a4 a5 a6 k7 n8 e9 k10 n11 e12 k13 n14 bC k16 n17 bw k19 n20 e21 a22 =>
    cases h
    obtain ⟨g0,hp⟩ := bE hp
    obtain ⟨g1,hp⟩ := bE hp
    obtain ⟨g2,hp⟩ := bE hp
    obtain ⟨g3,hp⟩ := bE hp
    obtain ⟨g4,hp⟩ := bE hp
    obtain ⟨g5,hp⟩ := bE hp
    obtain ⟨g,hp⟩ := bE hp
    obtain ⟨x,hx⟩ := Option.isSome_iff_exists.1 g
    rw [hx]
    exact ⟨[(cq (lst cz n2 e3)),(.agg [(i64 (am.mk a4 (aA.mk a5 a6) (lst aV n8 e9) (lst bc n11 e12) (lst bp n14 bC) (lst ba n17 bw) (lst aU n20 e21)).From),(i64 ((am.mk a4 (aA.mk a5 a6) (lst aV n8 e9) (lst bc n11 e12) (lst bp n14 bC) (lst ba n17 bw) (lst aU n20 e21)).Rounding).Mode),(i64 ((am.mk a4 (aA.mk a5 a6) (lst aV n8 e9) (lst bc n11 e12) (lst bp n14 bC) (lst ba n17 bw) (lst aU n20 e21)).Rounding).Unit),(bU ((am.mk a4 (aA.mk a5 a6) (lst aV n8 e9) (lst bc n11 e12) (lst bp n14 bC) (lst ba n17 bw) (lst aU n20 e21)).Credits)),(bZ ((am.mk a4 (aA.mk a5 a6) (lst aV n8 e9) (lst bc n11 e12) (lst bp n14 bC) (lst ba n17 bw) (lst aU n20 e21)).Series)),(cv ((am.mk a4 (aA.mk a5 a6) (lst aV n8 e9) (lst bc n11 e12) (lst bp n14 bC) (lst ba n17 bw) (lst aU n20 e21)).Lets)),(ck ((am.mk a4 (aA.mk a5 a6) (lst aV n8 e9) (lst bc n11 e12) (lst bp n14 bC) (lst ba n17 bw) (lst aU n20 e21)).Grants)),(bT ((am.mk a4 (aA.mk a5 a6) (lst aV n8 e9) (lst bc n11 e12) (lst bp n14 bC) (lst ba n17 bw) (lst aU n20 e21)).Reduces))]),(i64 a22)],(VLes.cons (VLe.slk g0.1 (aj.of_ok g0)) (VLes.cons (VLe.agg (VLes.cons (VLe.rfl' _) (VLes.cons (VLe.rfl' _) (VLes.cons (VLe.rfl' _) (VLes.cons (VLe.slk g1.1 (aj.of_ok g1)) (VLes.cons (VLe.slk g2.1 (aj.of_ok g2)) (VLes.cons (VLe.slk g3.1 (aj.of_ok g3)) (VLes.cons (VLe.slk g4.1 (aj.of_ok g4)) (VLes.cons (VLe.slk g5.1 (aj.of_ok g5)) VLes.nil))))))))) (VLes.cons (VLe.rfl' _) VLes.nil))),rfl,PJ (lst cz n2 e3) (am.mk a4 (aA.mk a5 a6) (lst aV n8 e9) (lst bc n11 e12) (lst bp n14 bC) (lst ba n17 bw) (lst aU n20 e21)) a22 x hx⟩
  · cases h
noncomputable abbrev e7 : FE Try.prog := ⟨7, .pure iH,r5⟩
noncomputable def Ic : List Code := be (aH Try.f45)
def Ak (x_1 : ByteArray) : cm := .data (aW x_1)
def qg (x_1 : ByteArray) : St := ⟨[sv 2 (aW x_1)],[],0⟩
def M3 : St := ⟨[],[],0⟩
noncomputable def bL : Option (ByteArray) := (some (ao []))
theorem cU {K : KT} (h : W (bL) (rE qg K)) : au Try.prog 26 (List.drop 3 Ic) K (M3) :=
  au.qE aX [] [2] 3 2 (.nx (fun K => wK K .ret (qg (ao []))) (l0 h))
def L8 (kind : Int) : St := ⟨[sv 0 (i64 kind)],[],0⟩
noncomputable def uX (kind : Int) : Option (ByteArray) := (bif (kind == 1) then (some (ao [83,80,84,72,67,65])) else (bif (kind == 2) then (bif (kind == 2) then (some (ao [83,80,72,67,65])) else (bif (kind == 4) then (some (ao [83,80,84])) else (bif (kind == 5) then (bif (kind == 5) then (some (ao [83,80])) else (bif (kind == 6) then (some (ao [83,80,67,65])) else (bif (kind == 10) then (some (ao [83,80,82])) else (bif (kind == 11) then (bif (kind == 11) then (some (ao [80])) else (bif (kind == 14) then (some (ao [80,82])) else bL)) else (bif (kind == 12) then (bif (kind == 12) then (some (ao [80])) else (bif (kind == 14) then (some (ao [80,82])) else bL)) else (bif (kind == 13) then (some (ao [80])) else (bif (kind == 14) then (some (ao [80,82])) else bL))))))) else (bif (kind == 7) then (bif (kind == 7) then (some (ao [83,80])) else (bif (kind == 6) then (some (ao [83,80,67,65])) else (bif (kind == 10) then (some (ao [83,80,82])) else (bif (kind == 11) then (bif (kind == 11) then (some (ao [80])) else (bif (kind == 14) then (some (ao [80,82])) else bL)) else (bif (kind == 12) then (bif (kind == 12) then (some (ao [80])) else (bif (kind == 14) then (some (ao [80,82])) else bL)) else (bif (kind == 13) then (some (ao [80])) else (bif (kind == 14) then (some (ao [80,82])) else bL))))))) else (bif (kind == 8) then (bif (kind == 8) then (some (ao [83,80])) else (bif (kind == 6) then (some (ao [83,80,67,65])) else (bif (kind == 10) then (some (ao [83,80,82])) else (bif (kind == 11) then (bif (kind == 11) then (some (ao [80])) else (bif (kind == 14) then (some (ao [80,82])) else bL)) else (bif (kind == 12) then (bif (kind == 12) then (some (ao [80])) else (bif (kind == 14) then (some (ao [80,82])) else bL)) else (bif (kind == 13) then (some (ao [80])) else (bif (kind == 14) then (some (ao [80,82])) else bL))))))) else (bif (kind == 9) then (some (ao [83,80])) else (bif (kind == 6) then (some (ao [83,80,67,65])) else (bif (kind == 10) then (some (ao [83,80,82])) else (bif (kind == 11) then (bif (kind == 11) then (some (ao [80])) else (bif (kind == 14) then (some (ao [80,82])) else bL)) else (bif (kind == 12) then (bif (kind == 12) then (some (ao [80])) else (bif (kind == 14) then (some (ao [80,82])) else bL)) else (bif (kind == 13) then (some (ao [80])) else (bif (kind == 14) then (some (ao [80,82])) else bL)))))))))))) else (bif (kind == 3) then (some (ao [83,80,72,67,65])) else (bif (kind == 4) then (some (ao [83,80,84])) else (bif (kind == 5) then (bif (kind == 5) then (some (ao [83,80])) else (bif (kind == 6) then (some (ao [83,80,67,65])) else (bif (kind == 10) then (some (ao [83,80,82])) else (bif (kind == 11) then (bif (kind == 11) then (some (ao [80])) else (bif (kind == 14) then (some (ao [80,82])) else bL)) else (bif (kind == 12) then (bif (kind == 12) then (some (ao [80])) else (bif (kind == 14) then (some (ao [80,82])) else bL)) else (bif (kind == 13) then (some (ao [80])) else (bif (kind == 14) then (some (ao [80,82])) else bL))))))) else (bif (kind == 7) then (bif (kind == 7) then (some (ao [83,80])) else (bif (kind == 6) then (some (ao [83,80,67,65])) else (bif (kind == 10) then (some (ao [83,80,82])) else (bif (kind == 11) then (bif (kind == 11) then (some (ao [80])) else (bif (kind == 14) then (some (ao [80,82])) else bL)) else (bif (kind == 12) then (bif (kind == 12) then (some (ao [80])) else (bif (kind == 14) then (some (ao [80,82])) else bL)) else (bif (kind == 13) then (some (ao [80])) else (bif (kind == 14) then (some (ao [80,82])) else bL))))))) else (bif (kind == 8) then (bif (kind == 8) then (some (ao [83,80])) else (bif (kind == 6) then (some (ao [83,80,67,65])) else (bif (kind == 10) then (some (ao [83,80,82])) else (bif (kind == 11) then (bif (kind == 11) then (some (ao [80])) else (bif (kind == 14) then (some (ao [80,82])) else bL)) else (bif (kind == 12) then (bif (kind == 12) then (some (ao [80])) else (bif (kind == 14) then (some (ao [80,82])) else bL)) else (bif (kind == 13) then (some (ao [80])) else (bif (kind == 14) then (some (ao [80,82])) else bL))))))) else (bif (kind == 9) then (some (ao [83,80])) else (bif (kind == 6) then (some (ao [83,80,67,65])) else (bif (kind == 10) then (some (ao [83,80,82])) else (bif (kind == 11) then (bif (kind == 11) then (some (ao [80])) else (bif (kind == 14) then (some (ao [80,82])) else bL)) else (bif (kind == 12) then (bif (kind == 12) then (some (ao [80])) else (bif (kind == 14) then (some (ao [80,82])) else bL)) else (bif (kind == 13) then (some (ao [80])) else (bif (kind == 14) then (some (ao [80,82])) else bL))))))))))))))
theorem Kw {kind : Int} {K : KT} (h : W (uX kind) (rE qg K)) : au Try.prog 26 (List.drop 0 Ic) K (L8 kind) :=
  au.qD aX [] [2] 0 3 3 (.nx (fun K => let a1_ := qg (ao [80,82]); let a2_ := qg (ao [80]); let a3_ := qg (ao [83,80,67,65]); let a4_ := qg (ao [83,80,82]); let a5_ := qg (ao [83,80]); let a6_ := qg (ao [83,80,72,67,65]); let a7_ := qg (ao [83,80,84]); (bif (kind == 1) then wK K .ret (qg (ao [83,80,84,72,67,65])) else (bif (kind == 2) then (bif (kind == 2) then wK K .ret a6_ else (bif (kind == 4) then wK K .ret a7_ else (bif (kind == 5) then (bif (kind == 5) then wK K .ret a5_ else (bif (kind == 6) then wK K .ret a3_ else (bif (kind == 10) then wK K .ret a4_ else (bif (kind == 11) then (bif (kind == 11) then wK K .ret a2_ else (bif (kind == 14) then wK K .ret a1_ else wK K .normal (⟨[sv 2 (aW (ao []))],[],0⟩))) else (bif (kind == 12) then (bif (kind == 12) then wK K .ret a2_ else (bif (kind == 14) then wK K .ret a1_ else wK K .normal (⟨[sv 2 (aW (ao []))],[],0⟩))) else (bif (kind == 13) then wK K .ret a2_ else (bif (kind == 14) then wK K .ret a1_ else wK K .normal (⟨[sv 2 (aW (ao []))],[],0⟩)))))))) else (bif (kind == 7) then (bif (kind == 7) then wK K .ret a5_ else (bif (kind == 6) then wK K .ret a3_ else (bif (kind == 10) then wK K .ret a4_ else (bif (kind == 11) then (bif (kind == 11) then wK K .ret a2_ else (bif (kind == 14) then wK K .ret a1_ else wK K .normal (⟨[sv 2 (aW (ao []))],[],0⟩))) else (bif (kind == 12) then (bif (kind == 12) then wK K .ret a2_ else (bif (kind == 14) then wK K .ret a1_ else wK K .normal (⟨[sv 2 (aW (ao []))],[],0⟩))) else (bif (kind == 13) then wK K .ret a2_ else (bif (kind == 14) then wK K .ret a1_ else wK K .normal (⟨[sv 2 (aW (ao []))],[],0⟩)))))))) else (bif (kind == 8) then (bif (kind == 8) then wK K .ret a5_ else (bif (kind == 6) then wK K .ret a3_ else (bif (kind == 10) then wK K .ret a4_ else (bif (kind == 11) then (bif (kind == 11) then wK K .ret a2_ else (bif (kind == 14) then wK K .ret a1_ else wK K .normal (⟨[sv 2 (aW (ao []))],[],0⟩))) else (bif (kind == 12) then (bif (kind == 12) then wK K .ret a2_ else (bif (kind == 14) then wK K .ret a1_ else wK K .normal (⟨[sv 2 (aW (ao []))],[],0⟩))) else (bif (kind == 13) then wK K .ret a2_ else (bif (kind == 14) then wK K .ret a1_ else wK K .normal (⟨[sv 2 (aW (ao []))],[],0⟩)))))))) else (bif (kind == 9) then wK K .ret a5_ else (bif (kind == 6) then wK K .ret a3_ else (bif (kind == 10) then wK K .ret a4_ else (bif (kind == 11) then (bif (kind == 11) then wK K .ret a2_ else (bif (kind == 14) then wK K .ret a1_ else wK K .normal (⟨[sv 2 (aW (ao []))],[],0⟩))) else (bif (kind == 12) then (bif (kind == 12) then wK K .ret a2_ else (bif (kind == 14) then wK K .ret a1_ else wK K .normal (⟨[sv 2 (aW (ao []))],[],0⟩))) else (bif (kind == 13) then wK K .ret a2_ else (bif (kind == 14) then wK K .ret a1_ else wK K .normal (⟨[sv 2 (aW (ao []))],[],0⟩))))))))))))) else (bif (kind == 3) then wK K .ret a6_ else (bif (kind == 4) then wK K .ret a7_ else (bif (kind == 5) then (bif (kind == 5) then wK K .ret a5_ else (bif (kind == 6) then wK K .ret a3_ else (bif (kind == 10) then wK K .ret a4_ else (bif (kind == 11) then (bif (kind == 11) then wK K .ret a2_ else (bif (kind == 14) then wK K .ret a1_ else wK K .normal (⟨[sv 2 (aW (ao []))],[],0⟩))) else (bif (kind == 12) then (bif (kind == 12) then wK K .ret a2_ else (bif (kind == 14) then wK K .ret a1_ else wK K .normal (⟨[sv 2 (aW (ao []))],[],0⟩))) else (bif (kind == 13) then wK K .ret a2_ else (bif (kind == 14) then wK K .ret a1_ else wK K .normal (⟨[sv 2 (aW (ao []))],[],0⟩)))))))) else (bif (kind == 7) then (bif (kind == 7) then wK K .ret a5_ else (bif (kind == 6) then wK K .ret a3_ else (bif (kind == 10) then wK K .ret a4_ else (bif (kind == 11) then (bif (kind == 11) then wK K .ret a2_ else (bif (kind == 14) then wK K .ret a1_ else wK K .normal (⟨[sv 2 (aW (ao []))],[],0⟩))) else (bif (kind == 12) then (bif (kind == 12) then wK K .ret a2_ else (bif (kind == 14) then wK K .ret a1_ else wK K .normal (⟨[sv 2 (aW (ao []))],[],0⟩))) else (bif (kind == 13) then wK K .ret a2_ else (bif (kind == 14) then wK K .ret a1_ else wK K .normal (⟨[sv 2 (aW (ao []))],[],0⟩)))))))) else (bif (kind == 8) then (bif (kind == 8) then wK K .ret a5_ else (bif (kind == 6) then wK K .ret a3_ else (bif (kind == 10) then wK K .ret a4_ else (bif (kind == 11) then (bif (kind == 11) then wK K .ret a2_ else (bif (kind == 14) then wK K .ret a1_ else wK K .normal (⟨[sv 2 (aW (ao []))],[],0⟩))) else (bif (kind == 12) then (bif (kind == 12) then wK K .ret a2_ else (bif (kind == 14) then wK K .ret a1_ else wK K .normal (⟨[sv 2 (aW (ao []))],[],0⟩))) else (bif (kind == 13) then wK K .ret a2_ else (bif (kind == 14) then wK K .ret a1_ else wK K .normal (⟨[sv 2 (aW (ao []))],[],0⟩)))))))) else (bif (kind == 9) then wK K .ret a5_ else (bif (kind == 6) then wK K .ret a3_ else (bif (kind == 10) then wK K .ret a4_ else (bif (kind == 11) then (bif (kind == 11) then wK K .ret a2_ else (bif (kind == 14) then wK K .ret a1_ else wK K .normal (⟨[sv 2 (aW (ao []))],[],0⟩))) else (bif (kind == 12) then (bif (kind == 12) then wK K .ret a2_ else (bif (kind == 14) then wK K .ret a1_ else wK K .normal (⟨[sv 2 (aW (ao []))],[],0⟩))) else (bif (kind == 13) then wK K .ret a2_ else (bif (kind == 14) then wK K .ret a1_ else wK K .normal (⟨[sv 2 (aW (ao []))],[],0⟩)))))))))))))))) (an h (fun _ h => (l0 h)) (fun _ h => (an h (fun _ h => (an h (fun _ h => (l0 h)) (fun _ h => (an h (fun _ h => (l0 h)) (fun _ h => (an h (fun _ h => (an h (fun _ h => (l0 h)) (fun _ h => (an h (fun _ h => (l0 h)) (fun _ h => (an h (fun _ h => (l0 h)) (fun _ h => (an h (fun _ h => (an h (fun _ h => (l0 h)) (fun _ h => (an h (fun _ h => (l0 h)) (fun _ h => (lf (cU h) (.cn []))))))) (fun _ h => (an h (fun _ h => (an h (fun _ h => (l0 h)) (fun _ h => (an h (fun _ h => (l0 h)) (fun _ h => (lf (cU h) (.cn []))))))) (fun _ h => (an h (fun _ h => (l0 h)) (fun _ h => (an h (fun _ h => (l0 h)) (fun _ h => (lf (cU h) (.cn []))))))))))))))))) (fun _ h => (an h (fun _ h => (an h (fun _ h => (l0 h)) (fun _ h => (an h (fun _ h => (l0 h)) (fun _ h => (an h (fun _ h => (l0 h)) (fun _ h => (an h (fun _ h => (an h (fun _ h => (l0 h)) (fun _ h => (an h (fun _ h => (l0 h)) (fun _ h => (lf (cU h) (.cn []))))))) (fun _ h => (an h (fun _ h => (an h (fun _ h => (l0 h)) (fun _ h => (an h (fun _ h => (l0 h)) (fun _ h => (lf (cU h) (.cn []))))))) (fun _ h => (an h (fun _ h => (l0 h)) (fun _ h => (an h (fun _ h => (l0 h)) (fun _ h => (lf (cU h) (.cn []))))))))))))))))) (fun _ h => (an h (fun _ h => (an h (fun _ h => (l0 h)) (fun _ h => (an h (fun _ h => (l0 h)) (fun _ h => (an h (fun _ h => (l0 h)) (fun _ h => (an h (fun _ h => (an h (fun _ h => (l0 h)) (fun _ h => (an h (fun _ h => (l0 h)) (fun _ h => (lf (cU h) (.cn []))))))) (fun _ h => (an h (fun _ h => (an h (fun _ h => (l0 h)) (fun _ h => (an h (fun _ h => (l0 h)) (fun _ h => (lf (cU h) (.cn []))))))) (fun _ h => (an h (fun _ h => (l0 h)) (fun _ h => (an h (fun _ h => (l0 h)) (fun _ h => (lf (cU h) (.cn []))))))))))))))))) (fun _ h => (an h (fun _ h => (l0 h)) (fun _ h => (an h (fun _ h => (l0 h)) (fun _ h => (an h (fun _ h => (l0 h)) (fun _ h => (an h (fun _ h => (an h (fun _ h => (l0 h)) (fun _ h => (an h (fun _ h => (l0 h)) (fun _ h => (lf (cU h) (.cn []))))))) (fun _ h => (an h (fun _ h => (an h (fun _ h => (l0 h)) (fun _ h => (an h (fun _ h => (l0 h)) (fun _ h => (lf (cU h) (.cn []))))))) (fun _ h => (an h (fun _ h => (l0 h)) (fun _ h => (an h (fun _ h => (l0 h)) (fun _ h => (lf (cU h) (.cn []))))))))))))))))))))))))))) (fun _ h => (an h (fun _ h => (l0 h)) (fun _ h => (an h (fun _ h => (l0 h)) (fun _ h => (an h (fun _ h => (an h (fun _ h => (l0 h)) (fun _ h => (an h (fun _ h => (l0 h)) (fun _ h => (an h (fun _ h => (l0 h)) (fun _ h => (an h (fun _ h => (an h (fun _ h => (l0 h)) (fun _ h => (an h (fun _ h => (l0 h)) (fun _ h => (lf (cU h) (.cn []))))))) (fun _ h => (an h (fun _ h => (an h (fun _ h => (l0 h)) (fun _ h => (an h (fun _ h => (l0 h)) (fun _ h => (lf (cU h) (.cn []))))))) (fun _ h => (an h (fun _ h => (l0 h)) (fun _ h => (an h (fun _ h => (l0 h)) (fun _ h => (lf (cU h) (.cn []))))))))))))))))) (fun _ h => (an h (fun _ h => (an h (fun _ h => (l0 h)) (fun _ h => (an h (fun _ h => (l0 h)) (fun _ h => (an h (fun _ h => (l0 h)) (fun _ h => (an h (fun _ h => (an h (fun _ h => (l0 h)) (fun _ h => (an h (fun _ h => (l0 h)) (fun _ h => (lf (cU h) (.cn []))))))) (fun _ h => (an h (fun _ h => (an h (fun _ h => (l0 h)) (fun _ h => (an h (fun _ h => (l0 h)) (fun _ h => (lf (cU h) (.cn []))))))) (fun _ h => (an h (fun _ h => (l0 h)) (fun _ h => (an h (fun _ h => (l0 h)) (fun _ h => (lf (cU h) (.cn []))))))))))))))))) (fun _ h => (an h (fun _ h => (an h (fun _ h => (l0 h)) (fun _ h => (an h (fun _ h => (l0 h)) (fun _ h => (an h (fun _ h => (l0 h)) (fun _ h => (an h (fun _ h => (an h (fun _ h => (l0 h)) (fun _ h => (an h (fun _ h => (l0 h)) (fun _ h => (lf (cU h) (.cn []))))))) (fun _ h => (an h (fun _ h => (an h (fun _ h => (l0 h)) (fun _ h => (an h (fun _ h => (l0 h)) (fun _ h => (lf (cU h) (.cn []))))))) (fun _ h => (an h (fun _ h => (l0 h)) (fun _ h => (an h (fun _ h => (l0 h)) (fun _ h => (lf (cU h) (.cn []))))))))))))))))) (fun _ h => (an h (fun _ h => (l0 h)) (fun _ h => (an h (fun _ h => (l0 h)) (fun _ h => (an h (fun _ h => (l0 h)) (fun _ h => (an h (fun _ h => (an h (fun _ h => (l0 h)) (fun _ h => (an h (fun _ h => (l0 h)) (fun _ h => (lf (cU h) (.cn []))))))) (fun _ h => (an h (fun _ h => (an h (fun _ h => (l0 h)) (fun _ h => (an h (fun _ h => (l0 h)) (fun _ h => (lf (cU h) (.cn []))))))) (fun _ h => (an h (fun _ h => (l0 h)) (fun _ h => (an h (fun _ h => (l0 h)) (fun _ h => (lf (cU h) (.cn [])))))))))))))))))))))))))))))))
noncomputable def qP (kind : Int) : Option (ByteArray) := uX kind
noncomputable def wL : ct := gj (aI .i64) qP (ao []) Ak
theorem BT : br Try.prog 45 wL := dW Try.f45 (aH Try.f45) [.tmp 2] 26 fun u0 y h => @Kw u0 _ (bF.2 ⟨y,h,(dG (aW y) (VLe.rfl' _))⟩)
noncomputable abbrev Dz : FE Try.prog := ⟨45, .pure wL,BT⟩
noncomputable def Pm : List Code := be (aH Try.f48)
def yK (x_2 : Bool) : cm := .data (bl x_2)
def Nb (x_2 : Bool) : St := ⟨[sv 6 (bl x_2)],[],0⟩
def LO (x_1 low high : Int) : St := ⟨[sv 0 (i64 x_1),sv 1 (i64 low),sv 2 (i64 high)],[],0⟩
noncomputable def sj (x_1 low high : Int) : Option (Bool) := (some (bif (decide (low ≤ x_1)) then (decide (x_1 ≤ high)) else false))
theorem Ja {x_1 low high : Int} {K : KT} (h : W (sj x_1 low high) (rE Nb K)) : au Try.prog 15 (List.drop 0 Pm) K (LO x_1 low high) :=
  au.qE aX [] [6] 0 3 (.nx (fun K => wK K .ret (Nb (bif (decide (low ≤ x_1)) then (decide (x_1 ≤ high)) else false))) (l0 h))
noncomputable def bK (x_1 low high : Int) : Option (Bool) := sj x_1 low high
noncomputable def tC : ct := Cp (aI .i64) (aI .i64) (aI .i64) bK false yK
theorem zy : br Try.prog 48 tC := Cf Try.f48 (aH Try.f48) [.tmp 6] 15 fun u0 u1 u2 y h => @Ja u0 u1 u2 _ (bF.2 ⟨y,h,(dG (bl y) (VLe.rfl' _))⟩)
noncomputable abbrev P4 : FE Try.prog := ⟨48, .pure tC,zy⟩
def eT (s : ByteArray) (c : Int) : Option Int := some (firstIdx s c.toNat.toUInt8)
def fT : ct
  | [.c (.lit (.string s)), .c (.lit (.int .u8 c))] => some ([(eT s c).isSome = true], .data (i64 ((eT s c).getD (0 : Int))))
  | _ => none
theorem ov : br Try.prog 72 fT := by
  intro ok w xs vs p out hx hok hcon hp
  unfold fT at hcon
  split at hcon
  · next s c =>
    cases hcon
    obtain ⟨x,y,rfl⟩ : ∃ x y,xs = [x,y] := by
      have := hx.1
      match xs,this with
      | [x,y],_ => exact ⟨x,y,rfl⟩
    have e1 := (hx.2 0 x _ rfl rfl).lit_inv
    have e2 := (hx.2 1 y _ rfl rfl).lit_inv
    subst e1 e2
    refine .inr ⟨.int .i64 (firstIdx s c.toNat.toUInt8),w, ?_, .refl _ _, .lit _⟩
    rw [run_callFunc_extern (fn := Try.f72) (e := Extern.BytealgIndexByte.indexByte) (by kernel_rfl) (by kernel_rfl) (by kernel_rfl) (by kernel_rfl) (by kernel_rfl)]
    have := run_indexByte_string (P := Try.prog) s c w
    rw [show [Value.string s,Value.int .u8 c].toArray = #[Value.string s,Value.int .u8 c] from rfl,this]
    rfl
  · cases hcon
noncomputable abbrev QN : FE Try.prog := ⟨72, .pure fT,ov⟩
noncomputable def Pa : List Code := be (aH Try.f68)
def ku (x_1 : Int) : cm := .data (i64 x_1)
def Mg (x_1 : Int) : St := ⟨[sv 4 (i64 x_1)],[],0⟩
def OE (s_1 : ByteArray) (c : Int) : St := ⟨[sv 0 (aW s_1),sv 1 (.c (.lit (.int .u8 c)))],[],0⟩
noncomputable def fY (s_1 : ByteArray) (c : Int) : Option (Int) := (eT s_1 c).bind fun r_1 => ((some r_1))
theorem Jy {s_1 : ByteArray} {c : Int} {K : KT} (h : W (fY s_1 c) (rE Mg K)) : au Try.prog 8 (List.drop 0 Pa) K (OE s_1 c) :=
  au.qE aX [QN] [4] 0 3 (.nx (fun K => let a1_ := eT s_1 c; (a1_.isSome = true) ∧ (wK K .ret (Mg (a1_.getD 0)))) (az 0 h fun _ h => (l0 h)))
noncomputable def eD (s_1 : ByteArray) (c : Int) : Option (Int) := fY s_1 c
noncomputable def gg : ct := jr aS (aI .u8) eD (0 : Int) ku
theorem kN : br Try.prog 68 gg := fQ Try.f68 (aH Try.f68) [.tmp 4] 8 fun u0 u1 y h => @Jy u0 u1 _ (bF.2 ⟨y,h,(dG (i64 y) (VLe.rfl' _))⟩)
noncomputable abbrev QZ : FE Try.prog := ⟨68, .pure gg,kN⟩
noncomputable def O5 : List Code := be (aH Try.f64)
def lY (x_1 : Int) : cm := .data (i64 x_1)
def Qt (x_1 : Int) : St := ⟨[sv 4 (i64 x_1)],[],0⟩
def Ol (s_1 substr : ByteArray) : St := ⟨[sv 0 (aW s_1),sv 1 (aW substr)],[],0⟩
noncomputable def hO (s_1 substr : ByteArray) : Option (Int) := (bif (bif ((substr.size : Int) == 0) then true else (substr.toList == s_1.toList)) then (some 0) else (bif ((substr.size : Int) == 1) then gd (0 ≤ (0 : Int) ∧ (0 : Int) < (substr.size : Int)) ((eD s_1 ((substr.data.getD 0 0).toNat : Int)).bind fun r_1 => ((some r_1))) else (bif (decide ((s_1.size : Int) ≤ (substr.size : Int))) then (some (-1)) else none)))
theorem Ln {s_1 substr : ByteArray} {K : KT} (h : W (hO s_1 substr) (rE Qt K)) : au Try.prog 143 (List.drop 0 O5) K (Ol s_1 substr) :=
  au.qD aX [QZ] [0,1,4,5,85,86,87,88,89,90,91,92,103,104,105,106,122,123,124,125,126,129,130,131] 0 3 3 (.nx (fun K => let a1_ := (substr.size : Int); let a2_ := eD s_1 ((substr.data.getD 0 0).toNat : Int); (bif (bif (a1_ == 0) then true else (substr.toList == s_1.toList)) then wK K .ret (⟨[sv 0 (aW s_1),sv 1 (aW substr),sv 4 (i64 0),sv 5 (i64 a1_)],[],0⟩) else (bif (a1_ == 1) then (0 ≤ (0 : Int)) ∧ ((0 : Int) < a1_) ∧ (a2_.isSome = true) ∧ (wK K .ret (⟨[sv 0 (aW s_1),sv 1 (aW substr),sv 4 (i64 (a2_.getD 0)),sv 5 (i64 a1_)],[],0⟩)) else (bif (decide ((s_1.size : Int) ≤ a1_)) then wK K .ret (⟨[sv 0 (aW s_1),sv 1 (aW substr),sv 4 (i64 (-1)),sv 5 (i64 a1_)],[],0⟩) else False)))) (an h (fun _ h => (lf h (.cn [4]))) (fun _ h => (an h (fun _ h => (bD h fun _ h => (az 0 h fun _ h => (lf h (.cn [4]))))) (fun _ h => (an h (fun _ h => (lf h (.cn [4]))) (fun _ h => h)))))))
noncomputable def fO (s_1 substr : ByteArray) : Option (Int) := hO s_1 substr
noncomputable def iu : ct := jr aS aS fO (0 : Int) lY
theorem mr : br Try.prog 64 iu := fQ Try.f64 (aH Try.f64) [.tmp 4] 143 fun u0 u1 y h => @Ln u0 u1 _ (bF.2 ⟨y,h,(dG (i64 y) (VLe.rfl' _))⟩)
noncomputable abbrev QX : FE Try.prog := ⟨64, .pure iu,mr⟩
noncomputable def Pk : List Code := be (aH Try.f60)
def vY (x_1 : Int) : cm := .data (i64 x_1)
def LC (x_1 : Int) : St := ⟨[sv 4 (i64 x_1)],[],0⟩
def On (s_1 substr : ByteArray) : St := ⟨[sv 0 (aW s_1),sv 1 (aW substr)],[],0⟩
noncomputable def qc (s_1 substr : ByteArray) : Option (Int) := (fO s_1 substr).bind fun r_1 => ((some r_1))
theorem JX {s_1 substr : ByteArray} {K : KT} (h : W (qc s_1 substr) (rE LC K)) : au Try.prog 8 (List.drop 0 Pk) K (On s_1 substr) :=
  au.qE aX [QX] [4] 0 3 (.nx (fun K => let a1_ := fO s_1 substr; (a1_.isSome = true) ∧ (wK K .ret (LC (a1_.getD 0)))) (az 0 h fun _ h => (l0 h)))
noncomputable def kW (s_1 substr : ByteArray) : Option (Int) := qc s_1 substr
noncomputable def qN : ct := jr aS aS kW (0 : Int) vY
theorem xf : br Try.prog 60 qN := fQ Try.f60 (aH Try.f60) [.tmp 4] 8 fun u0 u1 y h => @JX u0 u1 _ (bF.2 ⟨y,h,(dG (i64 y) (VLe.rfl' _))⟩)
noncomputable abbrev Q5 : FE Try.prog := ⟨60, .pure qN,xf⟩
noncomputable def Pd : List Code := be (aH Try.f47)
def sY (x_1 : Bool) : cm := .data (bl x_1)
def Mx (x_1 : Bool) : St := ⟨[sv 4 (bl x_1)],[],0⟩
def Ot (s_1 substr : ByteArray) : St := ⟨[sv 0 (aW s_1),sv 1 (aW substr)],[],0⟩
noncomputable def mw (s_1 substr : ByteArray) : Option (Bool) := (kW s_1 substr).bind fun r_1 => ((some (decide (0 ≤ r_1))))
theorem KA {s_1 substr : ByteArray} {K : KT} (h : W (mw s_1 substr) (rE Mx K)) : au Try.prog 9 (List.drop 0 Pd) K (Ot s_1 substr) :=
  au.qE aX [Q5] [4] 0 3 (.nx (fun K => ((kW s_1 substr).isSome = true) ∧ (wK K .ret (Mx (decide (0 ≤ ((kW s_1 substr).getD 0)))))) (az 0 h fun _ h => (l0 h)))
noncomputable def kX (s_1 substr : ByteArray) : Option (Bool) := mw s_1 substr
noncomputable def nS : ct := jr aS aS kX false sY
theorem uj : br Try.prog 47 nS := fQ Try.f47 (aH Try.f47) [.tmp 4] 9 fun u0 u1 y h => @KA u0 u1 _ (bF.2 ⟨y,h,(dG (bl y) (VLe.rfl' _))⟩)
noncomputable abbrev QD : FE Try.prog := ⟨47, .pure nS,uj⟩
noncomputable def P0 : List Code := be (aH Try.f46)
def kZ (x_1 : Bool) : cm := .data (bl x_1)
def HT (x_1 : Bool) : St := ⟨[sv 3 (bl x_1)],[],0⟩
theorem MY (x_1 : Bool) : cD Try.prog [.tmp 3] (cw (kZ x_1)) .ret (HT x_1) :=
  cD.intro (v := (bl x_1)) (by kernel_rfl) ((VLe.rfl' _))
def G4 (letter t1 : ByteArray) : St := ⟨[sv 0 (aW letter),sv 1 (.dptr 1 [(ds t1)] 0)],[],0⟩
noncomputable def qw (letter t1 : ByteArray) : Option (Bool) := (kX t1 letter).bind fun r_1 => ((some r_1))
theorem Jo {letter t1 : ByteArray} {K : KT} (h : W (qw letter t1) (rE HT K)) : au Try.prog 7 (List.drop 0 P0) K (G4 letter t1) :=
  au.qE aX [QD] [3] 0 3 (.nx (fun K => let a1_ := kX t1 letter; (a1_.isSome = true) ∧ (wK K .ret (HT (a1_.getD false)))) (az false h fun _ h => (l0 h)))
noncomputable def bt (letter t1 : ByteArray) : Option (Bool) := qw letter t1
theorem M8 (letter t1 : ByteArray) (y_ : Bool) (h : bt letter t1 = some y_) : au Try.prog 7 (be (aH Try.f46)) (cD Try.prog [.tmp 3] (cw (kZ y_))) (G4 letter t1) :=
  @Jo letter t1 _ (bF.2 ⟨y_,h,MY y_⟩)
noncomputable def mR : ct
  | [(.c (.lit (.string a1))),(.dptr 1 [(.lit (.string a2))] 0)] => some ([(bt a1 a2).isSome = true],(kZ ((bt a1 a2).getD false)))
  | _ => none
theorem xI : br Try.prog 46 mR := by
  refine eL (fn := Try.f46) (c := aH Try.f46) (by kernel_rfl) (by kernel_rfl) (by kernel_rfl) (rs := [.tmp 3]) (by kernel_rfl) (nt := 7) (by kernel_rfl) fun vs p out h hp => ?_
  unfold mR at h
  split at h
  · next a1 a2 =>
    cases h
    obtain ⟨g,hp⟩ := bE hp
    obtain ⟨x,hx⟩ := Option.isSome_iff_exists.1 g
    rw [hx]
    exact ⟨[(aW a1),(.dptr 1 [(ds a2)] 0)],(VLes.cons (VLe.rfl' _) (VLes.cons (VLe.rfl' _) VLes.nil)),rfl,M8 a1 a2 x hx⟩
  · cases h
noncomputable abbrev QV : FE Try.prog := ⟨46, .pure mR,xI⟩
noncomputable def PY : List Code := be (aH Try.f49)
def yY (x_2 : Bool) : cm := .data (bl x_2)
def MR (x_2 : Bool) : St := ⟨[sv 8 (bl x_2)],[],0⟩
def LS (used : Bool) (x_1 low high : Int) : St := ⟨[sv 0 (bl used),sv 1 (i64 x_1),sv 2 (i64 low),sv 3 (i64 high)],[],0⟩
noncomputable def tZ (used : Bool) (x_1 low high : Int) : Option (Bool) := gd ((used && true) = true → (bK x_1 low high).isSome = true) ((some (bif (bif used then ((bK x_1 low high).getD false) else false) then true else (bif (!used) then (x_1 == 0) else false))))
theorem K9 {used : Bool} {x_1 low high : Int} {K : KT} (h : W (tZ used x_1 low high) (rE MR K)) : au Try.prog 24 (List.drop 0 PY) K (LS used x_1 low high) :=
  au.qE aX [P4] [8] 0 3 (.nx (fun K => ((used && true) = true → (bK x_1 low high).isSome = true) ∧ (wK K .ret (MR (bif (bif used then ((bK x_1 low high).getD false) else false) then true else (bif (!used) then (x_1 == 0) else false))))) (bX h fun _ h => (l0 h)))
noncomputable def cc (used : Bool) (x_1 low high : Int) : Option (Bool) := tZ used x_1 low high
noncomputable def vm : ct := EK aB (aI .i64) (aI .i64) (aI .i64) cc false yY
theorem As : br Try.prog 49 vm := Fh Try.f49 (aH Try.f49) [.tmp 8] 24 fun u0 u1 u2 u3 y h => @K9 u0 u1 u2 u3 _ (bF.2 ⟨y,h,(dG (bl y) (VLe.rfl' _))⟩)
noncomputable abbrev Dj : FE Try.prog := ⟨49, .pure vm,As⟩
noncomputable def PH : List Code := be (aH Try.f50)
def uu (x_1 : Bool) : cm := .data (bl x_1)
def Mp (x_1 : Bool) : St := ⟨[sv 2 (bl x_1)],[],0⟩
def O4 (s_1 : j2) : St := ⟨[sv 0 (.ag (Bu s_1))],[],0⟩
noncomputable def oK (s_1 : j2) : Option (Bool) := (some (bif (bif (decide (0 ≤ s_1.From)) then (decide (s_1.From < s_1.To)) else false) then (decide (s_1.To ≤ 73049)) else false))
theorem Kg {s_1 : j2} {K : KT} (h : W (oK s_1) (rE Mp K)) : au Try.prog 18 (List.drop 0 PH) K (O4 s_1) :=
  au.qE aX [] [2] 0 3 (.nx (fun K => wK K .ret (Mp (bif (bif (decide (0 ≤ s_1.From)) then (decide (s_1.From < s_1.To)) else false) then (decide (s_1.To ≤ 73049)) else false))) (l0 h))
noncomputable def it (s_1 : j2) : Option (Bool) := oK s_1
noncomputable def pK : ct := gj Nt it false uu
theorem v9 : br Try.prog 50 pK := dW Try.f50 (aH Try.f50) [.tmp 2] 18 fun u0 y h => @Kg u0 _ (bF.2 ⟨y,h,(dG (bl y) (VLe.rfl' _))⟩)
noncomputable abbrev Q2 : FE Try.prog := ⟨50, .pure pK,v9⟩
end Go.Ax
