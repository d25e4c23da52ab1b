import Derived.Test.YtkijjjdaijjpaaaGreatZF5
import Derived.Test.YtkijjjdaijjpaaaGreatRows
/- Types of the program, and functions of it: printed by a program, checked by the kernel. -/
set_option linter.all false
set_option maxRecDepth 100000
namespace Go.Ax
open Go.Proofs Go.Proofs.YtkijjjdaijjpaaaGreat
noncomputable def wF : List Code := aD (ar Tryz.f31)
noncomputable def W8 : List Code := aD (aj (aj (aQ wF 3)))
def NT (x_1 : (List aa)) : bS := .own true 38 14 (x_1).length (bf av aw x_1)
def N2 (x_1 : (List aa)) : St := ⟨[sv 4 (.row 0 14 0 x_1.length)],[(aC 0 38 x_1)],1⟩
def EG (l : (List aa)) (person : Int) (s : ((List aa) × Int)) : St := match s with | (out_1,i_1) => ⟨[sv 0 (aH l),sv 1 (i64 person),sv 5 (.row 0 14 0 out_1.length),sv 6 (i64 i_1)],[(aC 0 38 out_1)],1⟩
def ac5 (l : (List aa)) (person : Int) (s : (List aa)) : St := match s with | out_2 => ⟨[sv 5 (.row 0 14 0 out_2.length)],[(aC 0 38 out_2)],1⟩
def A7 (l : (List aa)) (person : Int) (r : (((List aa)))) (K : KT) : Prop := match r with | s => K (.exit 0) (ac5 l person s)
def ahU (l : (List aa)) (person : Int) (out_1 : (List aa)) (i_1 : Int) : St := ⟨[sv 0 (aH l),sv 1 (i64 person),sv 5 (.row 0 14 0 out_1.length),sv 6 (i64 i_1)],[(aC 0 38 out_1)],1⟩
noncomputable def nW (l : (List aa)) (person : Int) (out_1 : (List aa)) (i_1 : Int) : Option (((List aa) × Int) ⊕ (((List aa)))) := (bif (decide (i_1 < (l.length : Int))) then gd (0 ≤ i_1 ∧ i_1 < (l.length : Int)) ((bif ((l.getD (Int.toNat i_1) aw).Person == person) then gd (0 ≤ i_1 ∧ i_1 < (l.length : Int)) (gd (cL (out_1.length + 1) 112) ((some (Sum.inl ((out_1 ++ ([(l.getD (Int.toNat i_1) aw)] : List aa)),(ak (i_1 + 1))))))) else (some (Sum.inl (out_1,(ak (i_1 + 1))))))) else (some (Sum.inr out_1)))
theorem abZ {l : (List aa)} {person : Int} {out_1 : (List aa)} {i_1 : Int} {K : KT} (h : W (nW l person out_1 i_1) (nE (EG l person) (A7 l person) K)) : ah Tryz.prog 28 (List.drop 0 W8) K (ahU l person out_1 i_1) :=
  ah.qE mixed [] [0,1,5,6] 0 4 (.nx (fun K => let a1_ := out_1.length + 1; let a2_ := i_1 < (l.length : Int); let a3_ := l.getD (Int.toNat i_1) aw; (bif (decide a2_) then (0 ≤ i_1) ∧ a2_ ∧ ((bif (a3_.Person == person) then (0 ≤ i_1) ∧ a2_ ∧ (out_1.length = out_1.length) ∧ (a1_ * 112 ≤ 140737488355328) ∧ (a1_ ≤ 140737488355328) ∧ (wK K .normal (⟨[sv 0 (aH l),sv 1 (i64 person),sv 5 (.row 0 14 0 a1_),sv 6 (i64 (ak (i_1 + 1)))],[(0,some (.row 38 14 a1_ (fun i => bif Nat.blt i out_1.length then (be out_1) i else (fun i => (dw 14 (av a3_)) (0 + i)) (i - out_1.length))))],1⟩)) else wK K .normal (EG l person (out_1,(ak (i_1 + 1)))))) else wK K (.exit 0) (⟨[sv 0 (aH l),sv 1 (i64 person),sv 5 (.row 0 14 0 out_1.length),sv 6 (i64 i_1)],[(aC 0 38 out_1)],1⟩))) (al h (fun _ h => (aT h fun _ h => (al h (fun _ h => (aT h fun _ h => ⟨rfl,(aT h fun _ h => (lf h (.of (.q rfl (.q rfl (.cons rfl (.rown (ce rfl rfl)) (.q rfl .nil)))) (.row rfl (ai.app .b (ai.zero (ai.l1 (enc := av) (z := aw) 14 (l.getD (Int.toNat i_1) aw) rfl))) .nil rfl) rfl)))⟩)) (fun _ h => (l0 h))))) (fun _ h => (lf h (.cn [5])))))
noncomputable def uH (l : (List aa)) (person : Int) (s : ((List aa) × Int)) : Option (((List aa) × Int) ⊕ (((List aa)))) := match s with | (out_1,i_1) => nW l person out_1 i_1
theorem ab7 (l : (List aa)) (person : Int) (s : ((List aa) × Int)) : Pp Tryz.prog 28 (List.drop 0 W8) (EG l person s) (uH l person s) (cq (EG l person) (A7 l person)) := fun K h => match s,h with | (out_1,i_1),h => (abZ h)
theorem Q5 (l : (List aa)) (person : Int) : ∀ (r : (((List aa)))) (J : St → Prop) (K : KT),A7 l person r K → A7 l person r (aM J K)
  | s,_,_,h => h
def UF (out_3 : (List aa)) : St := ⟨[sv 5 (.row 0 14 0 out_3.length)],[(aC 0 38 out_3)],1⟩
noncomputable def GY (out_3 : (List aa)) : Option ((List aa)) := (some out_3)
theorem acO {out_3 : (List aa)} {K : KT} (h : W (GY out_3) (rE N2 K)) : ah Tryz.prog 28 (List.drop 4 wF) K (UF out_3) :=
  ah.qE mixed [] [4] 4 2 (.nx (fun K => wK K .ret (N2 out_3)) (l0 h))
def U0 (l : (List aa)) (person : Int) : St := ⟨[sv 0 (aH l),sv 1 (i64 person),sv 5 (.c .nil),sv 6 (i64 0)],[],0⟩
noncomputable def Dv (l : (List aa)) (person : Int) (r : (((List aa)))) : Option ((List aa)) := match r with | out_2 => (GY out_2)
noncomputable def GQ (l : (List aa)) (person : Int) : Option ((List aa)) := (aN (uH l person) (([] : List aa),0)).bind (Dv l person)
theorem adR : List.drop 3 wF = .block 0 (.loop (aj (aj (aQ wF 3)))) :: List.drop 4 wF := by kernel_rfl
theorem aiX (l : (List aa)) (person : Int) (K : KT) : ∀ r : (((List aa))),W (Dv l person r) (rE N2 K) → A7 l person r (wK (bg 0 (aM (ah Tryz.prog 28 (List.drop 4 wF) K) K)))
  | out_2,h => ⟨(UF out_2),(.refl _),(acO h)⟩
theorem ad0 {l : (List aa)} {person : Int} {K : KT} (h : W (GQ l person) (rE N2 K)) : ah Tryz.prog 28 (List.drop 3 wF) K (U0 l person) :=
  ah.at_ adR (ah.cons_loop (aE.weak (aE.ent (.trans (.nilrow 5 0 38 14 (bf av aw []) (Nat.le_of_ble_eq_true rfl) rfl) (.cn [0,1,5,6])) (aE.loopF (x := aj (aj (aQ wF 3))) (f := uH l person) (emb := EG l person) (E := A7 l person) (ab7 l person) (Q5 l person) (bT h (aiX l person K))))))
def aiE (l : (List aa)) (person : Int) : St := ⟨[sv 0 (aH l),sv 1 (i64 person)],[],0⟩
noncomputable def G6 (l : (List aa)) (person : Int) : Option ((List aa)) := (GQ l person)
theorem aab {l : (List aa)} {person : Int} {K : KT} (h : W (G6 l person) (rE N2 K)) : ah Tryz.prog 28 (List.drop 0 wF) K (aiE l person) :=
  ah.qD mixed [] [0,1,5,6] 0 3 3 (.nx (fun K => wK K .normal (U0 l person)) (l0 (ad0 h)))
noncomputable def jY (l : (List aa)) (person : Int) : Option ((List aa)) := G6 l person
noncomputable def Iw : bW := fK gy (aI .i64) jY ([] : List aa) NT
theorem OJ : Meets Tryz.prog 31 Iw := dp Tryz.f31 (ar Tryz.f31) [.tmp 4] 28 fun u0 u1 y h => @aab u0 u1 _ (bi.2 ⟨y,h,(cH (.row 0 14 0 y.length) (⟨_,_,_,rfl,rfl,rfl,fun _ _ => rfl,fun _ i hi d hd => gg _ d hd⟩))⟩)
noncomputable abbrev W7 : FE Tryz.prog := ⟨31, .pure Iw,OJ⟩
noncomputable def uJ : List Code := aD (ar Tryz.f58)
noncomputable def WW : List Code := aD (aj (aj (aQ uJ 4)))
def Ix (x_1 : (Int × Bool)) : bS := .data (.tup [(i64 x_1.1),(bl x_1.2)])
def N4 (x_1 : (Int × Bool)) : St := ⟨[sv 4 (i64 x_1.1),sv 5 (bl x_1.2)],[],0⟩
def IJ (kind : Int) (c : (List aa)) (s : (Int × Bool × Int)) : St := match s with | (day,ok,i_1) => ⟨[sv 1 (i64 kind),sv 6 (.row 0 14 0 c.length),sv 7 (i64 day),sv 8 (bl ok),sv 9 (i64 i_1)],[(aC 0 38 c)],1⟩
def aei (kind : Int) (c : (List aa)) (s : Int × Bool) : St := match s with | (day_1,ok_1) => ⟨[sv 7 (i64 day_1),sv 8 (bl ok_1)],[],0⟩
def Aw (kind : Int) (c : (List aa)) (r : ((Int × Bool))) (K : KT) : Prop := match r with | s => K (.exit 0) (aei kind c s)
def ain (kind : Int) (c : (List aa)) (day : Int) (ok : Bool) (i_1 : Int) : St := ⟨[sv 1 (i64 kind),sv 6 (.row 0 14 0 c.length),sv 7 (i64 day),sv 8 (bl ok),sv 9 (i64 i_1)],[(aC 0 38 c)],1⟩
noncomputable def kF (kind : Int) (c : (List aa)) (day : Int) (ok : Bool) (i_1 : Int) : Option ((Int × Bool × Int) ⊕ ((Int × Bool))) := (bif (decide (i_1 < (c.length : Int))) then gd (0 ≤ i_1 ∧ i_1 < (c.length : Int)) (gd (((!(!ok)) && (((c.getD (0 + (Int.toNat i_1)) aw).Kind == kind) && true)) = true → 0 ≤ i_1) (gd (((!(!ok)) && (((c.getD (0 + (Int.toNat i_1)) aw).Kind == kind) && true)) = true → i_1 < (c.length : Int)) ((bif (bif ((c.getD (0 + (Int.toNat i_1)) aw).Kind == kind) then (bif (!ok) then true else (decide (((c.getD (0 + (Int.toNat i_1)) aw).Span).From < day))) else false) then gd (0 ≤ i_1 ∧ i_1 < (c.length : Int)) ((some (Sum.inl (((c.getD (0 + (Int.toNat i_1)) aw).Span).From,true,(ak (i_1 + 1)))))) else (some (Sum.inl (day,ok,(ak (i_1 + 1))))))))) else (some (Sum.inr (day,ok))))
theorem aah {kind : Int} {c : (List aa)} {day : Int} {ok : Bool} {i_1 : Int} {K : KT} (h : W (kF kind c day ok i_1) (nE (IJ kind c) (Aw kind c) K)) : ah Tryz.prog 47 (List.drop 0 WW) K (ain kind c day ok i_1) :=
  ah.qE mixed [] [1,6,7,8,9,26,27,28,29,30,31,32,33,34,35,36,37] 0 4 (.nx (fun K => let a1_ := c.getD (0 + (Int.toNat i_1)) aw; let a2_ := i_1 < (c.length : Int); let a3_ := (!(!ok)) && ((a1_.Kind == kind) && true); (bif (decide a2_) then (0 ≤ i_1) ∧ a2_ ∧ (a3_ = true → 0 ≤ i_1) ∧ (a3_ = true → i_1 < (c.length : Int)) ∧ ((bif (bif (a1_.Kind == kind) then (bif (!ok) then true else (decide ((a1_.Span).From < day))) else false) then (0 ≤ i_1) ∧ a2_ ∧ (wK K .normal (⟨[sv 1 (i64 kind),sv 6 (.row 0 14 0 c.length),sv 7 (i64 (a1_.Span).From),sv 8 (bl true),sv 9 (i64 (ak (i_1 + 1))),un 26,un 27,un 28,un 29,un 30,un 31,un 32,un 33,un 34,un 35,un 36,un 37],[(aC 0 38 c)],1⟩)) else wK K .normal (⟨[sv 1 (i64 kind),sv 6 (.row 0 14 0 c.length),sv 7 (i64 day),sv 8 (bl ok),sv 9 (i64 (ak (i_1 + 1))),un 26,un 27,un 28,un 29,un 30,un 31,un 32,un 33,un 34,un 35,un 36,un 37],[(aC 0 38 c)],1⟩))) else wK K (.exit 0) (⟨[sv 1 (i64 kind),sv 6 (.row 0 14 0 c.length),sv 7 (i64 day),sv 8 (bl ok),sv 9 (i64 i_1)],[(aC 0 38 c)],1⟩))) (al h (fun _ h => (aT h fun _ h => (bF h fun _ h => (bF h fun _ h => (al h (fun _ h => (aT h fun _ h => (lf h (.cn [1,6,7,8,9])))) (fun _ h => (lf h (.cn [1,6,7,8,9])))))))) (fun _ h => (lf h (.cn [7,8])))))
noncomputable def mF (kind : Int) (c : (List aa)) (s : (Int × Bool × Int)) : Option ((Int × Bool × Int) ⊕ ((Int × Bool))) := match s with | (day,ok,i_1) => kF kind c day ok i_1
theorem adL (kind : Int) (c : (List aa)) (s : (Int × Bool × Int)) : Pp Tryz.prog 47 (List.drop 0 WW) (IJ kind c s) (mF kind c s) (cq (IJ kind c) (Aw kind c)) := fun K h => match s,h with | (day,ok,i_1),h => (aah h)
theorem Qc (kind : Int) (c : (List aa)) : ∀ (r : ((Int × Bool))) (J : St → Prop) (K : KT),Aw kind c r K → Aw kind c r (aM J K)
  | s,_,_,h => h
def UG (day_2 : Int) (ok_2 : Bool) : St := ⟨[sv 7 (i64 day_2),sv 8 (bl ok_2)],[],0⟩
noncomputable def By (day_2 : Int) (ok_2 : Bool) : Option ((Int × Bool)) := (some (day_2,ok_2))
theorem acM {day_2 : Int} {ok_2 : Bool} {K : KT} (h : W (By day_2 ok_2) (rE N4 K)) : ah Tryz.prog 47 (List.drop 5 uJ) K (UG day_2 ok_2) :=
  ah.qE mixed [] [4,5] 5 2 (.nx (fun K => wK K .ret (N4 (day_2,ok_2))) (l0 h))
def Tn (kind : Int) (c : (List aa)) : St := ⟨[sv 1 (i64 kind),sv 6 (.row 0 14 0 c.length),sv 7 (i64 0),sv 8 (bl false),sv 9 (i64 0)],[(aC 0 38 c)],1⟩
noncomputable def ym (kind : Int) (c : (List aa)) (r : ((Int × Bool))) : Option ((Int × Bool)) := match r with | (day_1,ok_1) => (By day_1 ok_1)
noncomputable def BE (kind : Int) (c : (List aa)) : Option ((Int × Bool)) := (aN (mF kind c) (0,false,0)).bind (ym kind c)
theorem aa4 : List.drop 4 uJ = .block 0 (.loop (aj (aj (aQ uJ 4)))) :: List.drop 5 uJ := by kernel_rfl
theorem afS (kind : Int) (c : (List aa)) (K : KT) : ∀ r : ((Int × Bool)),W (ym kind c r) (rE N4 K) → Aw kind c r (wK (bg 0 (aM (ah Tryz.prog 47 (List.drop 5 uJ) K) K)))
  | (day_1,ok_1),h => ⟨(UG day_1 ok_1),(.refl _),(acM h)⟩
theorem abq {kind : Int} {c : (List aa)} {K : KT} (h : W (BE kind c) (rE N4 K)) : ah Tryz.prog 47 (List.drop 4 uJ) K (Tn kind c) :=
  ah.at_ aa4 (ah.cons_loop (aE.weak (aE.ent (.refl _) (aE.loopF (x := aj (aj (aQ uJ 4))) (f := mF kind c) (emb := IJ kind c) (E := Aw kind c) (adL kind c) (Qc kind c) (bT h (afS kind c K))))))
def R9 (l : (List aa)) (kind : Int) : St := ⟨[sv 0 (aH l),sv 1 (i64 kind)],[],0⟩
noncomputable def Bj (l : (List aa)) (kind : Int) : Option ((Int × Bool)) := (ig l).bind fun r_1 => ((BE kind r_1))
theorem aa3 (l : (List aa)) (kind : Int) (K : KT) {L1_ : List aa} (hL1_ : lst aY l.length (be l) = L1_) :
    ev Tryz.prog (cy [WY]) 47 (ofItems ((List.drop 0 uJ).take 4)) (cN [1,6,7,8,9,26,27,28,29,30,31,32,33,34,35,36,37] K) (R9 l kind) =
    ((lD l) ∧ ((ig L1_).isSome = true) ∧ (wK K .normal (Tn kind ((ig L1_).getD [])))) := by subst hL1_; kernel_rfl
theorem abn {l : (List aa)} {kind : Int} {K : KT} (h : W (Bj l kind) (rE N4 K)) : ah Tryz.prog 47 (List.drop 0 uJ) K (R9 l kind) :=
  ah.qD mixed [WY] [1,6,7,8,9,26,27,28,29,30,31,32,33,34,35,36,37] 0 4 4 (.of (aa3 l kind _ (lb au)) (⟨kb au,(aq [] h fun _ h => (l0 (abq h)))⟩))
noncomputable def qA (l : (List aa)) (kind : Int) : Option ((Int × Bool)) := Bj l kind
noncomputable def Do : bW := fK gy (aI .i64) qA ((0 : Int),false) Ix
theorem KD : Meets Tryz.prog 58 Do := dp Tryz.f58 (ar Tryz.f58) [.tmp 4, .tmp 5] 47 fun u0 u1 y h => @abn u0 u1 _ (bi.2 ⟨y,h,(cH (.tup [(i64 y.1),(bl y.2)]) (VLe.tup (VLes.cons (VLe.rfl' _) (VLes.cons (VLe.rfl' _) (VLes.nil)))))⟩)
noncomputable abbrev e58 : FE Tryz.prog := ⟨58, .pure Do,KD⟩
noncomputable def WG : List Code := aD (ar Tryz.f30)
def Je (x_1 : (Int × Bool)) : bS := .data (.tup [(i64 x_1.1),(bl x_1.2)])
def aiA (x_1 : (Int × Bool)) : St := ⟨[sv 2 (i64 x_1.1),sv 3 (bl x_1.2)],[],0⟩
def Tb (l : (List aa)) : St := ⟨[sv 0 (aH l)],[],0⟩
noncomputable def pt (l : (List aa)) : Option ((Int × Bool)) := (qA l 12).bind fun r_1 => ((some (r_1.1,r_1.2)))
theorem YC (l : (List aa)) (K : KT) {L1_ : List aa} (hL1_ : lst aY l.length (be l) = L1_) :
    ev Tryz.prog (cy [e58]) 8 (ofItems ((List.drop 0 WG).take 3)) (cN [2,3] K) (Tb l) =
    (let a1_ := (qA L1_ 12).getD (0,false); (lD l) ∧ ((qA L1_ 12).isSome = true) ∧ (wK K .ret (aiA (a1_.1,a1_.2)))) := by subst hL1_; kernel_rfl
theorem aeI {l : (List aa)} {K : KT} (h : W (pt l) (rE aiA K)) : ah Tryz.prog 8 (List.drop 0 WG) K (Tb l) :=
  ah.qE mixed [e58] [2,3] 0 3 (.of (YC l _ (lb au)) (⟨kb au,(aq (0,false) h fun _ h => (l0 h))⟩))
noncomputable def ku (l : (List aa)) : Option ((Int × Bool)) := pt l
noncomputable def Dn : bW := fO gy ku ((0 : Int),false) Je
theorem Kd : Meets Tryz.prog 30 Dn := dq Tryz.f30 (ar Tryz.f30) [.tmp 2, .tmp 3] 8 fun u0 y h => @aeI u0 _ (bi.2 ⟨y,h,(cH (.tup [(i64 y.1),(bl y.2)]) (VLe.tup (VLes.cons (VLe.rfl' _) (VLes.cons (VLe.rfl' _) (VLes.nil)))))⟩)
noncomputable abbrev Xb : FE Tryz.prog := ⟨30, .pure Dn,Kd⟩
noncomputable def afz : List Code := aD (ar Tryz.f106)
def HO (x_1 : (ac × Bool)) : bS := .data (.tup [(.agg [(i64 x_1.1.From),(i64 x_1.1.To)]),(bl x_1.2)])
def XU (x_1 : (ac × Bool)) : St := ⟨[sv 2 (.ptr 0 2 0 0),sv 3 (bl x_1.2)],[(0,some (.box [(i64 x_1.1.From),(i64 x_1.1.To)]))],1⟩
def ab5 (s_1 : ac) : St := ⟨[sv 0 (.ag (bs s_1))],[],0⟩
noncomputable def y9 (s_1 : ac) : Option ((ac × Bool)) := (some ((ac.mk (if s_1.From < 0 then (0 : Int) else s_1.From) (if (73049 : Int) < s_1.To then (73049 : Int) else s_1.To)),(decide ((if s_1.From < 0 then (0 : Int) else s_1.From) < (if (73049 : Int) < s_1.To then (73049 : Int) else s_1.To)))))
theorem Wq {s_1 : ac} {K : KT} (h : W (y9 s_1) (rE XU K)) : ah Tryz.prog 17 (List.drop 0 afz) K (ab5 s_1) :=
  ah.qE mixed [] [2,3] 0 4 (.nx (fun K => let a1_ := if (73049 : Int) < s_1.To then (73049 : Int) else s_1.To; let a2_ := if s_1.From < 0 then (0 : Int) else s_1.From; wK K .ret (XU ((ac.mk a2_ a1_),(decide (a2_ < a1_))))) (l0 h))
noncomputable def mu (s_1 : ac) : Option ((ac × Bool)) := y9 s_1
noncomputable def A8 : bW := fO AA mu (aF,false) HO
theorem II : Meets Tryz.prog 106 A8 := dq Tryz.f106 (ar Tryz.f106) [.cell 2 36, .tmp 3] 17 fun u0 y h => @Wq u0 _ (bi.2 ⟨y,h,(cH (.tup [(.agg [(i64 y.1.From),(i64 y.1.To)]),(bl y.2)]) (VLe.tup (VLes.cons (VLe.rfl' _) (VLes.cons (VLe.rfl' _) (VLes.nil)))))⟩)
noncomputable abbrev aik : FE Tryz.prog := ⟨106, .pure A8,II⟩
noncomputable def tF : List Code := aD (ar Tryz.f107)
noncomputable def Sd : List Code := aD (aj (aj (aQ tF 2)))
def B3 (x_1 : (List Int)) : St := ⟨[sv 4 (.row 0 1 0 x_1.length)],[(dO 0 3 x_1)],1⟩
theorem ZY (x_1 : (List Int)) {H : az} {nid : Nat} {ps : List Prop} {o : Nat} : lK Tryz.prog [.tmp 4] (fun σ v => ∃ m,Left [o] nid H false { pre := ps,val := .row o 1 0 x_1.length,eff := [(o,some (.row 3 1 x_1.length (bf cP (0 : Int) x_1)))],kill := [o] } m σ v) .ret (B3 x_1) :=
  lK.intro (v := (.row 0 1 0 x_1.length)) (by kernel_rfl) ⟨_,Cg (q := 0) rfl (fun _ _ => rfl) (.inr fun i hi d hd => HK _ d hd)⟩
theorem V0 (x_1 : (List Int)) {H : az} {nid : Nat} {ps : List Prop} : lK Tryz.prog [.tmp 4] (fun σ v => ∃ m,Left [] nid H false { pre := ps,val := .row nid 1 0 x_1.length,eff := [(nid,some (.row 3 1 x_1.length (bf cP (0 : Int) x_1)))],kill := [] } m σ v) .ret (B3 x_1) :=
  lK.intro (v := (.row 0 1 0 x_1.length)) (by kernel_rfl) ⟨_,C6 (q := 0) rfl (fun _ _ => rfl) (.inr fun i hi d hd => HK _ d hd)⟩
def FS (l : (List Int)) (n : Int) (s : (Int)) : St := match s with | at_1 => ⟨[sv 0 (.row 0 1 0 l.length),sv 1 (i64 n),sv 5 (i64 at_1)],[(dO 0 3 l)],1⟩
def Vr (l : (List Int)) (n : Int) (s : Int) : St := match s with | at_2 => ⟨[sv 0 (.row 0 1 0 l.length),sv 1 (i64 n),sv 5 (i64 at_2)],[(dO 0 3 l)],1⟩
def xj (l : (List Int)) (n : Int) (r : ((Int))) (K : KT) : Prop := match r with | s => K (.exit 0) (Vr l n s)
def abD (l : (List Int)) (n at_1 : Int) : St := ⟨[sv 0 (.row 0 1 0 l.length),sv 1 (i64 n),sv 5 (i64 at_1)],[(dO 0 3 l)],1⟩
noncomputable def kx (l : (List Int)) (n at_1 : Int) : Option ((Int) ⊕ ((Int))) := gd (((decide (0 < at_1)) && true) = true → 0 ≤ (ak (at_1 - 1))) (gd (((decide (0 < at_1)) && true) = true → (ak (at_1 - 1)) < (l.length : Int)) ((bif (bif (decide (0 < at_1)) then (decide (n ≤ (l.getD (0 + (Int.toNat (ak (at_1 - 1)))) (0 : Int)))) else false) then (some (Sum.inl (ak (at_1 - 1)))) else (some (Sum.inr at_1)))))
theorem Vx {l : (List Int)} {n at_1 : Int} {K : KT} (h : W (kx l n at_1) (nE (FS l n) (xj l n) K)) : ah Tryz.prog 45 (List.drop 0 Sd) K (abD l n at_1) :=
  ah.qE mixed [] [0,1,5,11,12,13,14,15,16,17,26,27,28,29,30,31] 0 3 (.nx (fun K => let a1_ := decide (0 < at_1); ((a1_ && true) = true → 0 ≤ (ak (at_1 - 1))) ∧ ((a1_ && true) = true → (ak (at_1 - 1)) < (l.length : Int)) ∧ ((bif (bif a1_ then (decide (n ≤ (l.getD (0 + (Int.toNat (ak (at_1 - 1)))) (0 : Int)))) else false) then wK K .normal (⟨[sv 0 (.row 0 1 0 l.length),sv 1 (i64 n),sv 5 (i64 (ak (at_1 - 1))),un 11,un 12,un 13,un 14,un 15,un 16,un 17],[(dO 0 3 l)],1⟩) else wK K (.exit 0) (⟨[sv 0 (.row 0 1 0 l.length),sv 1 (i64 n),sv 5 (i64 at_1),un 11,un 12,un 13,un 14,un 15,un 16,un 17],[(dO 0 3 l)],1⟩)))) (bF h fun _ h => (bF h fun _ h => (al h (fun _ h => (lf h (.cn [0,1,5]))) (fun _ h => (lf h (.cn [0,1,5])))))))
noncomputable def qM (l : (List Int)) (n : Int) (s : (Int)) : Option ((Int) ⊕ ((Int))) := match s with | at_1 => kx l n at_1
theorem VE (l : (List Int)) (n : Int) (s : (Int)) : Pp Tryz.prog 45 (List.drop 0 Sd) (FS l n s) (qM l n s) (cq (FS l n) (xj l n)) := fun K h => match s,h with | at_1,h => (Vx h)
theorem Ox (l : (List Int)) (n : Int) : ∀ (r : ((Int))) (J : St → Prop) (K : KT),xj l n r K → xj l n r (aM J K)
  | s,_,_,h => h
def Pc (l : (List Int)) (n at_3 : Int) : St := ⟨[sv 0 (.row 0 1 0 l.length),sv 1 (i64 n),sv 5 (i64 at_3)],[(dO 0 3 l)],1⟩
noncomputable def oa (l : (List Int)) (n at_3 : Int) : Option ((List Int)) := gd (((decide (at_3 < (l.length : Int))) && true) = true → 0 ≤ at_3) (gd (((decide (at_3 < (l.length : Int))) && true) = true → at_3 < (l.length : Int)) ((bif (bif (decide (at_3 < (l.length : Int))) then ((l.getD (0 + (Int.toNat at_3)) (0 : Int)) == n) else false) then (some l) else gd (0 ≤ (0 : Int) ∧ (0 : Int) ≤ at_3 ∧ at_3 ≤ (l.length : Int)) (gd (cL (Int.toNat (at_3 - 0)) 8) (gd (cL ((Int.toNat (at_3 - 0)) + 1) 8) (gd (0 ≤ at_3 ∧ at_3 ≤ (l.length : Int) ∧ (l.length : Int) ≤ (l.length : Int)) (gd (cL (((Int.toNat (at_3 - 0)) + 1) + (Int.toNat ((l.length : Int) - at_3))) 8) ((some (((jD (0 : Int) l 0 (Int.toNat (at_3 - 0))) ++ ([n] : List Int)) ++ (jD (0 : Int) l (0 + (Int.toNat at_3)) (Int.toNat ((l.length : Int) - at_3)))))))))))))
theorem VT {l : (List Int)} {n at_3 : Int} {K : KT} (h : W (oa l n at_3) (rE B3 K)) : ah Tryz.prog 45 (List.drop 3 tF) K (Pc l n at_3) :=
  ah.qE mixed [] [4] 3 4 (.nx (fun K => let a1_ := Int.toNat (at_3 - 0); let a2_ := (a1_ + 1) + (Int.toNat ((l.length : Int) - at_3)); let a3_ := decide (at_3 < (l.length : Int)); ((a3_ && true) = true → 0 ≤ at_3) ∧ ((a3_ && true) = true → at_3 < (l.length : Int)) ∧ ((bif (bif a3_ then ((l.getD (0 + (Int.toNat at_3)) (0 : Int)) == n) else false) then wK K .ret (B3 l) else (0 ≤ (0 : Int)) ∧ ((0 : Int) ≤ at_3) ∧ (at_3 ≤ (l.length : Int)) ∧ (a1_ * 8 ≤ 140737488355328) ∧ (a1_ ≤ 140737488355328) ∧ (a1_ = a1_) ∧ ((a1_ + 1) * 8 ≤ 140737488355328) ∧ ((a1_ + 1) ≤ 140737488355328) ∧ (0 ≤ at_3) ∧ (at_3 ≤ (l.length : Int)) ∧ ((l.length : Int) ≤ (l.length : Int)) ∧ ((a1_ + 1) = (a1_ + 1)) ∧ (a2_ * 8 ≤ 140737488355328) ∧ (a2_ ≤ 140737488355328) ∧ (wK K .ret (⟨[sv 4 (.row 0 1 0 a2_)],[(0,some (.row 3 1 a2_ (fun i => bif Nat.blt i (a1_ + 1) then (fun i => bif Nat.blt i a1_ then (fun i => (ef l) (0 + i)) i else (fun i => (ef ([n] : List Int)) (0 + i)) (i - a1_)) i else (fun i => (ef l) ((0 + (Int.toNat at_3)) + i)) (i - (a1_ + 1)))))],1⟩))))) (bF h fun _ h => (bF h fun _ h => (al h (fun _ h => (l0 h)) (fun _ h => (pl h fun _ h => (aT h fun _ h => ⟨rfl,(aT h fun _ h => (pl h fun _ h => ⟨rfl,(aT h fun _ h => (lf h (.of (.cons rfl (.rown (ce (ce ut rfl) ut)) .nil) (.row rfl (ai.app (ai.app (ai.sub cP (0 : Int) l 0 (Int.toNat (at_3 - 0))) (ai.zero (ai.ls cP (0 : Int) ([n] : List Int)))) (ai.sub cP (0 : Int) l (0 + (Int.toNat at_3)) (Int.toNat ((l.length : Int) - at_3)))) .nil rfl) rfl)))⟩))⟩)))))))
def Ph (l : (List Int)) (n : Int) : St := ⟨[sv 0 (.row 0 1 0 l.length),sv 1 (i64 n),sv 5 (i64 (l.length : Int))],[(dO 0 3 l)],1⟩
noncomputable def DC (l : (List Int)) (n : Int) (r : ((Int))) : Option ((List Int)) := match r with | at_2 => (oa l n at_2)
noncomputable def GM (l : (List Int)) (n : Int) : Option ((List Int)) := (aN (qM l n) (l.length : Int)).bind (DC l n)
theorem Wb : List.drop 2 tF = .block 0 (.loop (aj (aj (aQ tF 2)))) :: List.drop 3 tF := by kernel_rfl
theorem aaS (l : (List Int)) (n : Int) (K : KT) : ∀ r : ((Int)),W (DC l n r) (rE B3 K) → xj l n r (wK (bg 0 (aM (ah Tryz.prog 45 (List.drop 3 tF) K) K)))
  | at_2,h => ⟨(Pc l n at_2),(.refl _),(VT h)⟩
theorem Wc {l : (List Int)} {n : Int} {K : KT} (h : W (GM l n) (rE B3 K)) : ah Tryz.prog 45 (List.drop 2 tF) K (Ph l n) :=
  ah.at_ Wb (ah.cons_loop (aE.weak (aE.ent (.refl _) (aE.loopF (x := aj (aj (aQ tF 2))) (f := qM l n) (emb := FS l n) (E := xj l n) (VE l n) (Ox l n) (bT h (aaS l n K))))))
def ZV (l : (List Int)) (n : Int) : St := ⟨[sv 0 (.row 0 1 0 l.length),sv 1 (i64 n)],[(dO 0 3 l)],1⟩
noncomputable def GV (l : (List Int)) (n : Int) : Option ((List Int)) := (GM l n)
theorem Nb {l : (List Int)} {n : Int} {K : KT} (h : W (GV l n) (rE B3 K)) : ah Tryz.prog 45 (List.drop 0 tF) K (ZV l n) :=
  ah.qD mixed [] [0,1,5,11,12,13,14,15,16,17,26,27,28,29,30,31] 0 2 2 (.nx (fun K => wK K .normal (Ph l n)) (l0 (Wc h)))
noncomputable def eK (l : (List Int)) (n : Int) : Option ((List Int)) := GV l n
noncomputable def CM : az → Nat → List V → Option dE := fun H nid args => match ki H [true,false] args with
  | [(.row o_ k_ f_ n_),(.c (.lit (.int .i64 a1)))] => (match az.get H o_ with
    | some (.row t_ k2_ m_ e_) => bif Nat.beq t_ 3 && Nat.beq k2_ 1 && Nat.beq k_ 1 && Nat.beq f_ 0 && ea [o_] H false [true,false] args then some { pre := [n_ = m_,bk cP cC 1 1 m_ e_,(eK (lst cC m_ e_) a1).isSome = true],val := .row o_ 1 0 ((eK (lst cC m_ e_) a1).getD ([] : List Int)).length,eff := [(o_,some (.row 3 1 ((eK (lst cC m_ e_) a1).getD ([] : List Int)).length (bf cP (0 : Int) ((eK (lst cC m_ e_) a1).getD ([] : List Int)))))],kill := [o_] } else none
    | _ => none)
  | [(.c .nil),(.c (.lit (.int .i64 a1)))] => bif ea [] H false [true,false] args then some { pre := [(eK ([] : List Int) a1).isSome = true],val := .row nid 1 0 ((eK ([] : List Int) a1).getD ([] : List Int)).length,eff := [(nid,some (.row 3 1 ((eK ([] : List Int) a1).getD ([] : List Int)).length (bf cP (0 : Int) ((eK ([] : List Int) a1).getD ([] : List Int)))))],kill := [] } else none
  | _ => none
theorem OP : dl Tryz.prog 107 (.mut CM) := by
  refine zc (fn := Tryz.f107) (c := ar Tryz.f107) (by kernel_rfl) (by kernel_rfl) (by kernel_rfl) (rs := [.tmp 4]) (by kernel_rfl) (nt := 45) (by kernel_rfl) fun H nid args r h hp => ?_
  unfold CM at h
  split at h
  · next o_ k_ f_ n_ a1 hv =>
    split at h
    · next t_ k2_ m_ e_ hg =>
      cases hb : (Nat.beq t_ 3 && Nat.beq k2_ 1 && Nat.beq k_ 1 && Nat.beq f_ 0 && ea [o_] H false [true,false] args) with
      | false => rw [hb] at h; cases h
      | true =>
        rw [hb] at h
        simp only [Bool.and_eq_true,Nat.beq_eq] at hb
        obtain ⟨⟨⟨⟨rfl,rfl⟩,rfl⟩,rfl⟩,hk⟩ := hb
        cases h
        obtain ⟨hn,hp⟩ := dP hp
        obtain ⟨gr,hp⟩ := dP hp
        obtain ⟨g,hp⟩ := dP hp
        obtain ⟨x,hx⟩ := Option.isSome_iff_exists.1 g
        rw [hx]
        subst hn
        exact .inl ⟨false,[true,false],o_,3,1,_,e_,[.row 0 1 0 (lst cC _ e_).length,(i64 a1)],hg,hk,by rw [hv]; simp only [p9,cond_true,cond_false,CS]; exact (VLes.cons (VLe.rown (ai.of_ok (z := (0 : Int)) gr).len) (VLes.cons (VLe.rfl' _) VLes.nil)),rfl,ah.ent (em.of (dg.cons rfl (VLe.rfl' _) (dg.cons rfl (VLe.rfl' _) dg.nil)) (eN.row rfl (ai.of_ok gr) eN.nil rfl) rfl) (@Nb (lst cC _ e_) a1 _ (bi.2 ⟨x,hx,ZY x⟩))⟩
    · cases h
  · next a1 hv =>
    cases hb : ea [] H false [true,false] args with
      | false => rw [hb] at h; cases h
      | true =>
        rw [hb] at h
        cases h
        obtain ⟨g,hp⟩ := dP hp
        obtain ⟨x,hx⟩ := Option.isSome_iff_exists.1 g
        rw [hx]
        exact .inr ⟨false,[true,false],[.c .nil,(i64 a1)],hb,by rw [hv]; simp only [p9,cond_true,cond_false]; exact (VLes.cons (VLe.rfl' _) (VLes.cons (VLe.rfl' _) VLes.nil)),rfl,ah.ent (em.trans (em.nilrow 0 0 3 1 (bf cP (0 : Int) []) (Nat.le_refl _) rfl) (em.of (dg.cons rfl (VLe.rown rfl) (dg.cons rfl (VLe.rfl' _) dg.nil)) (eN.row rfl (ai.ls cP (0 : Int) []) eN.nil rfl) rfl)) (@Nb ([] : List Int) a1 _ (bi.2 ⟨x,hx,V0 x⟩))⟩
  · cases h
noncomputable abbrev ahE : FE Tryz.prog := ⟨107, .mut CM,OP⟩
noncomputable def wD : List Code := aD (ar Tryz.f92)
noncomputable def re : List Code := aD (aj (aj (aQ wD 3)))
noncomputable def w7 : List Code := aD (aj (aQ re 2))
noncomputable def QI : List Code := aD (aj (aj (aQ w7 1)))
def JP (x_1 : (List Int)) : bS := .own true 3 1 (x_1).length (bf cP (0 : Int) x_1)
def NV (x_1 : (List Int)) : St := ⟨[sv 2 (.row 0 1 0 x_1.length)],[(dO 0 3 x_1)],1⟩
def qq (lists : (List (List ac))) (s : ((List Int) × Int)) : St := match s with | (out_4,i_1) => ⟨[sv 0 (jt lists),sv 3 (.row 0 1 0 out_4.length),sv 4 (i64 i_1)],[(dO 0 3 out_4)],1⟩
def Za (lists : (List (List ac))) (s : (List Int)) : St := match s with | out_6 => ⟨[sv 3 (.row 0 1 0 out_6.length)],[(dO 0 3 out_6)],1⟩
def o4 (lists : (List (List ac))) (r : (((List Int)))) (K : KT) : Prop := match r with | s => K (.exit 0) (Za lists s)
def Ah (lists : (List (List ac))) (out_9 : (List Int)) (i_4 : Int) (s : ((List Int) × Int × Int)) : St := match s with | (out_1,i_5,k) => ⟨[sv 0 (jt lists),sv 3 (.row 0 1 0 out_1.length),sv 4 (i64 i_5),sv 5 (i64 k)],[(dO 0 3 out_1)],1⟩
def acT (lists : (List (List ac))) (out_9 : (List Int)) (i_4 : Int) (s : (List Int) × Int) : St := match s with | (out_2,i_6) => ⟨[sv 0 (jt lists),sv 3 (.row 0 1 0 out_2.length),sv 4 (i64 i_6)],[(dO 0 3 out_2)],1⟩
def BS (lists : (List (List ac))) (out_9 : (List Int)) (i_4 : Int) (r : (((List Int) × Int))) (K : KT) : Prop := match r with | s => K (.exit 2) (acT lists out_9 i_4 s)
def UX (lists : (List (List ac))) (out_1 : (List Int)) (i_5 k : Int) : St := ⟨[sv 0 (jt lists),sv 3 (.row 0 1 0 out_1.length),sv 4 (i64 i_5),sv 5 (i64 k)],[(dO 0 3 out_1)],1⟩
noncomputable def iX (lists : (List (List ac))) (out_1 : (List Int)) (i_5 k : Int) : Option (((List Int) × Int × Int) ⊕ (((List Int) × Int))) := gd (0 ≤ i_5 ∧ i_5 < (lists.length : Int)) ((bif (decide (k < (((lists.getD (Int.toNat i_5) ([] : List ac))).length : Int))) then gd (0 ≤ i_5 ∧ i_5 < (lists.length : Int)) (gd (0 ≤ k ∧ k < (((lists.getD (Int.toNat i_5) ([] : List ac))).length : Int)) ((mu ((lists.getD (Int.toNat i_5) ([] : List ac)).getD (Int.toNat k) aF)).bind fun r_1 => ((bif r_1.2 then (eK out_1 r_1.1.From).bind fun r_2 => ((eK r_2 r_1.1.To).bind fun r_3 => ((some (Sum.inl (r_3,i_5,(ak (k + 1))))))) else (some (Sum.inl (out_1,i_5,(ak (k + 1))))))))) else (some (Sum.inr (out_1,i_5)))))
theorem abI (lists : (List (List ac))) (out_1 : (List Int)) (i_5 k : Int) (out_9 : (List Int)) (i_4 : Int) (K : KT) {L1_ : List Int} (hL1_ : lst cC out_1.length (ef out_1) = L1_) {L2_ : List Int} (hL2_ : lst cC ((((eK L1_ ((((mu ((lists.getD (Int.toNat i_5) ([] : List ac)).getD (Int.toNat k) aF)).getD (aF,false)).1).From)).getD [])).length) (ef ((eK L1_ ((((mu ((lists.getD (Int.toNat i_5) ([] : List ac)).getD (Int.toNat k) aF)).getD (aF,false)).1).From)).getD [])) = L2_) :
    ev Tryz.prog (cy [aik,ahE]) 43 (ofItems ((List.drop 0 QI).take 4)) (cN [0,3,4,5] K) (UX lists out_1 i_5 k) =
    (let a2_ := lists.getD (Int.toNat i_5) ([] : List ac); let a1_ := (mu (a2_.getD (Int.toNat k) aF)).getD (aF,false); let a3_ := eK L1_ ((a1_.1).From); let a4_ := i_5 < (lists.length : Int); (0 ≤ i_5) ∧ a4_ ∧ ((bif (decide (k < ((a2_).length : Int))) then (0 ≤ i_5) ∧ a4_ ∧ (0 ≤ k) ∧ (k < ((a2_).length : Int)) ∧ ((mu (a2_.getD (Int.toNat k) aF)).isSome = true) ∧ ((bif a1_.2 then (out_1.length = out_1.length) ∧ (p7 out_1) ∧ (a3_.isSome = true) ∧ (((a3_.getD [])).length = ((a3_.getD [])).length) ∧ (p7 (a3_.getD [])) ∧ ((eK L2_ ((a1_.1).To)).isSome = true) ∧ (wK K .normal (Ah lists out_9 i_4 (((eK L2_ ((a1_.1).To)).getD []),i_5,(ak (k + 1))))) else wK K .normal (Ah lists out_9 i_4 (out_1,i_5,(ak (k + 1)))))) else wK K (.exit 2) (⟨[sv 0 (jt lists),sv 3 (.row 0 1 0 out_1.length),sv 4 (i64 i_5),sv 5 (i64 k)],[(dO 0 3 out_1)],1⟩)))) := by subst hL1_ hL2_; kernel_rfl
theorem Zv {lists : (List (List ac))} {out_1 : (List Int)} {i_5 k : Int} {out_9 : (List Int)} {i_4 : Int} {K : KT} (h : W (iX lists out_1 i_5 k) (nE (Ah lists out_9 i_4) (BS lists out_9 i_4) K)) : ah Tryz.prog 43 (List.drop 0 QI) K (UX lists out_1 i_5 k) :=
  ah.qE mixed [aik,ahE] [0,3,4,5] 0 4 (.of (abI lists out_1 i_5 k out_9 i_4 _ (lb bj) (lb bj)) (aT h fun _ h => (al h (fun _ h => (aT h fun _ h => (aT h fun _ h => (aq (aF,false) h fun _ h => (al h (fun _ h => ⟨(rfl),⟨kb bj,(aq [] h fun _ h => ⟨(rfl),⟨kb bj,(aq [] h fun _ h => (l0 h))⟩⟩)⟩⟩) (fun _ h => (l0 h))))))) (fun _ h => (lf h (.cn [0,3,4]))))))
noncomputable def nI (lists : (List (List ac))) (out_9 : (List Int)) (i_4 : Int) (s : ((List Int) × Int × Int)) : Option (((List Int) × Int × Int) ⊕ (((List Int) × Int))) := match s with | (out_1,i_5,k) => iX lists out_1 i_5 k
theorem aap (lists : (List (List ac))) (out_9 : (List Int)) (i_4 : Int) (s : ((List Int) × Int × Int)) : Pp Tryz.prog 43 (List.drop 0 QI) (Ah lists out_9 i_4 s) (nI lists out_9 i_4 s) (cq (Ah lists out_9 i_4) (BS lists out_9 i_4)) := fun K h => match s,h with | (out_1,i_5,k),h => (Zv h)
theorem Qk (lists : (List (List ac))) (out_9 : (List Int)) (i_4 : Int) : ∀ (r : (((List Int) × Int))) (J : St → Prop) (K : KT),BS lists out_9 i_4 r K → BS lists out_9 i_4 r (aM J K)
  | s,_,_,h => h
def R4 (lists : (List (List ac))) (out_3 : (List Int)) (i_7 : Int) : St := ⟨[sv 0 (jt lists),sv 3 (.row 0 1 0 out_3.length),sv 4 (i64 i_7)],[(dO 0 3 out_3)],1⟩
noncomputable def C9 (lists : (List (List ac))) (out_3 : (List Int)) (i_7 : Int) : Option (((List Int) × Int) ⊕ (((List Int)))) := (some (Sum.inl (out_3,(ak (i_7 + 1)))))
theorem Yd {lists : (List (List ac))} {out_3 : (List Int)} {i_7 : Int} {K : KT} (h : W (C9 lists out_3 i_7) (nE (qq lists) (o4 lists) K)) : ah Tryz.prog 43 (List.drop 3 re) K (R4 lists out_3 i_7) :=
  ah.qE mixed [] [0,3,4] 3 1 (.nx (fun K => wK K .normal (qq lists (out_3,(ak (i_7 + 1))))) (l0 h))
def Ur (lists : (List (List ac))) (out_9 : (List Int)) (i_4 : Int) : St := ⟨[sv 0 (jt lists),sv 3 (.row 0 1 0 out_9.length),sv 4 (i64 i_4),sv 5 (i64 0)],[(dO 0 3 out_9)],1⟩
noncomputable def yX (lists : (List (List ac))) (out_9 : (List Int)) (i_4 : Int) (r : (((List Int) × Int))) : Option (((List Int) × Int) ⊕ (((List Int)))) := match r with | (out_2,i_6) => (C9 lists out_2 i_6)
noncomputable def Dm (lists : (List (List ac))) (out_9 : (List Int)) (i_4 : Int) : Option (((List Int) × Int) ⊕ (((List Int)))) := (aN (nI lists out_9 i_4) (out_9,i_4,0)).bind (yX lists out_9 i_4)
theorem afr : List.drop 1 w7 = .block 2 (.loop (aj (aj (aQ w7 1)))) :: List.drop 2 w7 := by kernel_rfl
theorem ahG (lists : (List (List ac))) (out_9 : (List Int)) (i_4 : Int) (K : KT) : ∀ r : (((List Int) × Int)),W (yX lists out_9 i_4 r) (nE (qq lists) (o4 lists) K) → BS lists out_9 i_4 r (wK (bg 2 (aM (ah Tryz.prog 43 (List.drop 2 w7) (bg 1 (aM (ah Tryz.prog 43 (List.drop 3 re) K) K))) (bg 1 (aM (ah Tryz.prog 43 (List.drop 3 re) K) K)))))
  | (out_2,i_6),h => ⟨(R4 lists out_2 i_6),(.refl _),(ah.end_ (by kernel_rfl : List.drop 2 w7 = []) (Yd h))⟩
theorem aat {lists : (List (List ac))} {out_9 : (List Int)} {i_4 : Int} {K : KT} (h : W (Dm lists out_9 i_4) (nE (qq lists) (o4 lists) K)) : ah Tryz.prog 43 (List.drop 1 w7) (bg 1 (aM (ah Tryz.prog 43 (List.drop 3 re) K) K)) (Ur lists out_9 i_4) :=
  ah.at_ afr (ah.cons_loop (aE.weak (aE.ent (.refl _) (aE.loopF (x := aj (aj (aQ w7 1))) (f := nI lists out_9 i_4) (emb := Ah lists out_9 i_4) (E := BS lists out_9 i_4) (aap lists out_9 i_4) (Qk lists out_9 i_4) (bT h (ahG lists out_9 i_4 K))))))
def aho (lists : (List (List ac))) (out_7 : (List Int)) (i_3 : Int) : St := ⟨[sv 0 (jt lists),sv 3 (.row 0 1 0 out_7.length),sv 4 (i64 i_3)],[(dO 0 3 out_7)],1⟩
noncomputable def Dp (lists : (List (List ac))) (out_7 : (List Int)) (i_3 : Int) : Option (((List Int) × Int) ⊕ (((List Int)))) := (Dm lists out_7 i_3)
theorem aeb {lists : (List (List ac))} {out_7 : (List Int)} {i_3 : Int} {K : KT} (h : W (Dp lists out_7 i_3) (nE (qq lists) (o4 lists) K)) : ah Tryz.prog 43 (List.drop 0 w7) (bg 1 (aM (ah Tryz.prog 43 (List.drop 3 re) K) K)) (aho lists out_7 i_3) :=
  ah.qD mixed [] [0,3,4,5] 0 1 1 (.nx (fun K => wK K .normal (Ur lists out_7 i_3)) (l0 (aat h)))
def Uu (lists : (List (List ac))) (out_5 : (List Int)) (i_2 : Int) : St := ⟨[sv 0 (jt lists),sv 3 (.row 0 1 0 out_5.length),sv 4 (i64 i_2)],[(dO 0 3 out_5)],1⟩
noncomputable def DB (lists : (List (List ac))) (out_5 : (List Int)) (i_2 : Int) : Option (((List Int) × Int) ⊕ (((List Int)))) := (Dp lists out_5 i_2)
theorem Z7 : List.drop 2 re = .block 1 (aj (aQ re 2)) :: List.drop 3 re := by kernel_rfl
theorem adt {lists : (List (List ac))} {out_5 : (List Int)} {i_2 : Int} {K : KT} (h : W (DB lists out_5 i_2) (nE (qq lists) (o4 lists) K)) : ah Tryz.prog 43 (List.drop 2 re) K (Uu lists out_5 i_2) :=
  ah.at_ Z7 (ah.cons_block (ah.en (aeb h) (.refl _)))
def af3 (lists : (List (List ac))) (out_4 : (List Int)) (i_1 : Int) : St := ⟨[sv 0 (jt lists),sv 3 (.row 0 1 0 out_4.length),sv 4 (i64 i_1)],[(dO 0 3 out_4)],1⟩
noncomputable def q9 (lists : (List (List ac))) (out_4 : (List Int)) (i_1 : Int) : Option (((List Int) × Int) ⊕ (((List Int)))) := (bif (decide (i_1 < (lists.length : Int))) then (DB lists out_4 i_1) else (some (Sum.inr out_4)))
theorem adM {lists : (List (List ac))} {out_4 : (List Int)} {i_1 : Int} {K : KT} (h : W (q9 lists out_4 i_1) (nE (qq lists) (o4 lists) K)) : ah Tryz.prog 43 (List.drop 0 re) K (af3 lists out_4 i_1) :=
  ah.qD mixed [] [0,3,4] 0 2 2 (.nx (fun K => (bif (decide (i_1 < (lists.length : Int))) then wK K .normal (Uu lists out_4 i_1) else wK K (.exit 0) (⟨[sv 0 (jt lists),sv 3 (.row 0 1 0 out_4.length),sv 4 (i64 i_1)],[(dO 0 3 out_4)],1⟩))) (al h (fun _ h => (l0 (adt h))) (fun _ h => (lf h (.cn [3])))))
noncomputable def ii (lists : (List (List ac))) (s : ((List Int) × Int)) : Option (((List Int) × Int) ⊕ (((List Int)))) := match s with | (out_4,i_1) => q9 lists out_4 i_1
theorem abN (lists : (List (List ac))) (s : ((List Int) × Int)) : Pp Tryz.prog 43 (List.drop 0 re) (qq lists s) (ii lists s) (cq (qq lists) (o4 lists)) := fun K h => match s,h with | (out_4,i_1),h => (adM h)
theorem Rn (lists : (List (List ac))) : ∀ (r : (((List Int)))) (J : St → Prop) (K : KT),o4 lists r K → o4 lists r (aM J K)
  | s,_,_,h => h
def US (out_8 : (List Int)) : St := ⟨[sv 3 (.row 0 1 0 out_8.length)],[(dO 0 3 out_8)],1⟩
noncomputable def Dt (out_8 : (List Int)) : Option ((List Int)) := (some out_8)
theorem abd {out_8 : (List Int)} {K : KT} (h : W (Dt out_8) (rE NV K)) : ah Tryz.prog 43 (List.drop 4 wD) K (US out_8) :=
  ah.qE mixed [] [2] 4 2 (.nx (fun K => wK K .ret (NV out_8)) (l0 h))
def Ug (lists : (List (List ac))) : St := ⟨[sv 0 (jt lists),sv 3 (.c .nil),sv 4 (i64 0)],[],0⟩
noncomputable def yO (lists : (List (List ac))) (r : (((List Int)))) : Option ((List Int)) := match r with | out_6 => (Dt out_6)
noncomputable def Ds (lists : (List (List ac))) : Option ((List Int)) := (aN (ii lists) (([] : List Int),0)).bind (yO lists)
theorem ZK : List.drop 3 wD = .block 0 (.loop (aj (aj (aQ wD 3)))) :: List.drop 4 wD := by kernel_rfl
theorem ahy (lists : (List (List ac))) (K : KT) : ∀ r : (((List Int))),W (yO lists r) (rE NV K) → o4 lists r (wK (bg 0 (aM (ah Tryz.prog 43 (List.drop 4 wD) K) K)))
  | out_6,h => ⟨(US out_6),(.refl _),(abd h)⟩
theorem aaM {lists : (List (List ac))} {K : KT} (h : W (Ds lists) (rE NV K)) : ah Tryz.prog 43 (List.drop 3 wD) K (Ug lists) :=
  ah.at_ ZK (ah.cons_loop (aE.weak (aE.ent (.trans (.nilrow 3 0 3 1 (bf cP (0 : Int) []) (Nat.le_of_ble_eq_true rfl) rfl) (.cn [0,3,4])) (aE.loopF (x := aj (aj (aQ wD 3))) (f := ii lists) (emb := qq lists) (E := o4 lists) (abN lists) (Rn lists) (bT h (ahy lists K))))))
def afN (lists : (List (List ac))) : St := ⟨[sv 0 (jt lists)],[],0⟩
noncomputable def Dg (lists : (List (List ac))) : Option ((List Int)) := (Ds lists)
theorem aeo {lists : (List (List ac))} {K : KT} (h : W (Dg lists) (rE NV K)) : ah Tryz.prog 43 (List.drop 0 wD) K (afN lists) :=
  ah.qD mixed [] [0,3,4] 0 3 3 (.nx (fun K => wK K .normal (Ug lists)) (l0 (aaM h)))
noncomputable def pI (lists : (List (List ac))) : Option ((List Int)) := Dg lists
noncomputable def ES : bW := fO Vh pI ([] : List Int) JP
theorem LE : Meets Tryz.prog 92 ES := dq Tryz.f92 (ar Tryz.f92) [.tmp 2] 43 fun u0 y h => @aeo u0 _ (bi.2 ⟨y,h,(cH (.row 0 1 0 y.length) (⟨_,_,_,rfl,rfl,rfl,fun _ _ => rfl,fun _ i hi d hd => HK _ d hd⟩))⟩)
noncomputable abbrev e92 : FE Tryz.prog := ⟨92, .pure ES,LE⟩
noncomputable def wY : List Code := aD (ar Tryz.f93)
noncomputable def Xo : List Code := aD (aj (aj (aQ wY 2)))
def Gn (x_1 : Bool) : bS := .data (bl x_1)
def JM (x_1 : Bool) : St := ⟨[sv 4 (bl x_1)],[],0⟩
def HZ (l : (List ac)) (day : Int) (s : (Int)) : St := match s with | i_1 => ⟨[sv 0 (cr l),sv 1 (i64 day),sv 5 (i64 i_1)],[],0⟩
def ac1 (l : (List ac)) (day : Int) (s : Unit) : St := match s with | () => ⟨[sv 4 (bl true)],[],0⟩
def Ys (l : (List ac)) (day : Int) (s : Unit) : St := match s with | () => ⟨[],[],0⟩
def Aj (l : (List ac)) (day : Int) (r : ((Unit) ⊕ (Unit))) (K : KT) : Prop := match r with | (.inl s) => K .ret (ac1 l day s) | (.inr s) => K (.exit 0) (Ys l day s)
def af0 (l : (List ac)) (day i_1 : Int) : St := ⟨[sv 0 (cr l),sv 1 (i64 day),sv 5 (i64 i_1)],[],0⟩
noncomputable def fF (l : (List ac)) (day i_1 : Int) : Option ((Int) ⊕ ((Unit) ⊕ (Unit))) := (bif (decide (i_1 < (l.length : Int))) then gd (0 ≤ i_1 ∧ i_1 < (l.length : Int)) (gd (((decide ((l.getD (Int.toNat i_1) aF).From ≤ day)) && true) = true → 0 ≤ i_1) (gd (((decide ((l.getD (Int.toNat i_1) aF).From ≤ day)) && true) = true → i_1 < (l.length : Int)) (gd (((bif (decide ((l.getD (Int.toNat i_1) aF).From ≤ day)) then (decide (day < (l.getD (Int.toNat i_1) aF).To)) else false) && true) = true → (eL day).isSome = true) ((bif (bif (bif (decide ((l.getD (Int.toNat i_1) aF).From ≤ day)) then (decide (day < (l.getD (Int.toNat i_1) aF).To)) else false) then ((eL day).getD false) else false) then (some (Sum.inr (Sum.inl ()))) else (some (Sum.inl (ak (i_1 + 1))))))))) else (some (Sum.inr (Sum.inr ()))))
theorem ZI {l : (List ac)} {day i_1 : Int} {K : KT} (h : W (fF l day i_1) (nE (HZ l day) (Aj l day) K)) : ah Tryz.prog 32 (List.drop 0 Xo) K (af0 l day i_1) :=
  ah.qE mixed [e28] [0,1,4,5,20,21,22,23,24,25,26,29,30] 0 4 (.nx (fun K => let a1_ := decide ((l.getD (Int.toNat i_1) aF).From ≤ day); let a2_ := bif a1_ then (decide (day < (l.getD (Int.toNat i_1) aF).To)) else false; (bif (decide (i_1 < (l.length : Int))) then (0 ≤ i_1) ∧ (i_1 < (l.length : Int)) ∧ ((a1_ && true) = true → 0 ≤ i_1) ∧ ((a1_ && true) = true → i_1 < (l.length : Int)) ∧ ((a2_ && true) = true → (eL day).isSome = true) ∧ ((bif (bif a2_ then ((eL day).getD false) else false) then wK K .ret (⟨[sv 0 (cr l),sv 1 (i64 day),sv 4 (bl true),sv 5 (i64 i_1),un 20,un 21,un 22,un 23,un 24,un 25,un 26,un 29,un 30],[],0⟩) else wK K .normal (⟨[sv 0 (cr l),sv 1 (i64 day),sv 5 (i64 (ak (i_1 + 1))),un 20,un 21,un 22,un 23,un 24,un 25,un 26,un 29,un 30],[],0⟩))) else wK K (.exit 0) (⟨[sv 0 (cr l),sv 1 (i64 day),sv 5 (i64 i_1)],[],0⟩))) (al h (fun _ h => (aT h fun _ h => (bF h fun _ h => (bF h fun _ h => (bF h fun _ h => (al h (fun _ h => (lf h (.cn [4]))) (fun _ h => (lf h (.cn [0,1,5]))))))))) (fun _ h => (lf h (.cn [])))))
noncomputable def kV (l : (List ac)) (day : Int) (s : (Int)) : Option ((Int) ⊕ ((Unit) ⊕ (Unit))) := match s with | i_1 => fF l day i_1
theorem abm (l : (List ac)) (day : Int) (s : (Int)) : Pp Tryz.prog 32 (List.drop 0 Xo) (HZ l day s) (kV l day s) (cq (HZ l day) (Aj l day)) := fun K h => match s,h with | i_1,h => (ZI h)
theorem P0 (l : (List ac)) (day : Int) : ∀ (r : ((Unit) ⊕ (Unit))) (J : St → Prop) (K : KT),Aj l day r K → Aj l day r (aM J K)
  | (.inl s),_,_,h => h
  | (.inr s),_,_,h => h
def Ut : St := ⟨[],[],0⟩
noncomputable def ya : Option (Bool) := (some false)
theorem abf {K : KT} (h : W (ya) (rE JM K)) : ah Tryz.prog 32 (List.drop 3 wY) K (Ut) :=
  ah.qE mixed [] [4] 3 2 (.nx (fun K => wK K .ret (JM false)) (l0 h))
def Ua (l : (List ac)) (day : Int) : St := ⟨[sv 0 (cr l),sv 1 (i64 day),sv 5 (i64 0)],[],0⟩
noncomputable def o5 (l : (List ac)) (day : Int) (r : ((Unit) ⊕ (Unit))) : Option (Bool) := match r with | (.inl ()) => (some true) | (.inr ()) => ya
noncomputable def yx (l : (List ac)) (day : Int) : Option (Bool) := (aN (kV l day) 0).bind (o5 l day)
theorem ac9 : List.drop 2 wY = .block 0 (.loop (aj (aj (aQ wY 2)))) :: List.drop 3 wY := by kernel_rfl
theorem aiR (l : (List ac)) (day : Int) (K : KT) : ∀ r : ((Unit) ⊕ (Unit)),W (o5 l day r) (rE JM K) → Aj l day r (wK (bg 0 (aM (ah Tryz.prog 32 (List.drop 3 wY) K) K)))
  | (.inl ()),h => ⟨(JM true),(.refl _),h⟩
  | (.inr ()),h => ⟨(Ut),(.refl _),(abf h)⟩
theorem adj {l : (List ac)} {day : Int} {K : KT} (h : W (yx l day) (rE JM K)) : ah Tryz.prog 32 (List.drop 2 wY) K (Ua l day) :=
  ah.at_ ac9 (ah.cons_loop (aE.weak (aE.ent (.refl _) (aE.loopF (x := aj (aj (aQ wY 2))) (f := kV l day) (emb := HZ l day) (E := Aj l day) (abm l day) (P0 l day) (bT h (aiR l day K))))))
def agN (l : (List ac)) (day : Int) : St := ⟨[sv 0 (cr l),sv 1 (i64 day)],[],0⟩
noncomputable def xw (l : (List ac)) (day : Int) : Option (Bool) := (yx l day)
theorem acb {l : (List ac)} {day : Int} {K : KT} (h : W (xw l day) (rE JM K)) : ah Tryz.prog 32 (List.drop 0 wY) K (agN l day) :=
  ah.qD mixed [] [0,1,5,20,21,22,23,24,25,26,29,30] 0 2 2 (.nx (fun K => wK K .normal (Ua l day)) (l0 (adj h)))
noncomputable def ic (l : (List ac)) (day : Int) : Option (Bool) := xw l day
noncomputable def zm : bW := fK lF (aI .i64) ic false Gn
theorem HA : Meets Tryz.prog 93 zm := dp Tryz.f93 (ar Tryz.f93) [.tmp 4] 32 fun u0 u1 y h => @acb u0 u1 _ (bi.2 ⟨y,h,(cH (bl y) (VLe.rfl' _))⟩)
noncomputable abbrev e93 : FE Tryz.prog := ⟨93, .pure zm,HA⟩
noncomputable def ajU : List Code := aD (ar Tryz.f94)
def Of (x_1 : (List ac)) : bS := .own true 36 2 (x_1).length (bf bs aF x_1)
def akP (x_1 : (List ac)) : St := ⟨[sv 4 (.row 0 2 0 x_1.length)],[(bn 0 36 x_1)],1⟩
def aje (l : (List ac)) (s_1 : ac) : St := ⟨[sv 0 (cr l),sv 1 (.ag (bs s_1))],[],0⟩
noncomputable def uO (l : (List ac)) (s_1 : ac) : Option ((List ac)) := gd (((decide (0 < (l.length : Int))) && true) = true → 0 ≤ (ak ((l.length : Int) - 1))) (gd (((decide (0 < (l.length : Int))) && true) = true → (ak ((l.length : Int) - 1)) < (l.length : Int)) ((bif (bif (decide (0 < (l.length : Int))) then ((l.getD (Int.toNat (ak ((l.length : Int) - 1))) aF).To == s_1.From) else false) then gd (cL l.length 16) (gd (0 ≤ (ak ((l.length : Int) - 1)) ∧ (ak ((l.length : Int) - 1)) < (l.length : Int)) ((some (l.set (0 + (Int.toNat (ak ((l.length : Int) - 1)))) (ac.mk (l.getD (0 + (Int.toNat (ak ((l.length : Int) - 1)))) aF).From s_1.To))))) else gd (cL l.length 16) (gd (cL (l.length + 1) 16) ((some (l ++ ([s_1] : List ac))))))))
theorem Z9 {l : (List ac)} {s_1 : ac} {K : KT} (h : W (uO l s_1) (rE akP K)) : ah Tryz.prog 37 (List.drop 0 ajU) K (aje l s_1) :=
  ah.qE mixed [] [4] 0 6 (.nx (fun K => let a1_ := ak ((l.length : Int) - 1); let a2_ := decide (0 < (l.length : Int)); let a3_ := l.length * 16 ≤ 140737488355328; let a4_ := l.length ≤ 140737488355328; ((a2_ && true) = true → 0 ≤ a1_) ∧ ((a2_ && true) = true → a1_ < (l.length : Int)) ∧ ((bif (bif a2_ then ((l.getD (Int.toNat a1_) aF).To == s_1.From) else false) then a3_ ∧ a4_ ∧ ((0 ≤ a1_) ∧ (a1_ < (l.length : Int)) ∧ (wK K .ret (⟨[sv 4 (.row 0 2 0 l.length)],[(0,some (.row 36 2 l.length (fun q => bif Nat.beq q (0 + (Int.toNat a1_)) then (bs (ac.s_To (l.getD (0 + (Int.toNat a1_)) aF) s_1.To)) else (cx l) q)))],1⟩))) else a3_ ∧ a4_ ∧ (l.length = l.length) ∧ ((l.length + 1) * 16 ≤ 140737488355328) ∧ ((l.length + 1) ≤ 140737488355328) ∧ (wK K .ret (⟨[sv 4 (.row 0 2 0 (l.length + 1))],[(0,some (.row 36 2 (l.length + 1) (fun i => bif Nat.blt i l.length then (cx l) i else (fun i => (dw 2 (bs s_1)) (0 + i)) (i - l.length))))],1⟩))))) (bF h fun _ h => (bF h fun _ h => (al h (fun _ h => (aT h fun _ h => (aT h fun _ h => (lf h (.of (.cons rfl (.rown (uA rfl)) .nil) (.row rfl (ai.set .b (0 + (Int.toNat (ak ((l.length : Int) - 1)))) (ac.s_To (l.getD (0 + (Int.toNat (ak ((l.length : Int) - 1)))) aF) s_1.To) rfl) .nil rfl) rfl))))) (fun _ h => (aT h fun _ h => ⟨rfl,(aT h fun _ h => (lf h (.of (.cons rfl (.rown (ce rfl rfl)) .nil) (.row rfl (ai.app .b (ai.zero (ai.l1 (enc := bs) (z := aF) 2 s_1 rfl))) .nil rfl) rfl)))⟩))))))
noncomputable def C1 (l : (List ac)) (s_1 : ac) : Option ((List ac)) := uO l s_1
noncomputable def Ij : bW := fK lF AA C1 ([] : List ac) Of
theorem OF : Meets Tryz.prog 94 Ij := dp Tryz.f94 (ar Tryz.f94) [.tmp 4] 37 fun u0 u1 y h => @Z9 u0 u1 _ (bi.2 ⟨y,h,(cH (.row 0 2 0 y.length) (⟨_,_,_,rfl,rfl,rfl,fun _ _ => rfl,fun _ i hi d hd => lJ _ d hd⟩))⟩)
noncomputable abbrev e94 : FE Tryz.prog := ⟨94, .pure Ij,OF⟩
noncomputable def uQ : List Code := aD (ar Tryz.f75)
noncomputable def Qz : List Code := aD (aj (aj (aQ uQ 4)))
def Hs (x_1 : (List ac)) : bS := .own true 36 2 (x_1).length (bf bs aF x_1)
def Nc (x_1 : (List ac)) : St := ⟨[sv 6 (.row 0 2 0 x_1.length)],[(bn 0 36 x_1)],1⟩
def HU (a b : (List ac)) (kind : Int) (e_1 : (List Int)) (s : ((List ac) × Int)) : St := match s with | (out_1,i_1) => ⟨[sv 0 (cr a),sv 1 (cr b),sv 2 (i64 kind),sv 7 (.row 0 1 0 e_1.length),sv 8 (.row 1 2 0 out_1.length),sv 9 (i64 i_1)],[(dO 0 3 e_1),(bn 1 36 out_1)],2⟩
def Yi (a b : (List ac)) (kind : Int) (e_1 : (List Int)) (s : (List ac)) : St := match s with | out_2 => ⟨[sv 8 (.row 0 2 0 out_2.length)],[(bn 0 36 out_2)],1⟩
def AP (a b : (List ac)) (kind : Int) (e_1 : (List Int)) (r : (((List ac)))) (K : KT) : Prop := match r with | s => K (.exit 0) (Yi a b kind e_1 s)
def T7 (a b : (List ac)) (kind : Int) (e_1 : (List Int)) (out_1 : (List ac)) (i_1 : Int) : St := ⟨[sv 0 (cr a),sv 1 (cr b),sv 2 (i64 kind),sv 7 (.row 0 1 0 e_1.length),sv 8 (.row 1 2 0 out_1.length),sv 9 (i64 i_1)],[(dO 0 3 e_1),(bn 1 36 out_1)],2⟩
noncomputable def iT (a b : (List ac)) (kind : Int) (e_1 : (List Int)) (out_1 : (List ac)) (i_1 : Int) : Option (((List ac) × Int) ⊕ (((List ac)))) := (bif (decide ((ak (i_1 + 1)) < (e_1.length : Int))) then gd (0 ≤ i_1 ∧ i_1 < (e_1.length : Int)) ((ic a (e_1.getD (0 + (Int.toNat i_1)) (0 : Int))).bind fun r_2 => (gd (0 ≤ i_1 ∧ i_1 < (e_1.length : Int)) ((ic b (e_1.getD (0 + (Int.toNat i_1)) (0 : Int))).bind fun r_3 => ((bif (bif (bif (bif (bif (kind == 1) then r_2 else false) then r_3 else false) then true else (bif (kind == 2) then (bif r_2 then true else r_3) else false)) then true else (bif (bif (kind == 3) then r_2 else false) then (!r_3) else false)) then gd (0 ≤ i_1 ∧ i_1 < (e_1.length : Int)) (gd (0 ≤ (ak (i_1 + 1)) ∧ (ak (i_1 + 1)) < (e_1.length : Int)) ((C1 out_1 (ac.mk (e_1.getD (0 + (Int.toNat i_1)) (0 : Int)) (e_1.getD (0 + (Int.toNat (ak (i_1 + 1)))) (0 : Int)))).bind fun r_4 => ((some (Sum.inl (r_4,(ak (i_1 + 1)))))))) else (some (Sum.inl (out_1,(ak (i_1 + 1)))))))))) else (some (Sum.inr out_1)))
theorem YQ (a b : (List ac)) (kind : Int) (e_1 : (List Int)) (out_1 : (List ac)) (i_1 : Int) (K : KT) {L1_ : List ac} (hL1_ : lst cd a.length (cx a) = L1_) {L2_ : List ac} (hL2_ : lst cd b.length (cx b) = L2_) {L3_ : List ac} (hL3_ : lst cd out_1.length (fun i => (cx out_1) (0 + i)) = L3_) :
    ev Tryz.prog (cy [e93,e94]) 77 (ofItems ((List.drop 0 Qz).take 4)) (cN [0,1,2,7,8,9,38,41,44,45,46,47,48,49,50,51,54,55,56,57,58,59,60,61,62] K) (T7 a b kind e_1 out_1 i_1) =
    (let a1_ := e_1.getD (0 + (Int.toNat i_1)) (0 : Int); let a2_ := C1 L3_ (ac.mk a1_ (e_1.getD (0 + (Int.toNat (ak (i_1 + 1)))) (0 : Int))); let a3_ := (ic L1_ a1_).getD false; let a4_ := (ic L2_ a1_).getD false; let a5_ := (e_1.length : Int); (bif (decide ((ak (i_1 + 1)) < a5_)) then (0 ≤ i_1) ∧ (i_1 < a5_) ∧ (mE a) ∧ ((ic L1_ a1_).isSome = true) ∧ (0 ≤ i_1) ∧ (i_1 < a5_) ∧ (mE b) ∧ ((ic L2_ a1_).isSome = true) ∧ ((bif (bif (bif (bif (bif (kind == 1) then a3_ else false) then a4_ else false) then true else (bif (kind == 2) then (bif a3_ then true else a4_) else false)) then true else (bif (bif (kind == 3) then a3_ else false) then (!a4_) else false)) then (0 ≤ i_1) ∧ (i_1 < a5_) ∧ (0 ≤ (ak (i_1 + 1))) ∧ ((ak (i_1 + 1)) < a5_) ∧ (bk bs cd 2 2 out_1.length (fun i => (cx out_1) (0 + i))) ∧ (a2_.isSome = true) ∧ (wK K .normal (⟨[sv 0 (cr a),sv 1 (cr b),sv 2 (i64 kind),sv 7 (.row 0 1 0 e_1.length),sv 8 (.row 1 2 0 ((a2_.getD [])).length),sv 9 (i64 (ak (i_1 + 1))),un 38,un 41,un 44,un 45,un 46,un 47,un 48,un 49,un 50,un 51,un 54,un 55,un 56,un 57,un 58,un 59,un 60,un 61,un 62],[(dO 0 3 e_1),(bn 1 36 (a2_.getD []))],2⟩)) else wK K .normal (⟨[sv 0 (cr a),sv 1 (cr b),sv 2 (i64 kind),sv 7 (.row 0 1 0 e_1.length),sv 8 (.row 1 2 0 out_1.length),sv 9 (i64 (ak (i_1 + 1))),un 38,un 41,un 44,un 45,un 46,un 47,un 48,un 49,un 50,un 51,un 54,un 55,un 56,un 57,un 58,un 59,un 60,un 61,un 62],[(dO 0 3 e_1),(bn 1 36 out_1)],2⟩))) else wK K (.exit 0) (⟨[sv 0 (cr a),sv 1 (cr b),sv 2 (i64 kind),sv 7 (.row 0 1 0 e_1.length),sv 8 (.row 1 2 0 out_1.length),sv 9 (i64 i_1)],[(dO 0 3 e_1),(bn 1 36 out_1)],2⟩))) := by subst hL1_ hL2_ hL3_; kernel_rfl
theorem afs {a b : (List ac)} {kind : Int} {e_1 : (List Int)} {out_1 : (List ac)} {i_1 : Int} {K : KT} (h : W (iT a b kind e_1 out_1 i_1) (nE (HU a b kind e_1) (AP a b kind e_1) K)) : ah Tryz.prog 77 (List.drop 0 Qz) K (T7 a b kind e_1 out_1 i_1) :=
  ah.qE mixed [e93,e94] [0,1,2,7,8,9,38,41,44,45,46,47,48,49,50,51,54,55,56,57,58,59,60,61,62] 0 4 (.of (YQ a b kind e_1 out_1 i_1 _ (lb aW) (lb aW) (lr aW (ai.zero .b))) (al h (fun _ h => (aT h fun _ h => ⟨kb aW,(aq false h fun _ h => (aT h fun _ h => ⟨kb aW,(aq false h fun _ h => (al h (fun _ h => (aT h fun _ h => (aT h fun _ h => ⟨ai.ok aW (ai.zero .b),(aq [] h fun _ h => (lf h (.cn [0,1,2,7,8,9])))⟩))) (fun _ h => (lf h (.cn [0,1,2,7,8,9])))))⟩))⟩)) (fun _ h => (lf h (.cn [8])))))
noncomputable def jN (a b : (List ac)) (kind : Int) (e_1 : (List Int)) (s : ((List ac) × Int)) : Option (((List ac) × Int) ⊕ (((List ac)))) := match s with | (out_1,i_1) => iT a b kind e_1 out_1 i_1
theorem aa8 (a b : (List ac)) (kind : Int) (e_1 : (List Int)) (s : ((List ac) × Int)) : Pp Tryz.prog 77 (List.drop 0 Qz) (HU a b kind e_1 s) (jN a b kind e_1 s) (cq (HU a b kind e_1) (AP a b kind e_1)) := fun K h => match s,h with | (out_1,i_1),h => (afs h)
theorem Ql (a b : (List ac)) (kind : Int) (e_1 : (List Int)) : ∀ (r : (((List ac)))) (J : St → Prop) (K : KT),AP a b kind e_1 r K → AP a b kind e_1 r (aM J K)
  | s,_,_,h => h
def SJ (out_3 : (List ac)) : St := ⟨[sv 8 (.row 0 2 0 out_3.length)],[(bn 0 36 out_3)],1⟩
noncomputable def yP (out_3 : (List ac)) : Option ((List ac)) := (some out_3)
theorem abU {out_3 : (List ac)} {K : KT} (h : W (yP out_3) (rE Nc K)) : ah Tryz.prog 77 (List.drop 5 uQ) K (SJ out_3) :=
  ah.qE mixed [] [6] 5 2 (.nx (fun K => wK K .ret (Nc out_3)) (l0 h))
def Ve (a b : (List ac)) (kind : Int) (e_1 : (List Int)) : St := ⟨[sv 0 (cr a),sv 1 (cr b),sv 2 (i64 kind),sv 7 (.row 0 1 0 e_1.length),sv 8 (.c .nil),sv 9 (i64 0)],[(dO 0 3 e_1)],1⟩
noncomputable def wx (a b : (List ac)) (kind : Int) (e_1 : (List Int)) (r : (((List ac)))) : Option ((List ac)) := match r with | out_2 => (yP out_2)
noncomputable def zy (a b : (List ac)) (kind : Int) (e_1 : (List Int)) : Option ((List ac)) := (aN (jN a b kind e_1) (([] : List ac),0)).bind (wx a b kind e_1)
theorem abu : List.drop 4 uQ = .block 0 (.loop (aj (aj (aQ uQ 4)))) :: List.drop 5 uQ := by kernel_rfl
theorem agE (a b : (List ac)) (kind : Int) (e_1 : (List Int)) (K : KT) : ∀ r : (((List ac))),W (wx a b kind e_1 r) (rE Nc K) → AP a b kind e_1 r (wK (bg 0 (aM (ah Tryz.prog 77 (List.drop 5 uQ) K) K)))
  | out_2,h => ⟨(SJ out_2),(.refl _),(abU h)⟩
theorem abt {a b : (List ac)} {kind : Int} {e_1 : (List Int)} {K : KT} (h : W (zy a b kind e_1) (rE Nc K)) : ah Tryz.prog 77 (List.drop 4 uQ) K (Ve a b kind e_1) :=
  ah.at_ abu (ah.cons_loop (aE.weak (aE.ent (.trans (.nilrow 8 1 36 2 (bf bs aF []) (Nat.le_of_ble_eq_true rfl) rfl) (.cn [0,1,2,7,8,9])) (aE.loopF (x := aj (aj (aQ uQ 4))) (f := jN a b kind e_1) (emb := HU a b kind e_1) (E := AP a b kind e_1) (aa8 a b kind e_1) (Ql a b kind e_1) (bT h (agE a b kind e_1 K))))))
def Sz (a b : (List ac)) (kind : Int) : St := ⟨[sv 0 (cr a),sv 1 (cr b),sv 2 (i64 kind)],[],0⟩
noncomputable def y0 (a b : (List ac)) (kind : Int) : Option ((List ac)) := (pI ([a,b] : List (List ac))).bind fun r_1 => ((zy a b kind r_1))
theorem ads (a b : (List ac)) (kind : Int) (K : KT) {L1_ : List (List ac)} (hL1_ : lst xx 2 (fun i => (fun i => (List.take 1 (List.drop (i * 1) [(.sl 2 a.length (cx a)),(.sl 2 b.length (cx b))]))) (0 + i)) = L1_) :
    ev Tryz.prog (cy [e92]) 77 (ofItems ((List.drop 0 uQ).take 4)) (cN [0,1,2,7,8,9,38,41,44,45,46,47,48,49,50,51,54,55,56,57,58,59,60,61,62] K) (Sz a b kind) =
    ((bk xH xx 1 1 2 (fun i => (fun i => (List.take 1 (List.drop (i * 1) [(.sl 2 a.length (cx a)),(.sl 2 b.length (cx b))]))) (0 + i))) ∧ ((pI L1_).isSome = true) ∧ (wK K .normal (Ve a b kind ((pI L1_).getD [])))) := by subst hL1_; kernel_rfl
theorem aeE {a b : (List ac)} {kind : Int} {K : KT} (h : W (y0 a b kind) (rE Nc K)) : ah Tryz.prog 77 (List.drop 0 uQ) K (Sz a b kind) :=
  ah.qD mixed [e92] [0,1,2,7,8,9,38,41,44,45,46,47,48,49,50,51,54,55,56,57,58,59,60,61,62] 0 4 4 (.of (ads a b kind _ (lr wq (ai.zero (ai.lits (el := (fun i => (List.take 1 (List.drop (i * 1) [(.sl 2 a.length (cx a)),(.sl 2 b.length (cx b))])))) (z := ([] : List ac)) (l := ([a,b] : List (List ac))) ⟨rfl,rfl,trivial⟩)))) (⟨ai.ok wq (ai.zero (ai.lits (el := (fun i => (List.take 1 (List.drop (i * 1) [(.sl 2 a.length (cx a)),(.sl 2 b.length (cx b))])))) (z := ([] : List ac)) (l := ([a,b] : List (List ac))) ⟨rfl,rfl,trivial⟩)),(aq [] h fun _ h => (l0 (abt h)))⟩))
noncomputable def gY (a b : (List ac)) (kind : Int) : Option ((List ac)) := y0 a b kind
noncomputable def Aq : bW := xt lF lF (aI .i64) gY ([] : List ac) Hs
theorem Il : Meets Tryz.prog 75 Aq := sG Tryz.f75 (ar Tryz.f75) [.tmp 6] 77 fun u0 u1 u2 y h => @aeE u0 u1 u2 _ (bi.2 ⟨y,h,(cH (.row 0 2 0 y.length) (⟨_,_,_,rfl,rfl,rfl,fun _ _ => rfl,fun _ i hi d hd => lJ _ d hd⟩))⟩)
noncomputable abbrev WL : FE Tryz.prog := ⟨75, .pure Aq,Il⟩
noncomputable def W0 : List Code := aD (ar Tryz.f60)
def LR (x_1 : (List ac)) : bS := .own true 36 2 (x_1).length (bf bs aF x_1)
def aiF (x_1 : (List ac)) : St := ⟨[sv 4 (.row 0 2 0 x_1.length)],[(bn 0 36 x_1)],1⟩
def UJ (l : (List ac)) (s_1 : ac) : St := ⟨[sv 0 (cr l),sv 1 (.ag (bs s_1))],[],0⟩
noncomputable def Ea (l : (List ac)) (s_1 : ac) : Option ((List ac)) := (gY l ([s_1] : List ac) 1).bind fun r_1 => ((some r_1))
theorem adi (l : (List ac)) (s_1 : ac) (K : KT) {L1_ : List ac} (hL1_ : lst cd l.length (cx l) = L1_) {L2_ : List ac} (hL2_ : lst cd 1 (fun i => (dw 2 (bs s_1)) (0 + i)) = L2_) :
    ev Tryz.prog (cy [WL]) 9 (ofItems ((List.drop 0 W0).take 3)) (cN [4] K) (UJ l s_1) =
    ((mE l) ∧ (bk bs cd 2 2 1 (fun i => (dw 2 (bs s_1)) (0 + i))) ∧ ((gY L1_ L2_ 1).isSome = true) ∧ (wK K .ret (aiF ((gY L1_ L2_ 1).getD [])))) := by subst hL1_ hL2_; kernel_rfl
theorem acK {l : (List ac)} {s_1 : ac} {K : KT} (h : W (Ea l s_1) (rE aiF K)) : ah Tryz.prog 9 (List.drop 0 W0) K (UJ l s_1) :=
  ah.qE mixed [WL] [4] 0 3 (.of (adi l s_1 _ (lb aW) (lr aW (ai.zero (ai.l1 (enc := bs) (z := aF) 2 s_1 rfl)))) (⟨kb aW,⟨ai.ok aW (ai.zero (ai.l1 (enc := bs) (z := aF) 2 s_1 rfl)),(aq [] h fun _ h => (l0 h))⟩⟩))
noncomputable def sk (l : (List ac)) (s_1 : ac) : Option ((List ac)) := Ea l s_1
noncomputable def GJ : bW := fK lF AA sk ([] : List ac) LR
theorem NJ : Meets Tryz.prog 60 GJ := dp Tryz.f60 (ar Tryz.f60) [.tmp 4] 9 fun u0 u1 y h => @acK u0 u1 _ (bi.2 ⟨y,h,(cH (.row 0 2 0 y.length) (⟨_,_,_,rfl,rfl,rfl,fun _ _ => rfl,fun _ i hi d hd => lJ _ d hd⟩))⟩)
noncomputable abbrev e60 : FE Tryz.prog := ⟨60, .pure GJ,NJ⟩
noncomputable def W5 : List Code := aD (ar Tryz.f74)
def Fv (x_1 : (List ac)) : bS := .own true 36 2 (x_1).length (bf bs aF x_1)
def afG (x_1 : (List ac)) : St := ⟨[sv 2 (.row 0 2 0 x_1.length)],[(bn 0 36 x_1)],1⟩
def Uv (l : (List ac)) : St := ⟨[sv 0 (cr l)],[],0⟩
noncomputable def wz (l : (List ac)) : Option ((List ac)) := (gY l ([] : List ac) 2).bind fun r_1 => ((some r_1))
theorem ZE (l : (List ac)) (K : KT) {L1_ : List ac} (hL1_ : lst cd l.length (cx l) = L1_) {L2_ : List ac} (hL2_ : lst cd 0 (fun _ => []) = L2_) :
    ev Tryz.prog (cy [WL]) 5 (ofItems ((List.drop 0 W5).take 3)) (cN [2] K) (Uv l) =
    ((mE l) ∧ (bk bs cd 2 0 0 (fun _ => [])) ∧ ((gY L1_ L2_ 2).isSome = true) ∧ (wK K .ret (afG ((gY L1_ L2_ 2).getD [])))) := by subst hL1_ hL2_; kernel_rfl
theorem aaK {l : (List ac)} {K : KT} (h : W (wz l) (rE afG K)) : ah Tryz.prog 5 (List.drop 0 W5) K (Uv l) :=
  ah.qE mixed [WL] [2] 0 3 (.of (ZE l _ (lb aW) (lr aW (ai.nil bs aF _))) (⟨kb aW,⟨ai.okN aW (ai.nil bs aF _),(aq [] h fun _ h => (l0 h))⟩⟩))
noncomputable def kG (l : (List ac)) : Option ((List ac)) := wz l
noncomputable def yp : bW := fO lF kG ([] : List ac) Fv
theorem Gl : Meets Tryz.prog 74 yp := dq Tryz.f74 (ar Tryz.f74) [.tmp 2] 5 fun u0 y h => @aaK u0 _ (bi.2 ⟨y,h,(cH (.row 0 2 0 y.length) (⟨_,_,_,rfl,rfl,rfl,fun _ _ => rfl,fun _ i hi d hd => lJ _ d hd⟩))⟩)
noncomputable abbrev e74 : FE Tryz.prog := ⟨74, .pure yp,Gl⟩
noncomputable def u6 : List Code := aD (ar Tryz.f59)
noncomputable def XB : List Code := aD (aj (aj (aQ u6 4)))
def LS (x_1 : Int) : bS := .data (i64 x_1)
def MA (x_1 : Int) : St := ⟨[sv 2 (i64 x_1)],[],0⟩
def Fo (m : (List ac)) (s : (Int × Int)) : St := match s with | (n,i_1) => ⟨[sv 3 (i64 n),sv 4 (.row 0 2 0 m.length),sv 5 (i64 i_1)],[(bn 0 36 m)],1⟩
def ae2 (m : (List ac)) (s : Int) : St := match s with | n_1 => ⟨[sv 3 (i64 n_1)],[],0⟩
def Ba (m : (List ac)) (r : ((Int))) (K : KT) : Prop := match r with | s => K (.exit 0) (ae2 m s)
def ajo (n : Int) (m : (List ac)) (i_1 : Int) : St := ⟨[sv 3 (i64 n),sv 4 (.row 0 2 0 m.length),sv 5 (i64 i_1)],[(bn 0 36 m)],1⟩
noncomputable def mM (n : Int) (m : (List ac)) (i_1 : Int) : Option ((Int × Int) ⊕ ((Int))) := (bif (decide (i_1 < (m.length : Int))) then gd (0 ≤ i_1 ∧ i_1 < (m.length : Int)) (gd (0 ≤ i_1 ∧ i_1 < (m.length : Int)) ((some (Sum.inl ((ak (n + (ak ((m.getD (0 + (Int.toNat i_1)) aF).To - (m.getD (0 + (Int.toNat i_1)) aF).From)))),(ak (i_1 + 1))))))) else (some (Sum.inr n)))
theorem adC {n : Int} {m : (List ac)} {i_1 : Int} {K : KT} (h : W (mM n m i_1) (nE (Fo m) (Ba m) K)) : ah Tryz.prog 28 (List.drop 0 XB) K (ajo n m i_1) :=
  ah.qE mixed [] [3,4,5] 0 4 (.nx (fun K => let a1_ := i_1 < (m.length : Int); let a2_ := m.getD (0 + (Int.toNat i_1)) aF; (bif (decide a1_) then (0 ≤ i_1) ∧ a1_ ∧ (0 ≤ i_1) ∧ a1_ ∧ (wK K .normal (Fo m ((ak (n + (ak (a2_.To - a2_.From)))),(ak (i_1 + 1))))) else wK K (.exit 0) (⟨[sv 3 (i64 n),sv 4 (.row 0 2 0 m.length),sv 5 (i64 i_1)],[(bn 0 36 m)],1⟩))) (al h (fun _ h => (aT h fun _ h => (aT h fun _ h => (l0 h)))) (fun _ h => (lf h (.cn [3])))))
noncomputable def mJ (m : (List ac)) (s : (Int × Int)) : Option ((Int × Int) ⊕ ((Int))) := match s with | (n,i_1) => mM n m i_1
theorem YB (m : (List ac)) (s : (Int × Int)) : Pp Tryz.prog 28 (List.drop 0 XB) (Fo m s) (mJ m s) (cq (Fo m) (Ba m)) := fun K h => match s,h with | (n,i_1),h => (adC h)
theorem P5 (m : (List ac)) : ∀ (r : ((Int))) (J : St → Prop) (K : KT),Ba m r K → Ba m r (aM J K)
  | s,_,_,h => h
def Ts (n_2 : Int) : St := ⟨[sv 3 (i64 n_2)],[],0⟩
noncomputable def En (n_2 : Int) : Option (Int) := (some n_2)
theorem Y5 {n_2 : Int} {K : KT} (h : W (En n_2) (rE MA K)) : ah Tryz.prog 28 (List.drop 5 u6) K (Ts n_2) :=
  ah.qE mixed [] [2] 5 2 (.nx (fun K => wK K .ret (MA n_2)) (l0 h))
def Tp (m : (List ac)) : St := ⟨[sv 3 (i64 0),sv 4 (.row 0 2 0 m.length),sv 5 (i64 0)],[(bn 0 36 m)],1⟩
noncomputable def Bv (m : (List ac)) (r : ((Int))) : Option (Int) := match r with | n_1 => (En n_1)
noncomputable def Ej (m : (List ac)) : Option (Int) := (aN (mJ m) (0,0)).bind (Bv m)
theorem Ye : List.drop 4 u6 = .block 0 (.loop (aj (aj (aQ u6 4)))) :: List.drop 5 u6 := by kernel_rfl
theorem agb (m : (List ac)) (K : KT) : ∀ r : ((Int)),W (Bv m r) (rE MA K) → Ba m r (wK (bg 0 (aM (ah Tryz.prog 28 (List.drop 5 u6) K) K)))
  | n_1,h => ⟨(Ts n_1),(.refl _),(Y5 h)⟩
theorem aaA {m : (List ac)} {K : KT} (h : W (Ej m) (rE MA K)) : ah Tryz.prog 28 (List.drop 4 u6) K (Tp m) :=
  ah.at_ Ye (ah.cons_loop (aE.weak (aE.ent (.refl _) (aE.loopF (x := aj (aj (aQ u6 4))) (f := mJ m) (emb := Fo m) (E := Ba m) (YB m) (P5 m) (bT h (agb m K))))))
def TW (l : (List ac)) : St := ⟨[sv 0 (cr l)],[],0⟩
noncomputable def Fm (l : (List ac)) : Option (Int) := (kG l).bind fun r_1 => ((Ej r_1))
theorem acA (l : (List ac)) (K : KT) {L1_ : List ac} (hL1_ : lst cd l.length (cx l) = L1_) :
    ev Tryz.prog (cy [e74]) 28 (ofItems ((List.drop 0 u6).take 4)) (cN [3,4,5] K) (TW l) =
    ((mE l) ∧ ((kG L1_).isSome = true) ∧ (wK K .normal (Tp ((kG L1_).getD [])))) := by subst hL1_; kernel_rfl
theorem ado {l : (List ac)} {K : KT} (h : W (Fm l) (rE MA K)) : ah Tryz.prog 28 (List.drop 0 u6) K (TW l) :=
  ah.qD mixed [e74] [3,4,5] 0 4 4 (.of (acA l _ (lb aW)) (⟨kb aW,(aq [] h fun _ h => (l0 (aaA h)))⟩))
noncomputable def vz (l : (List ac)) : Option (Int) := Fm l
noncomputable def G3 : bW := fO lF vz (0 : Int) LS
theorem M6 : Meets Tryz.prog 59 G3 := dq Tryz.f59 (ar Tryz.f59) [.tmp 2] 28 fun u0 y h => @ado u0 _ (bi.2 ⟨y,h,(cH (i64 y) (VLe.rfl' _))⟩)
noncomputable abbrev e59 : FE Tryz.prog := ⟨59, .pure G3,M6⟩
noncomputable def vn : List Code := aD (ar Tryz.f32)
noncomputable def Xs : List Code := aD (aj (aj (aQ vn 3)))
def F7 (x_1 : Int) : bS := .data (i64 x_1)
def M5 (x_1 : Int) : St := ⟨[sv 8 (i64 x_1)],[],0⟩
def IA (l : (List aa)) (person spouse day : Int) (s : ((List ac) × Int)) : St := match s with | (s_1,i_1) => ⟨[sv 0 (aH l),sv 1 (i64 person),sv 2 (i64 spouse),sv 3 (i64 day),sv 9 (.row 0 2 0 s_1.length),sv 10 (i64 i_1)],[(bn 0 36 s_1)],1⟩
def Zo (l : (List aa)) (person spouse day : Int) (s : (List ac)) : St := match s with | s_2 => ⟨[sv 3 (i64 day),sv 9 (.row 0 2 0 s_2.length)],[(bn 0 36 s_2)],1⟩
def BM (l : (List aa)) (person spouse day : Int) (r : (((List ac)))) (K : KT) : Prop := match r with | s => K (.exit 0) (Zo l person spouse day s)
def aiU (l : (List aa)) (person spouse day : Int) (s_1 : (List ac)) (i_1 : Int) : St := ⟨[sv 0 (aH l),sv 1 (i64 person),sv 2 (i64 spouse),sv 3 (i64 day),sv 9 (.row 0 2 0 s_1.length),sv 10 (i64 i_1)],[(bn 0 36 s_1)],1⟩
noncomputable def jq (l : (List aa)) (person spouse day : Int) (s_1 : (List ac)) (i_1 : Int) : Option (((List ac) × Int) ⊕ (((List ac)))) := (bif (decide (i_1 < (l.length : Int))) then gd (0 ≤ i_1 ∧ i_1 < (l.length : Int)) (gd ((((l.getD (Int.toNat i_1) aw).Person == person) && true) = true → 0 ≤ i_1) (gd ((((l.getD (Int.toNat i_1) aw).Person == person) && true) = true → i_1 < (l.length : Int)) (gd (((bif ((l.getD (Int.toNat i_1) aw).Person == person) then ((l.getD (Int.toNat i_1) aw).Kind == 14) else false) && true) = true → 0 ≤ i_1) (gd (((bif ((l.getD (Int.toNat i_1) aw).Person == person) then ((l.getD (Int.toNat i_1) aw).Kind == 14) else false) && true) = true → i_1 < (l.length : Int)) ((bif (bif (bif ((l.getD (Int.toNat i_1) aw).Person == person) then ((l.getD (Int.toNat i_1) aw).Kind == 14) else false) then ((l.getD (Int.toNat i_1) aw).Ref == spouse) else false) then gd (0 ≤ i_1 ∧ i_1 < (l.length : Int)) (gd (cL (s_1.length + 1) 16) ((some (Sum.inl ((s_1 ++ ([(l.getD (Int.toNat i_1) aw).Span] : List ac)),(ak (i_1 + 1))))))) else (some (Sum.inl (s_1,(ak (i_1 + 1))))))))))) else (some (Sum.inr s_1)))
theorem adF {l : (List aa)} {person spouse day : Int} {s_1 : (List ac)} {i_1 : Int} {K : KT} (h : W (jq l person spouse day s_1 i_1) (nE (IA l person spouse day) (BM l person spouse day) K)) : ah Tryz.prog 55 (List.drop 0 Xs) K (aiU l person spouse day s_1 i_1) :=
  ah.qE mixed [] [0,1,2,3,9,10,25,26,27,28,29,30,33,34,35,36,37,38,39] 0 4 (.nx (fun K => let a1_ := l.getD (Int.toNat i_1) aw; let a2_ := bif (a1_.Person == person) then (a1_.Kind == 14) else false; let a3_ := i_1 < (l.length : Int); let a4_ := (a1_.Person == person) && true; (bif (decide a3_) then (0 ≤ i_1) ∧ a3_ ∧ (a4_ = true → 0 ≤ i_1) ∧ (a4_ = true → i_1 < (l.length : Int)) ∧ ((a2_ && true) = true → 0 ≤ i_1) ∧ ((a2_ && true) = true → i_1 < (l.length : Int)) ∧ ((bif (bif a2_ then (a1_.Ref == spouse) else false) then (0 ≤ i_1) ∧ a3_ ∧ (s_1.length = s_1.length) ∧ ((s_1.length + 1) * 16 ≤ 140737488355328) ∧ ((s_1.length + 1) ≤ 140737488355328) ∧ (wK K .normal (⟨[sv 0 (aH l),sv 1 (i64 person),sv 2 (i64 spouse),sv 3 (i64 day),sv 9 (.row 0 2 0 (s_1.length + 1)),sv 10 (i64 (ak (i_1 + 1))),un 25,un 26,un 27,un 28,un 29,un 30,un 33,un 34,un 35,un 36,un 37,un 38,un 39],[(0,some (.row 36 2 (s_1.length + 1) (fun i => bif Nat.blt i s_1.length then (cx s_1) i else (fun i => (dw 2 (bs (a1_.Span))) (0 + i)) (i - s_1.length))))],1⟩)) else wK K .normal (⟨[sv 0 (aH l),sv 1 (i64 person),sv 2 (i64 spouse),sv 3 (i64 day),sv 9 (.row 0 2 0 s_1.length),sv 10 (i64 (ak (i_1 + 1))),un 25,un 26,un 27,un 28,un 29,un 30,un 33,un 34,un 35,un 36,un 37,un 38,un 39],[(bn 0 36 s_1)],1⟩))) else wK K (.exit 0) (⟨[sv 0 (aH l),sv 1 (i64 person),sv 2 (i64 spouse),sv 3 (i64 day),sv 9 (.row 0 2 0 s_1.length),sv 10 (i64 i_1)],[(bn 0 36 s_1)],1⟩))) (al h (fun _ h => (aT h fun _ h => (bF h fun _ h => (bF h fun _ h => (bF h fun _ h => (bF h fun _ h => (al h (fun _ h => (aT h fun _ h => ⟨rfl,(aT h fun _ h => (lf h (.of (.qs 4 (.cons rfl (.rown (ce rfl rfl)) (.q rfl .nil))) (.row rfl (ai.app .b (ai.zero (ai.l1 (enc := bs) (z := aF) 2 ((l.getD (Int.toNat i_1) aw).Span) rfl))) .nil rfl) rfl)))⟩)) (fun _ h => (lf h (.cn [0,1,2,3,9,10])))))))))) (fun _ h => (lf h (.cn [3,9])))))
noncomputable def iq (l : (List aa)) (person spouse day : Int) (s : ((List ac) × Int)) : Option (((List ac) × Int) ⊕ (((List ac)))) := match s with | (s_1,i_1) => jq l person spouse day s_1 i_1
theorem ae8 (l : (List aa)) (person spouse day : Int) (s : ((List ac) × Int)) : Pp Tryz.prog 55 (List.drop 0 Xs) (IA l person spouse day s) (iq l person spouse day s) (cq (IA l person spouse day) (BM l person spouse day)) := fun K h => match s,h with | (s_1,i_1),h => (adF h)
theorem P9 (l : (List aa)) (person spouse day : Int) : ∀ (r : (((List ac)))) (J : St → Prop) (K : KT),BM l person spouse day r K → BM l person spouse day r (aM J K)
  | s,_,_,h => h
def M3 (day : Int) (s_3 : (List ac)) : St := ⟨[sv 3 (i64 day),sv 9 (.row 0 2 0 s_3.length)],[(bn 0 36 s_3)],1⟩
noncomputable def m9 (day : Int) (s_3 : (List ac)) : Option (Int) := (sk s_3 (ac.mk 0 (ak (day + 1)))).bind fun r_1 => ((vz r_1).bind fun r_2 => ((some r_2)))
theorem acm (day : Int) (s_3 : (List ac)) (K : KT) {L1_ : List ac} (hL1_ : lst cd s_3.length (fun i => (cx s_3) (0 + i)) = L1_) {L2_ : List ac} (hL2_ : lst cd ((((sk L1_ (ac.mk 0 (ak (day + 1)))).getD [])).length) (fun i => (cx ((sk L1_ (ac.mk 0 (ak (day + 1)))).getD [])) (0 + i)) = L2_) :
    ev Tryz.prog (cy [e59,e60]) 55 (ofItems ((List.drop 4 vn).take 2)) (cN [8] K) (M3 day s_3) =
    (let a1_ := sk L1_ (ac.mk 0 (ak (day + 1))); (bk bs cd 2 2 s_3.length (fun i => (cx s_3) (0 + i))) ∧ (a1_.isSome = true) ∧ (bk bs cd 2 2 (((a1_.getD [])).length) (fun i => (cx (a1_.getD [])) (0 + i))) ∧ ((vz L2_).isSome = true) ∧ (wK K .ret (M5 ((vz L2_).getD 0)))) := by subst hL1_ hL2_; kernel_rfl
theorem Yf {day : Int} {s_3 : (List ac)} {K : KT} (h : W (m9 day s_3) (rE M5 K)) : ah Tryz.prog 55 (List.drop 4 vn) K (M3 day s_3) :=
  ah.qE mixed [e59,e60] [8] 4 2 (.of (acm day s_3 _ (lr aW (ai.zero .b)) (lr aW (ai.zero .b))) (⟨ai.ok aW (ai.zero .b),(aq [] h fun _ h => ⟨ai.ok aW (ai.zero .b),(aq 0 h fun _ h => (l0 h))⟩)⟩))
def TT (l : (List aa)) (person spouse day : Int) : St := ⟨[sv 0 (aH l),sv 1 (i64 person),sv 2 (i64 spouse),sv 3 (i64 day),sv 9 (.c .nil),sv 10 (i64 0)],[],0⟩
noncomputable def vL (l : (List aa)) (person spouse day : Int) (r : (((List ac)))) : Option (Int) := match r with | s_2 => (m9 day s_2)
noncomputable def yo (l : (List aa)) (person spouse day : Int) : Option (Int) := (aN (iq l person spouse day) (([] : List ac),0)).bind (vL l person spouse day)
theorem afp : List.drop 3 vn = .block 0 (.loop (aj (aj (aQ vn 3)))) :: List.drop 4 vn := by kernel_rfl
theorem afR (l : (List aa)) (person spouse day : Int) (K : KT) : ∀ r : (((List ac))),W (vL l person spouse day r) (rE M5 K) → BM l person spouse day r (wK (bg 0 (aM (ah Tryz.prog 55 (List.drop 4 vn) K) K)))
  | s_2,h => ⟨(M3 day s_2),(.refl _),(Yf h)⟩
theorem aaH {l : (List aa)} {person spouse day : Int} {K : KT} (h : W (yo l person spouse day) (rE M5 K)) : ah Tryz.prog 55 (List.drop 3 vn) K (TT l person spouse day) :=
  ah.at_ afp (ah.cons_loop (aE.weak (aE.ent (.trans (.nilrow 9 0 36 2 (bf bs aF []) (Nat.le_of_ble_eq_true rfl) rfl) (.cn [0,1,2,3,9,10])) (aE.loopF (x := aj (aj (aQ vn 3))) (f := iq l person spouse day) (emb := IA l person spouse day) (E := BM l person spouse day) (ae8 l person spouse day) (P9 l person spouse day) (bT h (afR l person spouse day K))))))
def af9 (l : (List aa)) (person spouse day : Int) : St := ⟨[sv 0 (aH l),sv 1 (i64 person),sv 2 (i64 spouse),sv 3 (i64 day)],[],0⟩
noncomputable def xR (l : (List aa)) (person spouse day : Int) : Option (Int) := (yo l person spouse day)
theorem aaz {l : (List aa)} {person spouse day : Int} {K : KT} (h : W (xR l person spouse day) (rE M5 K)) : ah Tryz.prog 55 (List.drop 0 vn) K (af9 l person spouse day) :=
  ah.qD mixed [] [0,1,2,3,9,10,25,26,27,28,29,30,33,34,35,36,37,38,39] 0 3 3 (.nx (fun K => wK K .normal (TT l person spouse day)) (l0 (aaH h)))
noncomputable def nL (l : (List aa)) (person spouse day : Int) : Option (Int) := xR l person spouse day
noncomputable def zq : bW := Kk gy (aI .i64) (aI .i64) (aI .i64) nL (0 : Int) F7
theorem Hp : Meets Tryz.prog 32 zq := Ib Tryz.f32 (ar Tryz.f32) [.tmp 8] 55 fun u0 u1 u2 u3 y h => @aaz u0 u1 u2 u3 _ (bi.2 ⟨y,h,(cH (i64 y) (VLe.rfl' _))⟩)
noncomputable abbrev e32 : FE Tryz.prog := ⟨32, .pure zq,Hp⟩
noncomputable def WE : List Code := aD (ar Tryz.f33)
def IV (x_1 : Bool) : bS := .data (bl x_1)
def aiO (x_1 : Bool) : St := ⟨[sv 6 (bl x_1)],[],0⟩
def Su (l : (List aa)) (person day : Int) : St := ⟨[sv 0 (aH l),sv 1 (i64 person),sv 2 (i64 day)],[],0⟩
noncomputable def Al (l : (List aa)) (person day : Int) : Option (Bool) := (jY l person).bind fun r_1 => ((ku r_1).bind fun r_2 => ((some (bif (!r_2.2) then true else (decide (day ≤ r_2.1))))))
theorem acq (l : (List aa)) (person day : Int) (K : KT) {L1_ : List aa} (hL1_ : lst aY l.length (be l) = L1_) {L2_ : List aa} (hL2_ : lst aY ((((jY L1_ person).getD [])).length) (fun i => (be ((jY L1_ person).getD [])) (0 + i)) = L2_) :
    ev Tryz.prog (cy [Xb,W7]) 23 (ofItems ((List.drop 0 WE).take 4)) (cN [6] K) (Su l person day) =
    (let a1_ := jY L1_ person; let a2_ := (ku L2_).getD (0,false); (lD l) ∧ (a1_.isSome = true) ∧ (bk av aY 14 14 (((a1_.getD [])).length) (fun i => (be (a1_.getD [])) (0 + i))) ∧ ((ku L2_).isSome = true) ∧ (wK K .ret (aiO (bif (!a2_.2) then true else (decide (day ≤ a2_.1)))))) := by subst hL1_ hL2_; kernel_rfl
theorem Yh {l : (List aa)} {person day : Int} {K : KT} (h : W (Al l person day) (rE aiO K)) : ah Tryz.prog 23 (List.drop 0 WE) K (Su l person day) :=
  ah.qE mixed [Xb,W7] [6] 0 4 (.of (acq l person day _ (lb au) (lr au (ai.zero .b))) (⟨kb au,(aq [] h fun _ h => ⟨ai.ok au (ai.zero .b),(aq (0,false) h fun _ h => (l0 h))⟩)⟩))
noncomputable def dQ (l : (List aa)) (person day : Int) : Option (Bool) := Al l person day
noncomputable def C7 : bW := xt gy (aI .i64) (aI .i64) dQ false IV
theorem Ks : Meets Tryz.prog 33 C7 := sG Tryz.f33 (ar Tryz.f33) [.tmp 6] 23 fun u0 u1 u2 y h => @Yh u0 u1 u2 _ (bi.2 ⟨y,h,(cH (bl y) (VLe.rfl' _))⟩)
noncomputable abbrev Pr : FE Tryz.prog := ⟨33, .pure C7,Ks⟩
noncomputable def xc : List Code := aD (ar Tryz.f34)
noncomputable def WZ : List Code := aD (aj (aj (aQ xc 2)))
def HH (x_1 : Bool) : bS := .data (bl x_1)
def JS (x_1 : Bool) : St := ⟨[sv 8 (bl x_1)],[],0⟩
def Is (l : (List aa)) (person child day : Int) (s : (Int)) : St := match s with | i_1 => ⟨[sv 0 (aH l),sv 1 (i64 person),sv 2 (i64 child),sv 3 (i64 day),sv 9 (i64 i_1)],[],0⟩
def ZD (l : (List aa)) (person child day : Int) (s : Unit) : St := match s with | () => ⟨[sv 8 (bl true)],[],0⟩
def aam (l : (List aa)) (person child day : Int) (s : Unit) : St := match s with | () => ⟨[],[],0⟩
def Bn (l : (List aa)) (person child day : Int) (r : ((Unit) ⊕ (Unit))) (K : KT) : Prop := match r with | (.inl s) => K .ret (ZD l person child day s) | (.inr s) => K (.exit 0) (aam l person child day s)
def aiG (l : (List aa)) (person child day i_1 : Int) : St := ⟨[sv 0 (aH l),sv 1 (i64 person),sv 2 (i64 child),sv 3 (i64 day),sv 9 (i64 i_1)],[],0⟩
noncomputable def jI (l : (List aa)) (person child day i_1 : Int) : Option ((Int) ⊕ ((Unit) ⊕ (Unit))) := (bif (decide (i_1 < (l.length : Int))) then gd (0 ≤ i_1 ∧ i_1 < (l.length : Int)) (gd ((((l.getD (Int.toNat i_1) aw).Person == person) && true) = true → 0 ≤ i_1) (gd ((((l.getD (Int.toNat i_1) aw).Person == person) && true) = true → i_1 < (l.length : Int)) (gd (((bif ((l.getD (Int.toNat i_1) aw).Person == person) then ((l.getD (Int.toNat i_1) aw).Kind == 10) else false) && true) = true → 0 ≤ i_1) (gd (((bif ((l.getD (Int.toNat i_1) aw).Person == person) then ((l.getD (Int.toNat i_1) aw).Kind == 10) else false) && true) = true → i_1 < (l.length : Int)) (gd (((bif (bif ((l.getD (Int.toNat i_1) aw).Person == person) then ((l.getD (Int.toNat i_1) aw).Kind == 10) else false) then ((l.getD (Int.toNat i_1) aw).Ref == child) else false) && true) = true → 0 ≤ i_1) (gd (((bif (bif ((l.getD (Int.toNat i_1) aw).Person == person) then ((l.getD (Int.toNat i_1) aw).Kind == 10) else false) then ((l.getD (Int.toNat i_1) aw).Ref == child) else false) && true) = true → i_1 < (l.length : Int)) (gd (((bif (bif (bif ((l.getD (Int.toNat i_1) aw).Person == person) then ((l.getD (Int.toNat i_1) aw).Kind == 10) else false) then ((l.getD (Int.toNat i_1) aw).Ref == child) else false) then (decide (((l.getD (Int.toNat i_1) aw).Span).From ≤ day)) else false) && true) = true → 0 ≤ i_1) (gd (((bif (bif (bif ((l.getD (Int.toNat i_1) aw).Person == person) then ((l.getD (Int.toNat i_1) aw).Kind == 10) else false) then ((l.getD (Int.toNat i_1) aw).Ref == child) else false) then (decide (((l.getD (Int.toNat i_1) aw).Span).From ≤ day)) else false) && true) = true → i_1 < (l.length : Int)) ((bif (bif (bif (bif (bif ((l.getD (Int.toNat i_1) aw).Person == person) then ((l.getD (Int.toNat i_1) aw).Kind == 10) else false) then ((l.getD (Int.toNat i_1) aw).Ref == child) else false) then (decide (((l.getD (Int.toNat i_1) aw).Span).From ≤ day)) else false) then (decide (day < ((l.getD (Int.toNat i_1) aw).Span).To)) else false) then (some (Sum.inr (Sum.inl ()))) else (some (Sum.inl (ak (i_1 + 1)))))))))))))) else (some (Sum.inr (Sum.inr ()))))
theorem adI {l : (List aa)} {person child day i_1 : Int} {K : KT} (h : W (jI l person child day i_1) (nE (Is l person child day) (Bn l person child day) K)) : ah Tryz.prog 60 (List.drop 0 WZ) K (aiG l person child day i_1) :=
  ah.qE mixed [] [0,1,2,3,8,9,24,25,26,27,28,29,32,33,34,35,36,37,38,41,42,43,44,45,46,47,48,51,52,53,54,55,56,57,58] 0 4 (.nx (fun K => let a2_ := l.getD (Int.toNat i_1) aw; let a1_ := bif (bif (a2_.Person == person) then (a2_.Kind == 10) else false) then (a2_.Ref == child) else false; let a3_ := bif a1_ then (decide ((a2_.Span).From ≤ day)) else false; let a4_ := (bif (a2_.Person == person) then (a2_.Kind == 10) else false) && true; let a5_ := (a2_.Person == person) && true; (bif (decide (i_1 < (l.length : Int))) then (0 ≤ i_1) ∧ (i_1 < (l.length : Int)) ∧ (a5_ = true → 0 ≤ i_1) ∧ (a5_ = true → i_1 < (l.length : Int)) ∧ (a4_ = true → 0 ≤ i_1) ∧ (a4_ = true → i_1 < (l.length : Int)) ∧ ((a1_ && true) = true → 0 ≤ i_1) ∧ ((a1_ && true) = true → i_1 < (l.length : Int)) ∧ ((a3_ && true) = true → 0 ≤ i_1) ∧ ((a3_ && true) = true → i_1 < (l.length : Int)) ∧ ((bif (bif a3_ then (decide (day < (a2_.Span).To)) else false) then wK K .ret (⟨[sv 0 (aH l),sv 1 (i64 person),sv 2 (i64 child),sv 3 (i64 day),sv 8 (bl true),sv 9 (i64 i_1),un 24,un 25,un 26,un 27,un 28,un 29,un 32,un 33,un 34,un 35,un 36,un 37,un 38,un 41,un 42,un 43,un 44,un 45,un 46,un 47,un 48,un 51,un 52,un 53,un 54,un 55,un 56,un 57,un 58],[],0⟩) else wK K .normal (⟨[sv 0 (aH l),sv 1 (i64 person),sv 2 (i64 child),sv 3 (i64 day),sv 9 (i64 (ak (i_1 + 1))),un 24,un 25,un 26,un 27,un 28,un 29,un 32,un 33,un 34,un 35,un 36,un 37,un 38,un 41,un 42,un 43,un 44,un 45,un 46,un 47,un 48,un 51,un 52,un 53,un 54,un 55,un 56,un 57,un 58],[],0⟩))) else wK K (.exit 0) (⟨[sv 0 (aH l),sv 1 (i64 person),sv 2 (i64 child),sv 3 (i64 day),sv 9 (i64 i_1)],[],0⟩))) (al h (fun _ h => (aT h fun _ h => (bF h fun _ h => (bF h fun _ h => (bF h fun _ h => (bF h fun _ h => (bF h fun _ h => (bF h fun _ h => (bF h fun _ h => (bF h fun _ h => (al h (fun _ h => (lf h (.cn [8]))) (fun _ h => (lf h (.cn [0,1,2,3,9])))))))))))))) (fun _ h => (lf h (.cn [])))))
noncomputable def lx (l : (List aa)) (person child day : Int) (s : (Int)) : Option ((Int) ⊕ ((Unit) ⊕ (Unit))) := match s with | i_1 => jI l person child day i_1
theorem Zw (l : (List aa)) (person child day : Int) (s : (Int)) : Pp Tryz.prog 60 (List.drop 0 WZ) (Is l person child day s) (lx l person child day s) (cq (Is l person child day) (Bn l person child day)) := fun K h => match s,h with | i_1,h => (adI h)
theorem Rp (l : (List aa)) (person child day : Int) : ∀ (r : ((Unit) ⊕ (Unit))) (J : St → Prop) (K : KT),Bn l person child day r K → Bn l person child day r (aM J K)
  | (.inl s),_,_,h => h
  | (.inr s),_,_,h => h
def SD : St := ⟨[],[],0⟩
noncomputable def yF : Option (Bool) := (some false)
theorem aez {K : KT} (h : W (yF) (rE JS K)) : ah Tryz.prog 60 (List.drop 3 xc) K (SD) :=
  ah.qE mixed [] [8] 3 2 (.nx (fun K => wK K .ret (JS false)) (l0 h))
def Tz (l : (List aa)) (person child day : Int) : St := ⟨[sv 0 (aH l),sv 1 (i64 person),sv 2 (i64 child),sv 3 (i64 day),sv 9 (i64 0)],[],0⟩
noncomputable def qa (l : (List aa)) (person child day : Int) (r : ((Unit) ⊕ (Unit))) : Option (Bool) := match r with | (.inl ()) => (some true) | (.inr ()) => yF
noncomputable def yR (l : (List aa)) (person child day : Int) : Option (Bool) := (aN (lx l person child day) 0).bind (qa l person child day)
theorem aaq : List.drop 2 xc = .block 0 (.loop (aj (aj (aQ xc 2)))) :: List.drop 3 xc := by kernel_rfl
theorem ahb (l : (List aa)) (person child day : Int) (K : KT) : ∀ r : ((Unit) ⊕ (Unit)),W (qa l person child day r) (rE JS K) → Bn l person child day r (wK (bg 0 (aM (ah Tryz.prog 60 (List.drop 3 xc) K) K)))
  | (.inl ()),h => ⟨(JS true),(.refl _),h⟩
  | (.inr ()),h => ⟨(SD),(.refl _),(aez h)⟩
theorem Ym {l : (List aa)} {person child day : Int} {K : KT} (h : W (yR l person child day) (rE JS K)) : ah Tryz.prog 60 (List.drop 2 xc) K (Tz l person child day) :=
  ah.at_ aaq (ah.cons_loop (aE.weak (aE.ent (.refl _) (aE.loopF (x := aj (aj (aQ xc 2))) (f := lx l person child day) (emb := Is l person child day) (E := Bn l person child day) (Zw l person child day) (Rp l person child day) (bT h (ahb l person child day K))))))
def af5 (l : (List aa)) (person child day : Int) : St := ⟨[sv 0 (aH l),sv 1 (i64 person),sv 2 (i64 child),sv 3 (i64 day)],[],0⟩
noncomputable def yL (l : (List aa)) (person child day : Int) : Option (Bool) := (yR l person child day)
theorem afd {l : (List aa)} {person child day : Int} {K : KT} (h : W (yL l person child day) (rE JS K)) : ah Tryz.prog 60 (List.drop 0 xc) K (af5 l person child day) :=
  ah.qD mixed [] [0,1,2,3,9,24,25,26,27,28,29,32,33,34,35,36,37,38,41,42,43,44,45,46,47,48,51,52,53,54,55,56,57,58] 0 2 2 (.nx (fun K => wK K .normal (Tz l person child day)) (l0 (Ym h)))
noncomputable def iR (l : (List aa)) (person child day : Int) : Option (Bool) := yL l person child day
noncomputable def AL : bW := Kk gy (aI .i64) (aI .i64) (aI .i64) iR false HH
theorem Iy : Meets Tryz.prog 34 AL := Ib Tryz.f34 (ar Tryz.f34) [.tmp 8] 60 fun u0 u1 u2 u3 y h => @afd u0 u1 u2 u3 _ (bi.2 ⟨y,h,(cH (bl y) (VLe.rfl' _))⟩)
noncomputable abbrev WR : FE Tryz.prog := ⟨34, .pure AL,Iy⟩
end Go.Ax
