import Derived.Test.YtkijjjdaijjpaaaGreatZF3
import Derived.Test.YtkijjjdaijjpaaaGreatRows
/- Types of the program, and functions of it: printed by a program, checked by the kernel. -/
set_option linter.all false
set_option maxRecDepth 100000
namespace Go.Ax
open Go.Proofs Go.Proofs.YtkijjjdaijjpaaaGreat
noncomputable def aj7 : List Code := aD (ar Tryz.f45)
def FC (x_1 : Bool) : bS := .data (bl x_1)
def agX (x_1 : Bool) : St := ⟨[sv 2 (bl x_1)],[],0⟩
def aiz (f : aa) : St := ⟨[sv 0 (.ag (av f))],[],0⟩
noncomputable def l6 (f : aa) : Option (Bool) := (dJ f).bind fun r_1 => ((some (bif r_1 then (!f.Withdrawn) else false)))
theorem abs {f : aa} {K : KT} (h : W (l6 f) (rE agX K)) : ah Tryz.prog 10 (List.drop 0 aj7) K (aiz f) :=
  ah.qE mixed [PE] [2] 0 3 (.nx (fun K => ((dJ f).isSome = true) ∧ (wK K .ret (agX (bif ((dJ f).getD false) then (!f.Withdrawn) else false)))) (aq false h fun _ h => (l0 h)))
noncomputable def it (f : aa) : Option (Bool) := l6 f
noncomputable def yg : bW := fO kK it false FC
theorem Ge : Meets Tryz.prog 45 yg := dq Tryz.f45 (ar Tryz.f45) [.tmp 2] 10 fun u0 y h => @abs u0 _ (bi.2 ⟨y,h,(cH (bl y) (VLe.rfl' _))⟩)
noncomputable abbrev e45 : FE Tryz.prog := ⟨45, .pure yg,Ge⟩
noncomputable def wZ : List Code := aD (ar Tryz.f44)
noncomputable def XQ : List Code := aD (aj (aj (aQ wZ 3)))
def ks (x_1 : (List aa)) : bS := .own true 38 14 (x_1).length (bf av aw x_1)
def JF (x_1 : (List aa)) : St := ⟨[sv 4 (.row 0 14 0 x_1.length)],[(aC 0 38 x_1)],1⟩
theorem aiT (x_1 : (List aa)) : dX Tryz.prog [.tmp 4] (du (ks x_1)) .ret (JF x_1) :=
  dX.intro (v := (.row 0 14 0 x_1.length)) (by kernel_rfl) (⟨_,_,_,rfl,rfl,rfl,fun _ _ => rfl,fun _ i hi d hd => gg _ d hd⟩)
def EH (l : (List aa)) (s : ((List aa) × Int)) : St := match s with | (out_1,t10) => ⟨[sv 1 (.fn 45 []),sv 5 (.row 0 14 0 out_1.length),sv 8 (aH l),sv 9 (i64 (l.length : Int)),sv 10 (i64 t10)],[(aC 0 38 out_1)],1⟩
def YH (l : (List aa)) (s : (List aa)) : St := match s with | out_2 => ⟨[sv 5 (.row 0 14 0 out_2.length)],[(aC 0 38 out_2)],1⟩
def AW (l : (List aa)) (r : (((List aa)))) (K : KT) : Prop := match r with | s => K (.exit 0) (YH l s)
def ai5 (out_1 l : (List aa)) (t10 : Int) : St := ⟨[sv 1 (.fn 45 []),sv 5 (.row 0 14 0 out_1.length),sv 8 (aH l),sv 9 (i64 (l.length : Int)),sv 10 (i64 t10)],[(aC 0 38 out_1)],1⟩
noncomputable def eu (out_1 l : (List aa)) (t10 : Int) : Option (((List aa) × Int) ⊕ (((List aa)))) := (bif (decide (t10 < (l.length : Int))) then gd (0 ≤ t10 ∧ t10 < (l.length : Int)) ((it (l.getD (Int.toNat t10) aw)).bind fun r_1 => ((bif r_1 then gd (cL (out_1.length + 1) 112) ((some (Sum.inl ((out_1 ++ ([(l.getD (Int.toNat t10) aw)] : List aa)),(ak (t10 + 1)))))) else (some (Sum.inl (out_1,(ak (t10 + 1)))))))) else (some (Sum.inr out_1)))
theorem abx {out_1 l : (List aa)} {t10 : Int} {K : KT} (h : W (eu out_1 l t10) (nE (EH l) (AW l) K)) : ah Tryz.prog 23 (List.drop 0 XQ) K (ai5 out_1 l t10) :=
  ah.qE mixed [e45] [1,5,8,9,10] 0 4 (.nx (fun K => let a1_ := l.getD (Int.toNat t10) aw; let a2_ := out_1.length + 1; (bif (decide (t10 < (l.length : Int))) then (0 ≤ t10) ∧ (t10 < (l.length : Int)) ∧ (((it a1_).isSome = true) ∧ ((bif ((it a1_).getD false) then (out_1.length = out_1.length) ∧ (a2_ * 112 ≤ 140737488355328) ∧ (a2_ ≤ 140737488355328) ∧ (wK K .normal (⟨[sv 1 (.fn 45 []),sv 5 (.row 0 14 0 a2_),sv 8 (aH l),sv 9 (i64 (l.length : Int)),sv 10 (i64 (ak (t10 + 1)))],[(0,some (.row 38 14 a2_ (fun i => bif Nat.blt i out_1.length then (be out_1) i else (fun i => (dw 14 (av a1_)) (0 + i)) (i - out_1.length))))],1⟩)) else wK K .normal (EH l (out_1,(ak (t10 + 1))))))) else wK K (.exit 0) (⟨[sv 1 (.fn 45 []),sv 5 (.row 0 14 0 out_1.length),sv 8 (aH l),sv 9 (i64 (l.length : Int)),sv 10 (i64 t10)],[(aC 0 38 out_1)],1⟩))) (al h (fun _ h => (aT h fun _ h => (aq false h fun _ h => (al h (fun _ h => ⟨rfl,(aT h fun _ h => (lf h (.of (.q rfl (.cons rfl (.rown (ce rfl rfl)) (.qs 3 .nil))) (.row rfl (ai.app .b (ai.zero (ai.l1 (enc := av) (z := aw) 14 (l.getD (Int.toNat t10) aw) rfl))) .nil rfl) rfl)))⟩) (fun _ h => (l0 h)))))) (fun _ h => (lf h (.cn [5])))))
noncomputable def iM (l : (List aa)) (s : ((List aa) × Int)) : Option (((List aa) × Int) ⊕ (((List aa)))) := match s with | (out_1,t10) => eu out_1 l t10
theorem aaB (l : (List aa)) (s : ((List aa) × Int)) : Pp Tryz.prog 23 (List.drop 0 XQ) (EH l s) (iM l s) (cq (EH l) (AW l)) := fun K h => match s,h with | (out_1,t10),h => (abx h)
theorem PL (l : (List aa)) : ∀ (r : (((List aa)))) (J : St → Prop) (K : KT),AW l r K → AW l r (aM J K)
  | s,_,_,h => h
def TM (out_3 : (List aa)) : St := ⟨[sv 5 (.row 0 14 0 out_3.length)],[(aC 0 38 out_3)],1⟩
noncomputable def oM (out_3 : (List aa)) : Option ((List aa)) := (some out_3)
theorem acz {out_3 : (List aa)} {K : KT} (h : W (oM out_3) (rE JF K)) : ah Tryz.prog 23 (List.drop 4 wZ) K (TM out_3) :=
  ah.qE mixed [] [4] 4 2 (.nx (fun K => wK K .ret (JF out_3)) (l0 h))
def Tj (l : (List aa)) : St := ⟨[sv 1 (.fn 45 []),sv 5 (.c .nil),sv 8 (aH l),sv 9 (i64 (l.length : Int)),sv 10 (i64 0)],[],0⟩
noncomputable def nN (l : (List aa)) (r : (((List aa)))) : Option ((List aa)) := match r with | out_2 => (oM out_2)
noncomputable def oR (l : (List aa)) : Option ((List aa)) := (aN (iM l) (([] : List aa),0)).bind (nN l)
theorem abA : List.drop 3 wZ = .block 0 (.loop (aj (aj (aQ wZ 3)))) :: List.drop 4 wZ := by kernel_rfl
theorem aiJ (l : (List aa)) (K : KT) : ∀ r : (((List aa))),W (nN l r) (rE JF K) → AW l r (wK (bg 0 (aM (ah Tryz.prog 23 (List.drop 4 wZ) K) K)))
  | out_2,h => ⟨(TM out_2),(.refl _),(acz h)⟩
theorem ZW {l : (List aa)} {K : KT} (h : W (oR l) (rE JF K)) : ah Tryz.prog 23 (List.drop 3 wZ) K (Tj l) :=
  ah.at_ abA (ah.cons_loop (aE.weak (aE.ent (.trans (.nilrow 5 0 38 14 (bf av aw []) (Nat.le_of_ble_eq_true rfl) rfl) (.cn [1,5,8,9,10])) (aE.loopF (x := aj (aj (aQ wZ 3))) (f := iM l) (emb := EH l) (E := AW l) (aaB l) (PL l) (bT h (aiJ l K))))))
def Up (l : (List aa)) : St := ⟨[sv 0 (aH l),sv 1 (.fn 45 [])],[],0⟩
noncomputable def oY (l : (List aa)) : Option ((List aa)) := (oR l)
theorem acJ {l : (List aa)} {K : KT} (h : W (oY l) (rE JF K)) : ah Tryz.prog 23 (List.drop 0 wZ) K (Up l) :=
  ah.qD mixed [] [1,5,8,9,10] 0 3 3 (.nx (fun K => wK K .normal (Tj l)) (l0 (ZW h)))
noncomputable def dL (l : (List aa)) : Option ((List aa)) := oY l
theorem ajk (l : (List aa)) (y_ : (List aa)) (h : dL l = some y_) : ah Tryz.prog 23 (aD (ar Tryz.f44)) (dX Tryz.prog [.tmp 4] (du (ks y_))) (Up l) :=
  @acJ l _ (bi.2 ⟨y_,h,aiT y_⟩)
noncomputable def lh : bW
  | [(.c (.sl k1 n2 e3)),(.fn 45 [])] => some ([bk av aY 14 k1 n2 e3,(dL (lst aY n2 e3)).isSome = true],(ks ((dL (lst aY n2 e3)).getD ([] : List aa))))
  | _ => none
theorem x8 : Meets Tryz.prog 44 lh := by
  refine jA (fn := Tryz.f44) (c := ar Tryz.f44) (by kernel_rfl) (by kernel_rfl) (by kernel_rfl) (rs := [.tmp 4]) (by kernel_rfl) (nt := 23) (by kernel_rfl) fun vs p out h hp => ?_
  unfold lh at h
  split at h
  · next k1 n2 e3 =>
    cases h
    obtain ⟨g0,hp⟩ := dP hp
    obtain ⟨g,hp⟩ := dP hp
    obtain ⟨x,hx⟩ := Option.isSome_iff_exists.1 g
    rw [hx]
    exact ⟨[(aH (lst aY n2 e3)),(.fn 45 [])],(VLes.cons (VLe.slk g0.1 (ai.of_ok g0)) (VLes.cons (VLe.rfl' _) VLes.nil)),rfl,ajk (lst aY n2 e3) x hx⟩
  · cases h
noncomputable abbrev e44 : FE Tryz.prog := ⟨44, .pure lh,x8⟩
noncomputable def Xf : List Code := aD (ar Tryz.f18)
def D8 (x_1 : (List aa)) : bS := .own true 38 14 (x_1).length (bf av aw x_1)
def agB (x_1 : (List aa)) : St := ⟨[sv 2 (.row 0 14 0 x_1.length)],[(aC 0 38 x_1)],1⟩
def Ta (l : (List aa)) : St := ⟨[sv 0 (aH l)],[],0⟩
noncomputable def wn (l : (List aa)) : Option ((List aa)) := (dL l).bind fun r_1 => ((some r_1))
theorem abb (l : (List aa)) (K : KT) {L1_ : List aa} (hL1_ : lst aY l.length (be l) = L1_) :
    ev Tryz.prog (cy [e44]) 5 (ofItems ((List.drop 0 Xf).take 3)) (cN [2] K) (Ta l) =
    ((lD l) ∧ ((dL L1_).isSome = true) ∧ (wK K .ret (agB ((dL L1_).getD [])))) := by subst hL1_; kernel_rfl
theorem YD {l : (List aa)} {K : KT} (h : W (wn l) (rE agB K)) : ah Tryz.prog 5 (List.drop 0 Xf) K (Ta l) :=
  ah.qE mixed [e44] [2] 0 3 (.of (abb l _ (lb au)) (⟨kb au,(aq [] h fun _ h => (l0 h))⟩))
noncomputable def jj (l : (List aa)) : Option ((List aa)) := wn l
noncomputable def xD : bW := fO gy jj ([] : List aa) D8
theorem Gg : Meets Tryz.prog 18 xD := dq Tryz.f18 (ar Tryz.f18) [.tmp 2] 5 fun u0 y h => @YD u0 _ (bi.2 ⟨y,h,(cH (.row 0 14 0 y.length) (⟨_,_,_,rfl,rfl,rfl,fun _ _ => rfl,fun _ i hi d hd => gg _ d hd⟩))⟩)
noncomputable abbrev e18 : FE Tryz.prog := ⟨18, .pure xD,Gg⟩
noncomputable def ajO : List Code := aD (ar Tryz.f50)
def sQ (x_1 : Bool) : bS := .data (bl x_1)
def Vt (x_1 : Bool) : St := ⟨[sv 3 (bl x_1)],[],0⟩
theorem ah4 (x_1 : Bool) : dX Tryz.prog [.tmp 3] (du (sQ x_1)) .ret (Vt x_1) :=
  dX.intro (v := (bl x_1)) (by kernel_rfl) ((VLe.rfl' _))
def Tc (f : aa) (t1 : Int) : St := ⟨[sv 0 (.ag (av f)),sv 1 (.dptr 1 [(di t1)] 0)],[],0⟩
noncomputable def z6 (f : aa) (t1 : Int) : Option (Bool) := (some (f.Person == t1))
theorem Zx {f : aa} {t1 : Int} {K : KT} (h : W (z6 f t1) (rE Vt K)) : ah Tryz.prog 8 (List.drop 0 ajO) K (Tc f t1) :=
  ah.qE mixed [] [3] 0 3 (.nx (fun K => wK K .ret (Vt (f.Person == t1))) (l0 h))
noncomputable def og (f : aa) (t1 : Int) : Option (Bool) := z6 f t1
theorem afU (f : aa) (t1 : Int) (y_ : Bool) (h : og f t1 = some y_) : ah Tryz.prog 8 (aD (ar Tryz.f50)) (dX Tryz.prog [.tmp 3] (du (sQ y_))) (Tc f t1) :=
  @Zx f t1 _ (bi.2 ⟨y_,h,ah4 y_⟩)
noncomputable def wc : bW
  | [(.agg [(.c (.lit (.int .i64 a1))),(.c (.lit (.int .i64 a2))),(.c (.lit (.int .i64 a3))),(.c (.lit (.bool a4))),(.c (.lit (.int .i64 a5))),(.c (.lit (.int .i64 a6))),(.c (.lit (.int .i64 a7))),(.c (.lit (.int .i64 a8))),(.c (.lit (.int .i64 a9))),(.c (.lit (.int .i64 a10))),(.c (.lit (.int .i64 a11))),(.c (.lit (.int .i64 a12))),(.c (.lit (.int .i64 a13))),(.c (.lit (.int .i64 a14)))]),(.dptr 1 [(.lit (.int .i64 a15))] 0)] => some ([(og (aa.mk a1 a2 a3 a4 a5 a6 a7 (ac.mk a8 a9) a10 a11 a12 a13 a14) a15).isSome = true],(sQ ((og (aa.mk a1 a2 a3 a4 a5 a6 a7 (ac.mk a8 a9) a10 a11 a12 a13 a14) a15).getD false)))
  | _ => none
theorem J1 : Meets Tryz.prog 50 wc := by
  refine jA (fn := Tryz.f50) (c := ar Tryz.f50) (by kernel_rfl) (by kernel_rfl) (by kernel_rfl) (rs := [.tmp 3]) (by kernel_rfl) (nt := 8) (by kernel_rfl) fun vs p out h hp => ?_
  unfold wc at h
  split at h
  · next a1 a2 a3 a4 a5 a6 a7 a8 a9 a10 a11 a12 a13 a14 a15 =>
    cases h
    obtain ⟨g,hp⟩ := dP hp
    obtain ⟨x,hx⟩ := Option.isSome_iff_exists.1 g
    rw [hx]
    exact ⟨[(.agg [(i64 (aa.mk a1 a2 a3 a4 a5 a6 a7 (ac.mk a8 a9) a10 a11 a12 a13 a14).Issuer),(i64 (aa.mk a1 a2 a3 a4 a5 a6 a7 (ac.mk a8 a9) a10 a11 a12 a13 a14).Number),(i64 (aa.mk a1 a2 a3 a4 a5 a6 a7 (ac.mk a8 a9) a10 a11 a12 a13 a14).Version),(bl (aa.mk a1 a2 a3 a4 a5 a6 a7 (ac.mk a8 a9) a10 a11 a12 a13 a14).Withdrawn),(i64 (aa.mk a1 a2 a3 a4 a5 a6 a7 (ac.mk a8 a9) a10 a11 a12 a13 a14).Person),(i64 (aa.mk a1 a2 a3 a4 a5 a6 a7 (ac.mk a8 a9) a10 a11 a12 a13 a14).Kind),(i64 (aa.mk a1 a2 a3 a4 a5 a6 a7 (ac.mk a8 a9) a10 a11 a12 a13 a14).State),(i64 ((aa.mk a1 a2 a3 a4 a5 a6 a7 (ac.mk a8 a9) a10 a11 a12 a13 a14).Span).From),(i64 ((aa.mk a1 a2 a3 a4 a5 a6 a7 (ac.mk a8 a9) a10 a11 a12 a13 a14).Span).To),(i64 (aa.mk a1 a2 a3 a4 a5 a6 a7 (ac.mk a8 a9) a10 a11 a12 a13 a14).Seat),(i64 (aa.mk a1 a2 a3 a4 a5 a6 a7 (ac.mk a8 a9) a10 a11 a12 a13 a14).Share),(i64 (aa.mk a1 a2 a3 a4 a5 a6 a7 (ac.mk a8 a9) a10 a11 a12 a13 a14).Currency),(i64 (aa.mk a1 a2 a3 a4 a5 a6 a7 (ac.mk a8 a9) a10 a11 a12 a13 a14).Amount),(i64 (aa.mk a1 a2 a3 a4 a5 a6 a7 (ac.mk a8 a9) a10 a11 a12 a13 a14).Ref)]),(.dptr 1 [(di a15)] 0)],(VLes.cons (VLe.rfl' _) (VLes.cons (VLe.rfl' _) VLes.nil)),rfl,afU (aa.mk a1 a2 a3 a4 a5 a6 a7 (ac.mk a8 a9) a10 a11 a12 a13 a14) a15 x hx⟩
  · cases h
noncomputable abbrev e50 : FE Tryz.prog := ⟨50, .pure wc,J1⟩
noncomputable def pM : List Code := aD (ar Tryz.f44)
noncomputable def PD : List Code := aD (aj (aj (aQ pM 3)))
def lQ (x_1 : (List aa)) : bS := .own true 38 14 (x_1).length (bf av aw x_1)
def BK (x_1 : (List aa)) : St := ⟨[sv 4 (.row 0 14 0 x_1.length)],[(aC 0 38 x_1)],1⟩
theorem Wi (x_1 : (List aa)) : dX Tryz.prog [.tmp 4] (du (lQ x_1)) .ret (BK x_1) :=
  dX.intro (v := (.row 0 14 0 x_1.length)) (by kernel_rfl) (⟨_,_,_,rfl,rfl,rfl,fun _ _ => rfl,fun _ i hi d hd => gg _ d hd⟩)
def x5 (want : Int) (l : (List aa)) (s : ((List aa) × Int)) : St := match s with | (out_1,t10) => ⟨[sv 1 (.fn 50 [(.dptr 1 [(di want)] 0)]),sv 5 (.row 0 14 0 out_1.length),sv 8 (aH l),sv 9 (i64 (l.length : Int)),sv 10 (i64 t10)],[(aC 0 38 out_1)],1⟩
def Sj (want : Int) (l : (List aa)) (s : (List aa)) : St := match s with | out_2 => ⟨[sv 5 (.row 0 14 0 out_2.length)],[(aC 0 38 out_2)],1⟩
def uz (want : Int) (l : (List aa)) (r : (((List aa)))) (K : KT) : Prop := match r with | s => K (.exit 0) (Sj want l s)
def V8 (want : Int) (out_1 l : (List aa)) (t10 : Int) : St := ⟨[sv 1 (.fn 50 [(.dptr 1 [(di want)] 0)]),sv 5 (.row 0 14 0 out_1.length),sv 8 (aH l),sv 9 (i64 (l.length : Int)),sv 10 (i64 t10)],[(aC 0 38 out_1)],1⟩
noncomputable def fx (want : Int) (out_1 l : (List aa)) (t10 : Int) : Option (((List aa) × Int) ⊕ (((List aa)))) := (bif (decide (t10 < (l.length : Int))) then gd (0 ≤ t10 ∧ t10 < (l.length : Int)) ((og (l.getD (Int.toNat t10) aw) want).bind fun r_1 => ((bif r_1 then gd (cL (out_1.length + 1) 112) ((some (Sum.inl ((out_1 ++ ([(l.getD (Int.toNat t10) aw)] : List aa)),(ak (t10 + 1)))))) else (some (Sum.inl (out_1,(ak (t10 + 1)))))))) else (some (Sum.inr out_1)))
theorem Sp {want : Int} {out_1 l : (List aa)} {t10 : Int} {K : KT} (h : W (fx want out_1 l t10) (nE (x5 want l) (uz want l) K)) : ah Tryz.prog 23 (List.drop 0 PD) K (V8 want out_1 l t10) :=
  ah.qE mixed [e50] [1,5,8,9,10] 0 4 (.nx (fun K => let a1_ := l.getD (Int.toNat t10) aw; let a2_ := out_1.length + 1; (bif (decide (t10 < (l.length : Int))) then (0 ≤ t10) ∧ (t10 < (l.length : Int)) ∧ (((og a1_ want).isSome = true) ∧ ((bif ((og a1_ want).getD false) then (out_1.length = out_1.length) ∧ (a2_ * 112 ≤ 140737488355328) ∧ (a2_ ≤ 140737488355328) ∧ (wK K .normal (⟨[sv 1 (.fn 50 [(.dptr 1 [(di want)] 0)]),sv 5 (.row 0 14 0 a2_),sv 8 (aH l),sv 9 (i64 (l.length : Int)),sv 10 (i64 (ak (t10 + 1)))],[(0,some (.row 38 14 a2_ (fun i => bif Nat.blt i out_1.length then (be out_1) i else (fun i => (dw 14 (av a1_)) (0 + i)) (i - out_1.length))))],1⟩)) else wK K .normal (x5 want l (out_1,(ak (t10 + 1))))))) else wK K (.exit 0) (⟨[sv 1 (.fn 50 [(.dptr 1 [(di want)] 0)]),sv 5 (.row 0 14 0 out_1.length),sv 8 (aH l),sv 9 (i64 (l.length : Int)),sv 10 (i64 t10)],[(aC 0 38 out_1)],1⟩))) (al h (fun _ h => (aT h fun _ h => (aq false h fun _ h => (al h (fun _ h => ⟨rfl,(aT h fun _ h => (lf h (.of (.q rfl (.cons rfl (.rown (ce rfl rfl)) (.qs 3 .nil))) (.row rfl (ai.app .b (ai.zero (ai.l1 (enc := av) (z := aw) 14 (l.getD (Int.toNat t10) aw) rfl))) .nil rfl) rfl)))⟩) (fun _ h => (l0 h)))))) (fun _ h => (lf h (.cn [5])))))
noncomputable def jT (want : Int) (l : (List aa)) (s : ((List aa) × Int)) : Option (((List aa) × Int) ⊕ (((List aa)))) := match s with | (out_1,t10) => fx want out_1 l t10
theorem Tm (want : Int) (l : (List aa)) (s : ((List aa) × Int)) : Pp Tryz.prog 23 (List.drop 0 PD) (x5 want l s) (jT want l s) (cq (x5 want l) (uz want l)) := fun K h => match s,h with | (out_1,t10),h => (Sp h)
theorem N8 (want : Int) (l : (List aa)) : ∀ (r : (((List aa)))) (J : St → Prop) (K : KT),uz want l r K → uz want l r (aM J K)
  | s,_,_,h => h
def NB (out_3 : (List aa)) : St := ⟨[sv 5 (.row 0 14 0 out_3.length)],[(aC 0 38 out_3)],1⟩
noncomputable def si (out_3 : (List aa)) : Option ((List aa)) := (some out_3)
theorem R8 {out_3 : (List aa)} {K : KT} (h : W (si out_3) (rE BK K)) : ah Tryz.prog 23 (List.drop 4 pM) K (NB out_3) :=
  ah.qE mixed [] [4] 4 2 (.nx (fun K => wK K .ret (BK out_3)) (l0 h))
def NR (want : Int) (l : (List aa)) : St := ⟨[sv 1 (.fn 50 [(.dptr 1 [(di want)] 0)]),sv 5 (.c .nil),sv 8 (aH l),sv 9 (i64 (l.length : Int)),sv 10 (i64 0)],[],0⟩
noncomputable def pV (want : Int) (l : (List aa)) (r : (((List aa)))) : Option ((List aa)) := match r with | out_2 => (si out_2)
noncomputable def rU (want : Int) (l : (List aa)) : Option ((List aa)) := (aN (jT want l) (([] : List aa),0)).bind (pV want l)
theorem UE : List.drop 3 pM = .block 0 (.loop (aj (aj (aQ pM 3)))) :: List.drop 4 pM := by kernel_rfl
theorem VD (want : Int) (l : (List aa)) (K : KT) : ∀ r : (((List aa))),W (pV want l r) (rE BK K) → uz want l r (wK (bg 0 (aM (ah Tryz.prog 23 (List.drop 4 pM) K) K)))
  | out_2,h => ⟨(NB out_2),(.refl _),(R8 h)⟩
theorem Sn {want : Int} {l : (List aa)} {K : KT} (h : W (rU want l) (rE BK K)) : ah Tryz.prog 23 (List.drop 3 pM) K (NR want l) :=
  ah.at_ UE (ah.cons_loop (aE.weak (aE.ent (.trans (.nilrow 5 0 38 14 (bf av aw []) (Nat.le_of_ble_eq_true rfl) rfl) (.cn [1,5,8,9,10])) (aE.loopF (x := aj (aj (aQ pM 3))) (f := jT want l) (emb := x5 want l) (E := uz want l) (Tm want l) (N8 want l) (bT h (VD want l K))))))
def Om (l : (List aa)) (want : Int) : St := ⟨[sv 0 (aH l),sv 1 (.fn 50 [(.dptr 1 [(di want)] 0)])],[],0⟩
noncomputable def rP (l : (List aa)) (want : Int) : Option ((List aa)) := (rU want l)
theorem Ui {l : (List aa)} {want : Int} {K : KT} (h : W (rP l want) (rE BK K)) : ah Tryz.prog 23 (List.drop 0 pM) K (Om l want) :=
  ah.qD mixed [] [1,5,8,9,10] 0 3 3 (.nx (fun K => wK K .normal (NR want l)) (l0 (Sn h)))
noncomputable def fM (l : (List aa)) (want : Int) : Option ((List aa)) := rP l want
theorem VK (l : (List aa)) (want : Int) (y_ : (List aa)) (h : fM l want = some y_) : ah Tryz.prog 23 (aD (ar Tryz.f44)) (dX Tryz.prog [.tmp 4] (du (lQ y_))) (Om l want) :=
  @Ui l want _ (bi.2 ⟨y_,h,Wi y_⟩)
noncomputable def nm : bW
  | [(.c (.sl k1 n2 e3)),(.fn 50 [(.dptr 1 [(.lit (.int .i64 a4))] 0)])] => some ([bk av aY 14 k1 n2 e3,(fM (lst aY n2 e3) a4).isSome = true],(lQ ((fM (lst aY n2 e3) a4).getD ([] : List aa))))
  | _ => none
theorem AI : Meets Tryz.prog 44 nm := by
  refine jA (fn := Tryz.f44) (c := ar Tryz.f44) (by kernel_rfl) (by kernel_rfl) (by kernel_rfl) (rs := [.tmp 4]) (by kernel_rfl) (nt := 23) (by kernel_rfl) fun vs p out h hp => ?_
  unfold nm at h
  split at h
  · next k1 n2 e3 a4 =>
    cases h
    obtain ⟨g0,hp⟩ := dP hp
    obtain ⟨g,hp⟩ := dP hp
    obtain ⟨x,hx⟩ := Option.isSome_iff_exists.1 g
    rw [hx]
    exact ⟨[(aH (lst aY n2 e3)),(.fn 50 [(.dptr 1 [(di a4)] 0)])],(VLes.cons (VLe.slk g0.1 (ai.of_ok g0)) (VLes.cons (VLe.rfl' _) VLes.nil)),rfl,VK (lst aY n2 e3) a4 x hx⟩
  · cases h
noncomputable abbrev Xn : FE Tryz.prog := ⟨44, .pure nm,AI⟩
noncomputable def XO : List Code := aD (ar Tryz.f20)
def Lz (x_1 : (List aa)) : bS := .own true 38 14 (x_1).length (bf av aw x_1)
def ag0 (x_1 : (List aa)) : St := ⟨[sv 4 (.row 0 14 0 x_1.length)],[(aC 0 38 x_1)],1⟩
def S5 (l : (List aa)) (person : Int) : St := ⟨[sv 0 (aH l),sv 1 (i64 person)],[],0⟩
noncomputable def E8 (l : (List aa)) (person : Int) : Option ((List aa)) := (fM l person).bind fun r_1 => ((some r_1))
theorem abc (l : (List aa)) (person : Int) (K : KT) {L1_ : List aa} (hL1_ : lst aY l.length (be l) = L1_) :
    ev Tryz.prog (cy [Xn]) 8 (ofItems ((List.drop 0 XO).take 3)) (cN [4] K) (S5 l person) =
    (let a1_ := fM L1_ person; (lD l) ∧ (a1_.isSome = true) ∧ (wK K .ret (ag0 (a1_.getD [])))) := by subst hL1_; kernel_rfl
theorem acy {l : (List aa)} {person : Int} {K : KT} (h : W (E8 l person) (rE ag0 K)) : ah Tryz.prog 8 (List.drop 0 XO) K (S5 l person) :=
  ah.qE mixed [Xn] [4] 0 3 (.of (abc l person _ (lb au)) (⟨kb au,(aq [] h fun _ h => (l0 h))⟩))
noncomputable def dZ (l : (List aa)) (person : Int) : Option ((List aa)) := E8 l person
noncomputable def GO : bW := fK gy (aI .i64) dZ ([] : List aa) Lz
theorem MG : Meets Tryz.prog 20 GO := dp Tryz.f20 (ar Tryz.f20) [.tmp 4] 8 fun u0 u1 y h => @acy u0 u1 _ (bi.2 ⟨y,h,(cH (.row 0 14 0 y.length) (⟨_,_,_,rfl,rfl,rfl,fun _ _ => rfl,fun _ i hi d hd => gg _ d hd⟩))⟩)
noncomputable abbrev O6 : FE Tryz.prog := ⟨20, .pure GO,MG⟩
noncomputable def wQ : List Code := aD (ar Tryz.f51)
noncomputable def XM : List Code := aD (aj (aj (aQ wQ 3)))
def Hc (x_1 : (Int × Bool)) : bS := .data (.tup [(i64 x_1.1),(bl x_1.2)])
def Nz (x_1 : (Int × Bool)) : St := ⟨[sv 4 (i64 x_1.1),sv 5 (bl x_1.2)],[],0⟩
def Jj (kind : Int) (l : (List aa)) (s : (Int × Bool × Int)) : St := match s with | (day,ok,t12) => ⟨[sv 1 (i64 kind),sv 6 (i64 day),sv 7 (bl ok),sv 10 (aH l),sv 11 (i64 (l.length : Int)),sv 12 (i64 t12)],[],0⟩
def abO (kind : Int) (l : (List aa)) (s : Int × Bool) : St := match s with | (day_1,ok_1) => ⟨[sv 6 (i64 day_1),sv 7 (bl ok_1)],[],0⟩
def Bz (kind : Int) (l : (List aa)) (r : ((Int × Bool))) (K : KT) : Prop := match r with | s => K (.exit 0) (abO kind l s)
def aiD (kind day : Int) (ok : Bool) (l : (List aa)) (t12 : Int) : St := ⟨[sv 1 (i64 kind),sv 6 (i64 day),sv 7 (bl ok),sv 10 (aH l),sv 11 (i64 (l.length : Int)),sv 12 (i64 t12)],[],0⟩
noncomputable def jP (kind day : Int) (ok : Bool) (l : (List aa)) (t12 : Int) : Option ((Int × Bool × Int) ⊕ ((Int × Bool))) := (bif (decide (t12 < (l.length : Int))) then gd (0 ≤ t12 ∧ t12 < (l.length : Int)) ((it (l.getD (Int.toNat t12) aw)).bind fun r_1 => ((bif (bif (bif r_1 then ((l.getD (Int.toNat t12) aw).Kind == kind) else false) then (bif (!ok) then true else (decide (((l.getD (Int.toNat t12) aw).Span).From < day))) else false) then (some (Sum.inl (((l.getD (Int.toNat t12) aw).Span).From,true,(ak (t12 + 1))))) else (some (Sum.inl (day,ok,(ak (t12 + 1)))))))) else (some (Sum.inr (day,ok))))
theorem adU {kind day : Int} {ok : Bool} {l : (List aa)} {t12 : Int} {K : KT} (h : W (jP kind day ok l t12) (nE (Jj kind l) (Bz kind l) K)) : ah Tryz.prog 41 (List.drop 0 XM) K (aiD kind day ok l t12) :=
  ah.qE mixed [e45] [1,6,7,10,11,12,19,20,21,22,25,26,27,28,29,30,31,32,33] 0 4 (.nx (fun K => let a1_ := l.getD (Int.toNat t12) aw; let a2_ := i64 (l.length : Int); (bif (decide (t12 < (l.length : Int))) then (0 ≤ t12) ∧ (t12 < (l.length : Int)) ∧ (((it a1_).isSome = true) ∧ ((bif (bif (bif ((it a1_).getD false) then (a1_.Kind == kind) else false) then (bif (!ok) then true else (decide ((a1_.Span).From < day))) else false) then wK K .normal (⟨[sv 1 (i64 kind),sv 6 (i64 (a1_.Span).From),sv 7 (bl true),sv 10 (aH l),sv 11 a2_,sv 12 (i64 (ak (t12 + 1))),un 19,un 20,un 21,un 22,un 25,un 26,un 27,un 28,un 29,un 30,un 31,un 32,un 33],[],0⟩) else wK K .normal (⟨[sv 1 (i64 kind),sv 6 (i64 day),sv 7 (bl ok),sv 10 (aH l),sv 11 a2_,sv 12 (i64 (ak (t12 + 1))),un 19,un 20,un 21,un 22,un 25,un 26,un 27,un 28,un 29,un 30,un 31,un 32,un 33],[],0⟩)))) else wK K (.exit 0) (⟨[sv 1 (i64 kind),sv 6 (i64 day),sv 7 (bl ok),sv 10 (aH l),sv 11 a2_,sv 12 (i64 t12)],[],0⟩))) (al h (fun _ h => (aT h fun _ h => (aq false h fun _ h => (al h (fun _ h => (lf h (.cn [1,6,7,10,11,12]))) (fun _ h => (lf h (.cn [1,6,7,10,11,12]))))))) (fun _ h => (lf h (.cn [6,7])))))
noncomputable def lz (kind : Int) (l : (List aa)) (s : (Int × Bool × Int)) : Option ((Int × Bool × Int) ⊕ ((Int × Bool))) := match s with | (day,ok,t12) => jP kind day ok l t12
theorem acg (kind : Int) (l : (List aa)) (s : (Int × Bool × Int)) : Pp Tryz.prog 41 (List.drop 0 XM) (Jj kind l s) (lz kind l s) (cq (Jj kind l) (Bz kind l)) := fun K h => match s,h with | (day,ok,t12),h => (adU h)
theorem Qh (kind : Int) (l : (List aa)) : ∀ (r : ((Int × Bool))) (J : St → Prop) (K : KT),Bz kind l r K → Bz kind l r (aM J K)
  | s,_,_,h => h
def Uz (day_2 : Int) (ok_2 : Bool) : St := ⟨[sv 6 (i64 day_2),sv 7 (bl ok_2)],[],0⟩
noncomputable def y3 (day_2 : Int) (ok_2 : Bool) : Option ((Int × Bool)) := (some (day_2,ok_2))
theorem ac4 {day_2 : Int} {ok_2 : Bool} {K : KT} (h : W (y3 day_2 ok_2) (rE Nz K)) : ah Tryz.prog 41 (List.drop 4 wQ) K (Uz day_2 ok_2) :=
  ah.qE mixed [] [4,5] 4 2 (.nx (fun K => wK K .ret (Nz (day_2,ok_2))) (l0 h))
def Sf (kind : Int) (l : (List aa)) : St := ⟨[sv 1 (i64 kind),sv 6 (i64 0),sv 7 (bl false),sv 10 (aH l),sv 11 (i64 (l.length : Int)),sv 12 (i64 0)],[],0⟩
noncomputable def ww (kind : Int) (l : (List aa)) (r : ((Int × Bool))) : Option ((Int × Bool)) := match r with | (day_1,ok_1) => (y3 day_1 ok_1)
noncomputable def y8 (kind : Int) (l : (List aa)) : Option ((Int × Bool)) := (aN (lz kind l) (0,false,0)).bind (ww kind l)
theorem aeg : List.drop 3 wQ = .block 0 (.loop (aj (aj (aQ wQ 3)))) :: List.drop 4 wQ := by kernel_rfl
theorem ai9 (kind : Int) (l : (List aa)) (K : KT) : ∀ r : ((Int × Bool)),W (ww kind l r) (rE Nz K) → Bz kind l r (wK (bg 0 (aM (ah Tryz.prog 41 (List.drop 4 wQ) K) K)))
  | (day_1,ok_1),h => ⟨(Uz day_1 ok_1),(.refl _),(ac4 h)⟩
theorem YA {kind : Int} {l : (List aa)} {K : KT} (h : W (y8 kind l) (rE Nz K)) : ah Tryz.prog 41 (List.drop 3 wQ) K (Sf kind l) :=
  ah.at_ aeg (ah.cons_loop (aE.weak (aE.ent (.refl _) (aE.loopF (x := aj (aj (aQ wQ 3))) (f := lz kind l) (emb := Jj kind l) (E := Bz kind l) (acg kind l) (Qh kind l) (bT h (ai9 kind l K))))))
def ag4 (l : (List aa)) (kind : Int) : St := ⟨[sv 0 (aH l),sv 1 (i64 kind)],[],0⟩
noncomputable def y6 (l : (List aa)) (kind : Int) : Option ((Int × Bool)) := (y8 kind l)
theorem acE {l : (List aa)} {kind : Int} {K : KT} (h : W (y6 l kind) (rE Nz K)) : ah Tryz.prog 41 (List.drop 0 wQ) K (ag4 l kind) :=
  ah.qD mixed [] [1,6,7,10,11,12,19,20,21,22,25,26,27,28,29,30,31,32,33] 0 3 3 (.nx (fun K => wK K .normal (Sf kind l)) (l0 (YA h)))
noncomputable def tt (l : (List aa)) (kind : Int) : Option ((Int × Bool)) := y6 l kind
noncomputable def BA : bW := fK gy (aI .i64) tt ((0 : Int),false) Hc
theorem Ir : Meets Tryz.prog 51 BA := dp Tryz.f51 (ar Tryz.f51) [.tmp 4, .tmp 5] 41 fun u0 u1 y h => @acE u0 u1 _ (bi.2 ⟨y,h,(cH (.tup [(i64 y.1),(bl y.2)]) (VLe.tup (VLes.cons (VLe.rfl' _) (VLes.cons (VLe.rfl' _) (VLes.nil)))))⟩)
noncomputable abbrev e51 : FE Tryz.prog := ⟨51, .pure BA,Ir⟩
noncomputable def WH : List Code := aD (ar Tryz.f21)
def Hq (x_1 : (Int × Bool)) : bS := .data (.tup [(i64 x_1.1),(bl x_1.2)])
def agM (x_1 : (Int × Bool)) : St := ⟨[sv 2 (i64 x_1.1),sv 3 (bl x_1.2)],[],0⟩
def Uh (l : (List aa)) : St := ⟨[sv 0 (aH l)],[],0⟩
noncomputable def oA (l : (List aa)) : Option ((Int × Bool)) := (tt l 12).bind fun r_1 => ((some (r_1.1,r_1.2)))
theorem YN (l : (List aa)) (K : KT) {L1_ : List aa} (hL1_ : lst aY l.length (be l) = L1_) :
    ev Tryz.prog (cy [e51]) 8 (ofItems ((List.drop 0 WH).take 3)) (cN [2,3] K) (Uh l) =
    (let a1_ := tt L1_ 12; (lD l) ∧ (a1_.isSome = true) ∧ (wK K .ret (agM ((a1_.getD (0,false)).1,(a1_.getD (0,false)).2)))) := by subst hL1_; kernel_rfl
theorem ae9 {l : (List aa)} {K : KT} (h : W (oA l) (rE agM K)) : ah Tryz.prog 8 (List.drop 0 WH) K (Uh l) :=
  ah.qE mixed [e51] [2,3] 0 3 (.of (YN l _ (lb au)) (⟨kb au,(aq (0,false) h fun _ h => (l0 h))⟩))
noncomputable def jy (l : (List aa)) : Option ((Int × Bool)) := oA l
noncomputable def Ad : bW := fO gy jy ((0 : Int),false) Hq
theorem I1 : Meets Tryz.prog 21 Ad := dq Tryz.f21 (ar Tryz.f21) [.tmp 2, .tmp 3] 8 fun u0 y h => @ae9 u0 _ (bi.2 ⟨y,h,(cH (.tup [(i64 y.1),(bl y.2)]) (VLe.tup (VLes.cons (VLe.rfl' _) (VLes.cons (VLe.rfl' _) (VLes.nil)))))⟩)
noncomputable abbrev Xt : FE Tryz.prog := ⟨21, .pure Ad,I1⟩
noncomputable def wS : List Code := aD (ar Tryz.f24)
noncomputable def Xc : List Code := aD (aj (aj (aQ wS 3)))
def Cw (x_1 : (List ac)) : bS := .own true 36 2 (x_1).length (bf bs aF x_1)
def Nw (x_1 : (List ac)) : St := ⟨[sv 6 (.row 0 2 0 x_1.length)],[(bn 0 36 x_1)],1⟩
def Jr (kind ref : Int) (l : (List aa)) (s : ((List ac) × Int)) : St := match s with | (out_1,t12) => ⟨[sv 1 (i64 kind),sv 2 (i64 ref),sv 7 (.row 0 2 0 out_1.length),sv 10 (aH l),sv 11 (i64 (l.length : Int)),sv 12 (i64 t12)],[(bn 0 36 out_1)],1⟩
def YR (kind ref : Int) (l : (List aa)) (s : (List ac)) : St := match s with | out_2 => ⟨[sv 7 (.row 0 2 0 out_2.length)],[(bn 0 36 out_2)],1⟩
def A6 (kind ref : Int) (l : (List aa)) (r : (((List ac)))) (K : KT) : Prop := match r with | s => K (.exit 0) (YR kind ref l s)
def aiQ (kind ref : Int) (out_1 : (List ac)) (l : (List aa)) (t12 : Int) : St := ⟨[sv 1 (i64 kind),sv 2 (i64 ref),sv 7 (.row 0 2 0 out_1.length),sv 10 (aH l),sv 11 (i64 (l.length : Int)),sv 12 (i64 t12)],[(bn 0 36 out_1)],1⟩
noncomputable def gW (kind ref : Int) (out_1 : (List ac)) (l : (List aa)) (t12 : Int) : Option (((List ac) × Int) ⊕ (((List ac)))) := (bif (decide (t12 < (l.length : Int))) then gd (0 ≤ t12 ∧ t12 < (l.length : Int)) ((bif (bif ((l.getD (Int.toNat t12) aw).Kind == kind) then ((l.getD (Int.toNat t12) aw).Ref == ref) else false) then gd (cL (out_1.length + 1) 16) ((some (Sum.inl ((out_1 ++ ([(l.getD (Int.toNat t12) aw).Span] : List ac)),(ak (t12 + 1)))))) else (some (Sum.inl (out_1,(ak (t12 + 1))))))) else (some (Sum.inr out_1)))
theorem ZM {kind ref : Int} {out_1 : (List ac)} {l : (List aa)} {t12 : Int} {K : KT} (h : W (gW kind ref out_1 l t12) (nE (Jr kind ref l) (A6 kind ref l) K)) : ah Tryz.prog 33 (List.drop 0 Xc) K (aiQ kind ref out_1 l t12) :=
  ah.qE mixed [] [1,2,7,10,11,12,21,22,23,24] 0 4 (.nx (fun K => let a1_ := l.getD (Int.toNat t12) aw; let a2_ := out_1.length + 1; let a3_ := i64 (l.length : Int); (bif (decide (t12 < (l.length : Int))) then (0 ≤ t12) ∧ (t12 < (l.length : Int)) ∧ ((bif (bif (a1_.Kind == kind) then (a1_.Ref == ref) else false) then (out_1.length = out_1.length) ∧ (a2_ * 16 ≤ 140737488355328) ∧ (a2_ ≤ 140737488355328) ∧ (wK K .normal (⟨[sv 1 (i64 kind),sv 2 (i64 ref),sv 7 (.row 0 2 0 a2_),sv 10 (aH l),sv 11 a3_,sv 12 (i64 (ak (t12 + 1))),un 21,un 22,un 23,un 24],[(0,some (.row 36 2 a2_ (fun i => bif Nat.blt i out_1.length then (cx out_1) i else (fun i => (dw 2 (bs (a1_.Span))) (0 + i)) (i - out_1.length))))],1⟩)) else wK K .normal (⟨[sv 1 (i64 kind),sv 2 (i64 ref),sv 7 (.row 0 2 0 out_1.length),sv 10 (aH l),sv 11 a3_,sv 12 (i64 (ak (t12 + 1))),un 21,un 22,un 23,un 24],[(bn 0 36 out_1)],1⟩))) else wK K (.exit 0) (⟨[sv 1 (i64 kind),sv 2 (i64 ref),sv 7 (.row 0 2 0 out_1.length),sv 10 (aH l),sv 11 a3_,sv 12 (i64 t12)],[(bn 0 36 out_1)],1⟩))) (al h (fun _ h => (aT h fun _ h => (al h (fun _ h => ⟨rfl,(aT h fun _ h => (lf h (.of (.q rfl (.q rfl (.cons rfl (.rown (ce rfl rfl)) (.qs 3 .nil)))) (.row rfl (ai.app .b (ai.zero (ai.l1 (enc := bs) (z := aF) 2 ((l.getD (Int.toNat t12) aw).Span) rfl))) .nil rfl) rfl)))⟩) (fun _ h => (lf h (.cn [1,2,7,10,11,12])))))) (fun _ h => (lf h (.cn [7])))))
noncomputable def eW (kind ref : Int) (l : (List aa)) (s : ((List ac) × Int)) : Option (((List ac) × Int) ⊕ (((List ac)))) := match s with | (out_1,t12) => gW kind ref out_1 l t12
theorem aag (kind ref : Int) (l : (List aa)) (s : ((List ac) × Int)) : Pp Tryz.prog 33 (List.drop 0 Xc) (Jr kind ref l s) (eW kind ref l s) (cq (Jr kind ref l) (A6 kind ref l)) := fun K h => match s,h with | (out_1,t12),h => (ZM h)
theorem Rm (kind ref : Int) (l : (List aa)) : ∀ (r : (((List ac)))) (J : St → Prop) (K : KT),A6 kind ref l r K → A6 kind ref l r (aM J K)
  | s,_,_,h => h
def Ul (out_3 : (List ac)) : St := ⟨[sv 7 (.row 0 2 0 out_3.length)],[(bn 0 36 out_3)],1⟩
noncomputable def ud (out_3 : (List ac)) : Option ((List ac)) := (some out_3)
theorem aep {out_3 : (List ac)} {K : KT} (h : W (ud out_3) (rE Nw K)) : ah Tryz.prog 33 (List.drop 4 wS) K (Ul out_3) :=
  ah.qE mixed [] [6] 4 2 (.nx (fun K => wK K .ret (Nw out_3)) (l0 h))
def Sm (kind ref : Int) (l : (List aa)) : St := ⟨[sv 1 (i64 kind),sv 2 (i64 ref),sv 7 (.c .nil),sv 10 (aH l),sv 11 (i64 (l.length : Int)),sv 12 (i64 0)],[],0⟩
noncomputable def rV (kind ref : Int) (l : (List aa)) (r : (((List ac)))) : Option ((List ac)) := match r with | out_2 => (ud out_2)
noncomputable def ub (kind ref : Int) (l : (List aa)) : Option ((List ac)) := (aN (eW kind ref l) (([] : List ac),0)).bind (rV kind ref l)
theorem Zs : List.drop 3 wS = .block 0 (.loop (aj (aj (aQ wS 3)))) :: List.drop 4 wS := by kernel_rfl
theorem ahd (kind ref : Int) (l : (List aa)) (K : KT) : ∀ r : (((List ac))),W (rV kind ref l r) (rE Nw K) → A6 kind ref l r (wK (bg 0 (aM (ah Tryz.prog 33 (List.drop 4 wS) K) K)))
  | out_2,h => ⟨(Ul out_2),(.refl _),(aep h)⟩
theorem aca {kind ref : Int} {l : (List aa)} {K : KT} (h : W (ub kind ref l) (rE Nw K)) : ah Tryz.prog 33 (List.drop 3 wS) K (Sm kind ref l) :=
  ah.at_ Zs (ah.cons_loop (aE.weak (aE.ent (.trans (.nilrow 7 0 36 2 (bf bs aF []) (Nat.le_of_ble_eq_true rfl) rfl) (.cn [1,2,7,10,11,12])) (aE.loopF (x := aj (aj (aQ wS 3))) (f := eW kind ref l) (emb := Jr kind ref l) (E := A6 kind ref l) (aag kind ref l) (Rm kind ref l) (bT h (ahd kind ref l K))))))
def ai0 (l : (List aa)) (kind ref : Int) : St := ⟨[sv 0 (aH l),sv 1 (i64 kind),sv 2 (i64 ref)],[],0⟩
noncomputable def tJ (l : (List aa)) (kind ref : Int) : Option ((List ac)) := (ub kind ref l)
theorem abl {l : (List aa)} {kind ref : Int} {K : KT} (h : W (tJ l kind ref) (rE Nw K)) : ah Tryz.prog 33 (List.drop 0 wS) K (ai0 l kind ref) :=
  ah.qD mixed [] [1,2,7,10,11,12,21,22,23,24] 0 3 3 (.nx (fun K => wK K .normal (Sm kind ref l)) (l0 (aca h)))
noncomputable def ck (l : (List aa)) (kind ref : Int) : Option ((List ac)) := tJ l kind ref
noncomputable def vV : bW := xt gy (aI .i64) (aI .i64) ck ([] : List ac) Cw
theorem DY : Meets Tryz.prog 24 vV := sG Tryz.f24 (ar Tryz.f24) [.tmp 6] 33 fun u0 u1 u2 y h => @abl u0 u1 u2 _ (bi.2 ⟨y,h,(cH (.row 0 2 0 y.length) (⟨_,_,_,rfl,rfl,rfl,fun _ _ => rfl,fun _ i hi d hd => lJ _ d hd⟩))⟩)
noncomputable abbrev PC : FE Tryz.prog := ⟨24, .pure vV,DY⟩
noncomputable def ajt : List Code := aD (ar Tryz.f87)
def Io (x_1 : ac) : bS := .data (.agg [(i64 x_1.From),(i64 x_1.To)])
def aiL (x_1 : ac) : St := ⟨[sv 2 (.ptr 0 2 0 0)],[(0,some (.box [(i64 x_1.From),(i64 x_1.To)]))],1⟩
def ahT (s_1 : ac) : St := ⟨[sv 0 (.ag (bs s_1))],[],0⟩
noncomputable def Ab (s_1 : ac) : Option (ac) := (some (ac.mk (if s_1.From < 0 then (0 : Int) else s_1.From) (if (73049 : Int) < s_1.To then (73049 : Int) else s_1.To)))
theorem Zt {s_1 : ac} {K : KT} (h : W (Ab s_1) (rE aiL K)) : ah Tryz.prog 10 (List.drop 0 ajt) K (ahT s_1) :=
  ah.qE mixed [] [2] 0 3 (.nx (fun K => wK K .ret (aiL (ac.mk (if s_1.From < 0 then (0 : Int) else s_1.From) (if (73049 : Int) < s_1.To then (73049 : Int) else s_1.To)))) (l0 h))
noncomputable def qt (s_1 : ac) : Option (ac) := Ab s_1
noncomputable def Du : bW := fO AA qt aF Io
theorem J6 : Meets Tryz.prog 87 Du := dq Tryz.f87 (ar Tryz.f87) [.cell 2 36] 10 fun u0 y h => @Zt u0 _ (bi.2 ⟨y,h,(cH (.agg [(i64 y.From),(i64 y.To)]) (VLe.rfl' _))⟩)
noncomputable abbrev e87 : FE Tryz.prog := ⟨87, .pure Du,J6⟩
instance : Inhabited ac := ⟨aF⟩
def co (a b : ac) : Bool := decide (a.From < b.From)
theorem AF : Go.Sort.SWO co := ⟨fun x => by simp [co],fun x y z h1 h2 => by simp [co] at *; omega,fun x y z h1 h2 => by simp [co] at *; omega⟩
def mf (x : ac) : List Value := [.int .i64 x.From, .int .i64 x.To]
theorem Bx (x : ac) (v : Value) (hv : v ∈ mf x) : v.oneCell' = true := by
  unfold mf at hv
  simp only [List.mem_cons,List.not_mem_nil,or_false] at hv
  rcases hv with rfl | rfl <;> rfl
noncomputable def nA (l : List ac) : Option (List ac) := gd (l.length < 4611686018427387904) (some (ik co l))
noncomputable def Fb : az → Nat → List V → Option dE := PZ bs cd aF 66 36 2 89 nA
section
open Go.Shelf Go.RowKit Go.Lib Go.Sort
set_option maxHeartbeats 2000000 in
theorem H2 (W : World) (blk off c Bs size : Nat) (G : Nat → Int) (hs : W.cell? ⟨Bs,0,none⟩ = some (.slice (some ⟨blk,off,none⟩) size c))
    (hc : ∀ t,t < size → W.cell? ⟨blk,off + t * 2,none⟩ = some (.int .i64 (G t))) (i j : Nat) (hi : i < size) (hj : j < size) (_hsz : size < 4611686018427387904) :
    Calls Tryz.prog 89 #[.int .i64 i, .int .i64 j, .pointer (some ⟨Bs,0,none⟩)] W fun e w' => e = .returned (.bool (decide (G i < G j))) ∧ ∃ q,w' = W.drewN q := by
  have ci := hc i hi
  have cj := hc j hj
  go_enter Tryz.func89,Tryz.ntmps89
  go_wp2
  go_quiet (fail)
  go_wp2
  go_ret
  exact ⟨rfl,nq,rfl⟩
theorem IU (W : World) (blk c Bs : Nat) (d : Array ac) (hH : HoldsK mf 2 W blk 0 d) (hsz : d.size < 4611686018427387904) (hs : W.cell? ⟨Bs,0,none⟩ = some (.slice (some ⟨blk,0,none⟩) d.size c)) (i j : Nat) (hi : i < d.size) (hj : j < d.size) :
    Calls Tryz.prog 89 #[.int .i64 i, .int .i64 j, .pointer (some ⟨Bs,0,none⟩)] W fun e w' => e = .returned (.bool (co d[i]! d[j]!)) ∧ ∃ q,w' = W.drewN q :=
  H2 W blk 0 c Bs d.size (fun t => d[t]!.From) hs (fun t ht => (hH.cell (i := t) (c := 0) ht (by omega)).1) i j hi hj hsz
noncomputable def L5 : TypeInfo := (Tryz.prog.info? 66).get (by kernel_rfl)
noncomputable def wd : TypeInfo := (Tryz.prog.info? 36).get (by kernel_rfl)
theorem Kv : JX Tryz.prog 88 66 89 2 mf co := by
  have hp : wd.hasPointers = false := by kernel_rfl
  have hb : wd.bytes = 16 := by kernel_rfl
  exact Qj (T := ac) (enc := mf) (k := 2) (lt := co) (t := 66) (e := 36) (g := 89) (i := L5) (ie := wd) (s := 9) (f2 := 118) Tryz.sl (by kernel_rfl) (by kernel_rfl) (by kernel_rfl) (by kernel_rfl) (ke := 25) (fun _ => by kernel_rfl) (fun _ => rfl) (by kernel_rfl) (fun _ => by kernel_rfl) Bx AF
    (rH (c := ar Tryz.f89) Tryz.func89 (by kernel_rfl) (by kernel_rfl)) (by kernel_rfl) (rH (c := ar Tryz.f88) Tryz.func88 (by kernel_rfl) (by kernel_rfl)) (f0 := 110) (by kernel_rfl) (f1 := 111) (by kernel_rfl)
    (fun n h2 => by
      have c : (n == 0) = false := by simp; omega
      have d : (n == 1) = false := by simp; omega
      simp [Lib.swapperK,hp,hb,c,d]) (by kernel_rfl) (gS := false) (fun args W => run_callFunc_extern Tryz.func118 (by kernel_rfl) (by kernel_rfl) (by kernel_rfl) (e := Extern.ReflectliteSwapper.swap false) (by kernel_rfl) args W)
    IU
end
theorem LP : dl Tryz.prog 88 (.mut Fb) :=
  OY AF (by decide) (by kernel_rfl) (fun _ => rfl) (fun _ => rfl) Bx (fun l x h => ⟨(KH.1 h).1,(Option.some.inj (KH.1 h).2).symm⟩) Kv
noncomputable abbrev e88 : FE Tryz.prog := ⟨88, .mut Fb,LP⟩
noncomputable def kZ : List Code := aD (ar Tryz.f69)
noncomputable def XH : List Code := aD (aj (aj (aQ kZ 3)))
noncomputable def W6 : List Code := aD (aj (aj (aQ kZ 7)))
def JH (x_1 : (List ac)) : bS := .own true 36 2 (x_1).length (bf bs aF x_1)
def Fe (x_1 : (List ac)) : St := ⟨[sv 2 (.row 0 2 0 x_1.length)],[(bn 0 36 x_1)],1⟩
def EF (l : (List ac)) (s : (Int × (List ac))) : St := match s with | (t12,sorted) => ⟨[sv 3 (.ptr 0 1 0 0),sv 10 (cr l),sv 11 (i64 (l.length : Int)),sv 12 (i64 t12)],[(0,some (.box [(.row 1 2 0 sorted.length)])),(bn 1 36 sorted)],2⟩
def aal (l : (List ac)) (s : (List ac)) : St := match s with | sorted_1 => ⟨[sv 3 (.ptr 0 1 0 0)],[(0,some (.box [(.row 1 2 0 sorted_1.length)])),(bn 1 36 sorted_1)],2⟩
def BR (l : (List ac)) (r : (((List ac)))) (K : KT) : Prop := match r with | s => K (.exit 0) (aal l s)
def agc (l : (List ac)) (t12 : Int) (sorted : (List ac)) : St := ⟨[sv 3 (.ptr 0 1 0 0),sv 10 (cr l),sv 11 (i64 (l.length : Int)),sv 12 (i64 t12)],[(0,some (.box [(.row 1 2 0 sorted.length)])),(bn 1 36 sorted)],2⟩
noncomputable def ll (l : (List ac)) (t12 : Int) (sorted : (List ac)) : Option ((Int × (List ac)) ⊕ (((List ac)))) := (bif (decide (t12 < (l.length : Int))) then gd (0 ≤ t12 ∧ t12 < (l.length : Int)) ((qt (l.getD (Int.toNat t12) aF)).bind fun r_1 => ((bif (decide (r_1.From < r_1.To)) then gd (cL (sorted.length + 1) 16) ((some (Sum.inl ((ak (t12 + 1)),(sorted ++ ([r_1] : List ac)))))) else (some (Sum.inl ((ak (t12 + 1)),sorted)))))) else (some (Sum.inr sorted)))
theorem Yz {l : (List ac)} {t12 : Int} {sorted : (List ac)} {K : KT} (h : W (ll l t12 sorted) (nE (EF l) (BR l) K)) : ah Tryz.prog 73 (List.drop 0 XH) K (agc l t12 sorted) :=
  ah.qE mixed [e87] [3,10,11,12,43,44,45,46,47,48,49,50,51] 0 4 (.nx (fun K => let a1_ := qt (l.getD (Int.toNat t12) aF); let a2_ := sorted.length + 1; (bif (decide (t12 < (l.length : Int))) then (0 ≤ t12) ∧ (t12 < (l.length : Int)) ∧ ((a1_.isSome = true) ∧ ((bif (decide ((a1_.getD aF).From < (a1_.getD aF).To)) then (sorted.length = sorted.length) ∧ (a2_ * 16 ≤ 140737488355328) ∧ (a2_ ≤ 140737488355328) ∧ (wK K .normal (⟨[sv 3 (.ptr 0 1 0 0),sv 10 (cr l),sv 11 (i64 (l.length : Int)),sv 12 (i64 (ak (t12 + 1)))],[(0,some (.box [(.row 1 2 0 a2_)])),(1,some (.row 36 2 a2_ (fun i => bif Nat.blt i sorted.length then (cx sorted) i else (fun i => (dw 2 (bs (a1_.getD aF))) (0 + i)) (i - sorted.length))))],2⟩)) else wK K .normal (EF l ((ak (t12 + 1)),sorted))))) else wK K (.exit 0) (⟨[sv 3 (.ptr 0 1 0 0),sv 10 (cr l),sv 11 (i64 (l.length : Int)),sv 12 (i64 t12)],[(0,some (.box [(.row 1 2 0 sorted.length)])),(bn 1 36 sorted)],2⟩))) (al h (fun _ h => (aT h fun _ h => (aq aF h fun _ h => (al h (fun _ h => ⟨rfl,(aT h fun _ h => (lf h (.of (.qs 4 .nil) (.box rfl (.cons (.rown (ce rfl rfl)) .nil) (.row rfl (ai.app .b (ai.zero (ai.l1 (enc := bs) (z := aF) 2 ((qt (l.getD (Int.toNat t12) aF)).getD aF) rfl))) .nil rfl)) rfl)))⟩) (fun _ h => (l0 h)))))) (fun _ h => (lf h (.cn [3])))))
noncomputable def jV (l : (List ac)) (s : (Int × (List ac))) : Option ((Int × (List ac)) ⊕ (((List ac)))) := match s with | (t12,sorted) => ll l t12 sorted
theorem Zl (l : (List ac)) (s : (Int × (List ac))) : Pp Tryz.prog 73 (List.drop 0 XH) (EF l s) (jV l s) (cq (EF l) (BR l)) := fun K h => match s,h with | (t12,sorted),h => (Yz h)
theorem QC (l : (List ac)) : ∀ (r : (((List ac)))) (J : St → Prop) (K : KT),BR l r K → BR l r (aM J K)
  | s,_,_,h => h
def Jb (t32 : (List ac)) (t33 : Int) (s : ((List ac) × (List ac) × Int × Int)) : St := match s with | (out_1,t32_1,t33_1,t34) => ⟨[sv 6 (.row 0 2 0 out_1.length),sv 32 (.row 1 2 0 t32_1.length),sv 33 (i64 t33_1),sv 34 (i64 t34)],[(bn 0 36 out_1),(bn 1 36 t32_1)],2⟩
def adA (t32 : (List ac)) (t33 : Int) (s : (List ac)) : St := match s with | out_2 => ⟨[sv 6 (.row 0 2 0 out_2.length)],[(bn 0 36 out_2)],1⟩
def z8 (t32 : (List ac)) (t33 : Int) (r : (((List ac)))) (K : KT) : Prop := match r with | s => K (.exit 2) (adA t32 t33 s)
def ags (out_1 t32_1 : (List ac)) (t33_1 t34 : Int) : St := ⟨[sv 6 (.row 0 2 0 out_1.length),sv 32 (.row 1 2 0 t32_1.length),sv 33 (i64 t33_1),sv 34 (i64 t34)],[(bn 0 36 out_1),(bn 1 36 t32_1)],2⟩
noncomputable def jU (out_1 t32_1 : (List ac)) (t33_1 t34 : Int) : Option (((List ac) × (List ac) × Int × Int) ⊕ (((List ac)))) := (bif (decide (t34 < t33_1)) then gd (0 ≤ t34 ∧ t34 < (t32_1.length : Int)) (gd (((decide (0 < (out_1.length : Int))) && true) = true → 0 ≤ (ak ((out_1.length : Int) - 1))) (gd (((decide (0 < (out_1.length : Int))) && true) = true → (ak ((out_1.length : Int) - 1)) < (out_1.length : Int)) ((bif (bif (decide (0 < (out_1.length : Int))) then (decide ((t32_1.getD (0 + (Int.toNat t34)) aF).From ≤ (out_1.getD (0 + (Int.toNat (ak ((out_1.length : Int) - 1)))) aF).To)) else false) then gd (0 ≤ (ak ((out_1.length : Int) - 1)) ∧ (ak ((out_1.length : Int) - 1)) < (out_1.length : Int)) (gd (0 ≤ (ak ((out_1.length : Int) - 1)) ∧ (ak ((out_1.length : Int) - 1)) < (out_1.length : Int)) ((some (Sum.inl ((out_1.set (0 + (Int.toNat (ak ((out_1.length : Int) - 1)))) (ac.mk (out_1.getD (0 + (Int.toNat (ak ((out_1.length : Int) - 1)))) aF).From (if (out_1.getD (0 + (Int.toNat (ak ((out_1.length : Int) - 1)))) aF).To < (t32_1.getD (0 + (Int.toNat t34)) aF).To then (t32_1.getD (0 + (Int.toNat t34)) aF).To else (out_1.getD (0 + (Int.toNat (ak ((out_1.length : Int) - 1)))) aF).To))),t32_1,t33_1,(ak (t34 + 1))))))) else gd (cL (out_1.length + 1) 16) ((some (Sum.inl ((out_1 ++ ([(t32_1.getD (0 + (Int.toNat t34)) aF)] : List ac)),t32_1,t33_1,(ak (t34 + 1)))))))))) else (some (Sum.inr out_1)))
theorem aaC {out_1 t32_1 : (List ac)} {t33_1 t34 : Int} {t32 : (List ac)} {t33 : Int} {K : KT} (h : W (jU out_1 t32_1 t33_1 t34) (nE (Jb t32 t33) (z8 t32 t33) K)) : ah Tryz.prog 73 (List.drop 0 W6) K (ags out_1 t32_1 t33_1 t34) :=
  ah.qE mixed [] [6,32,33,34,43,44,45,46,47,48,49,50,51] 0 4 (.nx (fun K => let a4_ := (out_1.length : Int); let a1_ := ak (a4_ - 1); let a2_ := t32_1.getD (0 + (Int.toNat t34)) aF; let a3_ := out_1.getD (0 + (Int.toNat a1_)) aF; let a5_ := out_1.length + 1; let a6_ := bn 1 36 t32_1; let a7_ := decide (0 < a4_); (bif (decide (t34 < t33_1)) then (0 ≤ t34) ∧ (t34 < (t32_1.length : Int)) ∧ (((a7_ && true) = true → 0 ≤ a1_) ∧ ((a7_ && true) = true → a1_ < a4_) ∧ ((bif (bif a7_ then (decide (a2_.From ≤ a3_.To)) else false) then (0 ≤ a1_) ∧ (a1_ < a4_) ∧ (0 ≤ a1_) ∧ (a1_ < a4_) ∧ (wK K .normal (⟨[sv 6 (.row 0 2 0 out_1.length),sv 32 (.row 1 2 0 t32_1.length),sv 33 (i64 t33_1),sv 34 (i64 (ak (t34 + 1))),un 43,un 44,un 45,un 46,un 47,un 48,un 49,un 50,un 51],[(0,some (.row 36 2 out_1.length (fun q => bif Nat.beq q (0 + (Int.toNat a1_)) then (bs (ac.s_To a3_ (if a3_.To < a2_.To then a2_.To else a3_.To))) else (cx out_1) q))),a6_],2⟩)) else (out_1.length = out_1.length) ∧ (a5_ * 16 ≤ 140737488355328) ∧ (a5_ ≤ 140737488355328) ∧ (wK K .normal (⟨[sv 6 (.row 0 2 0 a5_),sv 32 (.row 1 2 0 t32_1.length),sv 33 (i64 t33_1),sv 34 (i64 (ak (t34 + 1))),un 43,un 44,un 45,un 46,un 47,un 48,un 49,un 50,un 51],[(0,some (.row 36 2 a5_ (fun i => bif Nat.blt i out_1.length then (cx out_1) i else (fun i => (dw 2 (bs a2_)) (0 + i)) (i - out_1.length)))),a6_],2⟩))))) else wK K (.exit 2) (⟨[sv 6 (.row 0 2 0 out_1.length),sv 32 (.row 1 2 0 t32_1.length),sv 33 (i64 t33_1),sv 34 (i64 t34)],[(bn 0 36 out_1),a6_],2⟩))) (al h (fun _ h => (aT h fun _ h => (bF h fun _ h => (bF h fun _ h => (al h (fun _ h => (aT h fun _ h => (aT h fun _ h => (lf h (.of (.cons rfl (.rown (uA rfl)) (.qs 3 .nil)) (.row rfl (ai.set .b (0 + (Int.toNat (ak ((out_1.length : Int) - 1)))) (ac.s_To (out_1.getD (0 + (Int.toNat (ak ((out_1.length : Int) - 1)))) aF) (if (out_1.getD (0 + (Int.toNat (ak ((out_1.length : Int) - 1)))) aF).To < (t32_1.getD (0 + (Int.toNat t34)) aF).To then (t32_1.getD (0 + (Int.toNat t34)) aF).To else (out_1.getD (0 + (Int.toNat (ak ((out_1.length : Int) - 1)))) aF).To)) rfl) (.same rfl .nil) rfl) rfl))))) (fun _ h => ⟨rfl,(aT h fun _ h => (lf h (.of (.cons rfl (.rown (ce rfl rfl)) (.qs 3 .nil)) (.row rfl (ai.app .b (ai.zero (ai.l1 (enc := bs) (z := aF) 2 (t32_1.getD (0 + (Int.toNat t34)) aF) rfl))) (.same rfl .nil) rfl) rfl)))⟩)))))) (fun _ h => (lf h (.cn [6])))))
noncomputable def nK (t32 : (List ac)) (t33 : Int) (s : ((List ac) × (List ac) × Int × Int)) : Option (((List ac) × (List ac) × Int × Int) ⊕ (((List ac)))) := match s with | (out_1,t32_1,t33_1,t34) => jU out_1 t32_1 t33_1 t34
theorem aew (t32 : (List ac)) (t33 : Int) (s : ((List ac) × (List ac) × Int × Int)) : Pp Tryz.prog 73 (List.drop 0 W6) (Jb t32 t33 s) (nK t32 t33 s) (cq (Jb t32 t33) (z8 t32 t33)) := fun K h => match s,h with | (out_1,t32_1,t33_1,t34),h => (aaC h)
theorem Rz (t32 : (List ac)) (t33 : Int) : ∀ (r : (((List ac)))) (J : St → Prop) (K : KT),z8 t32 t33 r K → z8 t32 t33 r (aM J K)
  | s,_,_,h => h
def UM (out_3 : (List ac)) : St := ⟨[sv 6 (.row 0 2 0 out_3.length)],[(bn 0 36 out_3)],1⟩
noncomputable def De (out_3 : (List ac)) : Option ((List ac)) := (some out_3)
theorem Zk {out_3 : (List ac)} {K : KT} (h : W (De out_3) (rE Fe K)) : ah Tryz.prog 73 (List.drop 8 kZ) K (UM out_3) :=
  ah.qE mixed [] [2] 8 2 (.nx (fun K => wK K .ret (Fe out_3)) (l0 h))
def Ss (t32 : (List ac)) (t33 : Int) : St := ⟨[sv 6 (.c .nil),sv 32 (.row 0 2 0 t32.length),sv 33 (i64 t33),sv 34 (i64 0)],[(bn 0 36 t32)],1⟩
noncomputable def yK (t32 : (List ac)) (t33 : Int) (r : (((List ac)))) : Option ((List ac)) := match r with | out_2 => (De out_2)
noncomputable def DO (t32 : (List ac)) (t33 : Int) : Option ((List ac)) := (aN (nK t32 t33) (([] : List ac),t32,t33,0)).bind (yK t32 t33)
theorem Zz : List.drop 7 kZ = .block 2 (.loop (aj (aj (aQ kZ 7)))) :: List.drop 8 kZ := by kernel_rfl
theorem af6 (t32 : (List ac)) (t33 : Int) (K : KT) : ∀ r : (((List ac))),W (yK t32 t33 r) (rE Fe K) → z8 t32 t33 r (wK (bg 2 (aM (ah Tryz.prog 73 (List.drop 8 kZ) K) K)))
  | out_2,h => ⟨(UM out_2),(.refl _),(Zk h)⟩
theorem Zp {t32 : (List ac)} {t33 : Int} {K : KT} (h : W (DO t32 t33) (rE Fe K)) : ah Tryz.prog 73 (List.drop 7 kZ) K (Ss t32 t33) :=
  ah.at_ Zz (ah.cons_loop (aE.weak (aE.ent (.trans (.nilrow 6 1 36 2 (bf bs aF []) (Nat.le_of_ble_eq_true rfl) rfl) (.cn [6,32,33,34])) (aE.loopF (x := aj (aj (aQ kZ 7))) (f := nK t32 t33) (emb := Jb t32 t33) (E := z8 t32 t33) (aew t32 t33) (Rz t32 t33) (bT h (af6 t32 t33 K))))))
def NX (sorted_2 : (List ac)) : St := ⟨[sv 3 (.ptr 0 1 0 0)],[(0,some (.box [(.row 1 2 0 sorted_2.length)])),(bn 1 36 sorted_2)],2⟩
noncomputable def Dz (sorted_2 : (List ac)) : Option ((List ac)) := (nA sorted_2).bind fun r_2 => ((DO r_2 (r_2.length : Int)))
theorem Zb (sorted_2 : (List ac)) (K : KT) {L1_ : List ac} (hL1_ : lst cd sorted_2.length (cx sorted_2) = L1_) :
    ev Tryz.prog (cy [e88]) 73 (ofItems ((List.drop 4 kZ).take 3)) (cN [6,32,33,34,43,44,45,46,47,48,49,50,51] K) (NX sorted_2) =
    (let a1_ := sorted_2.length = sorted_2.length; a1_ ∧ a1_ ∧ (mE sorted_2) ∧ ((nA L1_).isSome = true) ∧ (wK K .normal (Ss ((nA L1_).getD []) ((((nA L1_).getD [])).length : Int)))) := by subst hL1_; kernel_rfl
theorem aau {sorted_2 : (List ac)} {K : KT} (h : W (Dz sorted_2) (rE Fe K)) : ah Tryz.prog 73 (List.drop 4 kZ) K (NX sorted_2) :=
  ah.qD mixed [e88] [6,32,33,34,43,44,45,46,47,48,49,50,51] 4 3 7 (.of (Zb sorted_2 _ (lb aW)) (⟨(rfl),⟨(rfl),⟨kb aW,(aq [] h fun _ h => (l0 (Zp h)))⟩⟩⟩))
def U9 (l : (List ac)) : St := ⟨[sv 3 (.ptr 0 1 0 0),sv 10 (cr l),sv 11 (i64 (l.length : Int)),sv 12 (i64 0)],[(0,some (.box [(.c .nil)]))],1⟩
noncomputable def sD (l : (List ac)) (r : (((List ac)))) : Option ((List ac)) := match r with | sorted_1 => (Dz sorted_1)
noncomputable def DA (l : (List ac)) : Option ((List ac)) := (aN (jV l) (0,([] : List ac))).bind (sD l)
theorem adB : List.drop 3 kZ = .block 0 (.loop (aj (aj (aQ kZ 3)))) :: List.drop 4 kZ := by kernel_rfl
theorem afQ (l : (List ac)) (K : KT) : ∀ r : (((List ac))),W (sD l r) (rE Fe K) → BR l r (wK (bg 0 (aM (ah Tryz.prog 73 (List.drop 4 kZ) K) K)))
  | sorted_1,h => ⟨(NX sorted_1),(.refl _),(aau h)⟩
theorem YY {l : (List ac)} {K : KT} (h : W (DA l) (rE Fe K)) : ah Tryz.prog 73 (List.drop 3 kZ) K (U9 l) :=
  ah.at_ adB (ah.cons_loop (aE.weak (aE.ent (.trans (.nilbox 0 0 1 36 2 (bf bs aF []) [(.c .nil)] (Nat.le_of_ble_eq_true rfl) rfl rfl) (.cn [3,10,11,12])) (aE.loopF (x := aj (aj (aQ kZ 3))) (f := jV l) (emb := EF l) (E := BR l) (Zl l) (QC l) (bT h (afQ l K))))))
def ag2 (l : (List ac)) : St := ⟨[sv 0 (cr l)],[],0⟩
noncomputable def Dd (l : (List ac)) : Option ((List ac)) := (DA l)
theorem YZ {l : (List ac)} {K : KT} (h : W (Dd l) (rE Fe K)) : ah Tryz.prog 73 (List.drop 0 kZ) K (ag2 l) :=
  ah.qD mixed [] [3,10,11,12,43,44,45,46,47,48,49,50,51] 0 3 3 (.nx (fun K => wK K .normal (U9 l)) (l0 (YY h)))
noncomputable def eX (l : (List ac)) : Option ((List ac)) := Dd l
noncomputable def Ek : bW := fO lF eX ([] : List ac) JH
theorem L9 : Meets Tryz.prog 69 Ek := dq Tryz.f69 (ar Tryz.f69) [.tmp 2] 73 fun u0 y h => @YZ u0 _ (bi.2 ⟨y,h,(cH (.row 0 2 0 y.length) (⟨_,_,_,rfl,rfl,rfl,fun _ _ => rfl,fun _ i hi d hd => lJ _ d hd⟩))⟩)
noncomputable abbrev WK : FE Tryz.prog := ⟨69, .pure Ek,L9⟩
noncomputable def u9 : List Code := aD (ar Tryz.f53)
noncomputable def XS : List Code := aD (aj (aj (aQ u9 4)))
def D7 (x_1 : (List ac)) : bS := .own true 36 2 (x_1).length (bf bs aF x_1)
def M7 (x_1 : (List ac)) : St := ⟨[sv 4 (.row 0 2 0 x_1.length)],[(bn 0 36 x_1)],1⟩
def I0 (a_1 b_1 : (List ac)) (s : ((List ac) × Int × Int)) : St := match s with | (out_1,i_1,j) => ⟨[sv 0 (.row 0 2 0 a_1.length),sv 1 (.row 1 2 0 b_1.length),sv 5 (.row 2 2 0 out_1.length),sv 6 (i64 i_1),sv 7 (i64 j)],[(bn 0 36 a_1),(bn 1 36 b_1),(bn 2 36 out_1)],3⟩
def abV (a_1 b_1 : (List ac)) (s : (List ac)) : St := match s with | out_2 => ⟨[sv 5 (.row 0 2 0 out_2.length)],[(bn 0 36 out_2)],1⟩
def Ak (a_1 b_1 : (List ac)) (r : (((List ac)))) (K : KT) : Prop := match r with | s => K (.exit 0) (abV a_1 b_1 s)
def ahh (a_1 b_1 out_1 : (List ac)) (i_1 j : Int) : St := ⟨[sv 0 (.row 0 2 0 a_1.length),sv 1 (.row 1 2 0 b_1.length),sv 5 (.row 2 2 0 out_1.length),sv 6 (i64 i_1),sv 7 (i64 j)],[(bn 0 36 a_1),(bn 1 36 b_1),(bn 2 36 out_1)],3⟩
noncomputable def d6 (a_1 b_1 out_1 : (List ac)) (i_1 j : Int) : Option (((List ac) × Int × Int) ⊕ (((List ac)))) := (bif (bif (decide (i_1 < (a_1.length : Int))) then (decide (j < (b_1.length : Int))) else false) then gd (0 ≤ i_1 ∧ i_1 < (a_1.length : Int)) (gd (0 ≤ j ∧ j < (b_1.length : Int)) (gd (0 ≤ i_1 ∧ i_1 < (a_1.length : Int)) (gd (0 ≤ j ∧ j < (b_1.length : Int)) ((bif (decide ((if (a_1.getD (0 + (Int.toNat i_1)) aF).From < (b_1.getD (0 + (Int.toNat j)) aF).From then (b_1.getD (0 + (Int.toNat j)) aF).From else (a_1.getD (0 + (Int.toNat i_1)) aF).From) < (if (b_1.getD (0 + (Int.toNat j)) aF).To < (a_1.getD (0 + (Int.toNat i_1)) aF).To then (b_1.getD (0 + (Int.toNat j)) aF).To else (a_1.getD (0 + (Int.toNat i_1)) aF).To))) then gd (cL (out_1.length + 1) 16) (gd (0 ≤ i_1 ∧ i_1 < (a_1.length : Int)) (gd (0 ≤ j ∧ j < (b_1.length : Int)) ((bif (decide ((a_1.getD (0 + (Int.toNat i_1)) aF).To < (b_1.getD (0 + (Int.toNat j)) aF).To)) then (some (Sum.inl ((out_1 ++ ([(ac.mk (if (a_1.getD (0 + (Int.toNat i_1)) aF).From < (b_1.getD (0 + (Int.toNat j)) aF).From then (b_1.getD (0 + (Int.toNat j)) aF).From else (a_1.getD (0 + (Int.toNat i_1)) aF).From) (if (b_1.getD (0 + (Int.toNat j)) aF).To < (a_1.getD (0 + (Int.toNat i_1)) aF).To then (b_1.getD (0 + (Int.toNat j)) aF).To else (a_1.getD (0 + (Int.toNat i_1)) aF).To))] : List ac)),(ak (i_1 + 1)),j))) else (some (Sum.inl ((out_1 ++ ([(ac.mk (if (a_1.getD (0 + (Int.toNat i_1)) aF).From < (b_1.getD (0 + (Int.toNat j)) aF).From then (b_1.getD (0 + (Int.toNat j)) aF).From else (a_1.getD (0 + (Int.toNat i_1)) aF).From) (if (b_1.getD (0 + (Int.toNat j)) aF).To < (a_1.getD (0 + (Int.toNat i_1)) aF).To then (b_1.getD (0 + (Int.toNat j)) aF).To else (a_1.getD (0 + (Int.toNat i_1)) aF).To))] : List ac)),i_1,(ak (j + 1))))))))) else gd (0 ≤ i_1 ∧ i_1 < (a_1.length : Int)) (gd (0 ≤ j ∧ j < (b_1.length : Int)) ((bif (decide ((a_1.getD (0 + (Int.toNat i_1)) aF).To < (b_1.getD (0 + (Int.toNat j)) aF).To)) then (some (Sum.inl (out_1,(ak (i_1 + 1)),j))) else (some (Sum.inl (out_1,i_1,(ak (j + 1))))))))))))) else (some (Sum.inr out_1)))
theorem Y3 {a_1 b_1 out_1 : (List ac)} {i_1 j : Int} {K : KT} (h : W (d6 a_1 b_1 out_1 i_1 j) (nE (I0 a_1 b_1) (Ak a_1 b_1) K)) : ah Tryz.prog 71 (List.drop 0 XS) K (ahh a_1 b_1 out_1 i_1 j) :=
  ah.qE mixed [] [0,1,5,6,7,18,19,20,21] 0 3 (.nx (fun K => let a1_ := a_1.getD (0 + (Int.toNat i_1)) aF; let a2_ := b_1.getD (0 + (Int.toNat j)) aF; let a3_ := dw 2 (bs (ac.mk (if a1_.From < a2_.From then a2_.From else a1_.From) (if a2_.To < a1_.To then a2_.To else a1_.To))); let a4_ := i_1 < (a_1.length : Int); let a5_ := j < (b_1.length : Int); let a6_ := out_1.length + 1; let a7_ := bn 2 36 out_1; (bif (bif (decide a4_) then (decide a5_) else false) then (0 ≤ i_1) ∧ a4_ ∧ (0 ≤ j) ∧ a5_ ∧ (0 ≤ i_1) ∧ a4_ ∧ (0 ≤ j) ∧ a5_ ∧ ((bif (decide ((if a1_.From < a2_.From then a2_.From else a1_.From) < (if a2_.To < a1_.To then a2_.To else a1_.To))) then (out_1.length = out_1.length) ∧ (a6_ * 16 ≤ 140737488355328) ∧ (a6_ ≤ 140737488355328) ∧ ((0 ≤ i_1) ∧ a4_ ∧ (0 ≤ j) ∧ a5_ ∧ ((bif (decide (a1_.To < a2_.To)) then wK K .normal (⟨[sv 0 (.row 0 2 0 a_1.length),sv 1 (.row 1 2 0 b_1.length),sv 5 (.row 2 2 0 a6_),sv 6 (i64 (ak (i_1 + 1))),sv 7 (i64 j),un 18,un 19,un 20,un 21],[(bn 0 36 a_1),(bn 1 36 b_1),(2,some (.row 36 2 a6_ (fun i => bif Nat.blt i out_1.length then (cx out_1) i else (fun i => a3_ (0 + i)) (i - out_1.length))))],3⟩) else wK K .normal (⟨[sv 0 (.row 0 2 0 a_1.length),sv 1 (.row 1 2 0 b_1.length),sv 5 (.row 2 2 0 a6_),sv 6 (i64 i_1),sv 7 (i64 (ak (j + 1))),un 18,un 19,un 20,un 21],[(bn 0 36 a_1),(bn 1 36 b_1),(2,some (.row 36 2 a6_ (fun i => bif Nat.blt i out_1.length then (cx out_1) i else (fun i => a3_ (0 + i)) (i - out_1.length))))],3⟩)))) else (0 ≤ i_1) ∧ a4_ ∧ (0 ≤ j) ∧ a5_ ∧ ((bif (decide (a1_.To < a2_.To)) then wK K .normal (⟨[sv 0 (.row 0 2 0 a_1.length),sv 1 (.row 1 2 0 b_1.length),sv 5 (.row 2 2 0 out_1.length),sv 6 (i64 (ak (i_1 + 1))),sv 7 (i64 j),un 18,un 19,un 20,un 21],[(bn 0 36 a_1),(bn 1 36 b_1),a7_],3⟩) else wK K .normal (⟨[sv 0 (.row 0 2 0 a_1.length),sv 1 (.row 1 2 0 b_1.length),sv 5 (.row 2 2 0 out_1.length),sv 6 (i64 i_1),sv 7 (i64 (ak (j + 1))),un 18,un 19,un 20,un 21],[(bn 0 36 a_1),(bn 1 36 b_1),a7_],3⟩))))) else wK K (.exit 0) (⟨[sv 0 (.row 0 2 0 a_1.length),sv 1 (.row 1 2 0 b_1.length),sv 5 (.row 2 2 0 out_1.length),sv 6 (i64 i_1),sv 7 (i64 j),un 18,un 19,un 20,un 21],[(bn 0 36 a_1),(bn 1 36 b_1),a7_],3⟩))) (al h (fun _ h => (aT h fun _ h => (aT h fun _ h => (aT h fun _ h => (aT h fun _ h => (al h (fun _ h => ⟨rfl,(aT h fun _ h => (aT h fun _ h => (aT h fun _ h => (al h (fun _ h => (lf h (.of (.q rfl (.q rfl (.cons rfl (.rown (ce rfl rfl)) (.q rfl (.q rfl .nil))))) (.same rfl (.same rfl (.row rfl (ai.app .b (ai.zero (ai.l1 (enc := bs) (z := aF) 2 (ac.mk (if (a_1.getD (0 + (Int.toNat i_1)) aF).From < (b_1.getD (0 + (Int.toNat j)) aF).From then (b_1.getD (0 + (Int.toNat j)) aF).From else (a_1.getD (0 + (Int.toNat i_1)) aF).From) (if (b_1.getD (0 + (Int.toNat j)) aF).To < (a_1.getD (0 + (Int.toNat i_1)) aF).To then (b_1.getD (0 + (Int.toNat j)) aF).To else (a_1.getD (0 + (Int.toNat i_1)) aF).To)) rfl))) .nil rfl))) rfl))) (fun _ h => (lf h (.of (.q rfl (.q rfl (.cons rfl (.rown (ce rfl rfl)) (.q rfl (.q rfl .nil))))) (.same rfl (.same rfl (.row rfl (ai.app .b (ai.zero (ai.l1 (enc := bs) (z := aF) 2 (ac.mk (if (a_1.getD (0 + (Int.toNat i_1)) aF).From < (b_1.getD (0 + (Int.toNat j)) aF).From then (b_1.getD (0 + (Int.toNat j)) aF).From else (a_1.getD (0 + (Int.toNat i_1)) aF).From) (if (b_1.getD (0 + (Int.toNat j)) aF).To < (a_1.getD (0 + (Int.toNat i_1)) aF).To then (b_1.getD (0 + (Int.toNat j)) aF).To else (a_1.getD (0 + (Int.toNat i_1)) aF).To)) rfl))) .nil rfl))) rfl)))))))⟩) (fun _ h => (aT h fun _ h => (aT h fun _ h => (al h (fun _ h => (lf h (.cn [0,1,5,6,7]))) (fun _ h => (lf h (.cn [0,1,5,6,7]))))))))))))) (fun _ h => (lf h (.cn [5])))))
noncomputable def fE (a_1 b_1 : (List ac)) (s : ((List ac) × Int × Int)) : Option (((List ac) × Int × Int) ⊕ (((List ac)))) := match s with | (out_1,i_1,j) => d6 a_1 b_1 out_1 i_1 j
theorem Yl (a_1 b_1 : (List ac)) (s : ((List ac) × Int × Int)) : Pp Tryz.prog 71 (List.drop 0 XS) (I0 a_1 b_1 s) (fE a_1 b_1 s) (cq (I0 a_1 b_1) (Ak a_1 b_1)) := fun K h => match s,h with | (out_1,i_1,j),h => (Y3 h)
theorem QE (a_1 b_1 : (List ac)) : ∀ (r : (((List ac)))) (J : St → Prop) (K : KT),Ak a_1 b_1 r K → Ak a_1 b_1 r (aM J K)
  | s,_,_,h => h
def UR (out_3 : (List ac)) : St := ⟨[sv 5 (.row 0 2 0 out_3.length)],[(bn 0 36 out_3)],1⟩
noncomputable def vY (out_3 : (List ac)) : Option ((List ac)) := (some out_3)
theorem acx {out_3 : (List ac)} {K : KT} (h : W (vY out_3) (rE M7 K)) : ah Tryz.prog 71 (List.drop 5 u9) K (UR out_3) :=
  ah.qE mixed [] [4] 5 2 (.nx (fun K => wK K .ret (M7 out_3)) (l0 h))
def R2 (a_1 b_1 : (List ac)) : St := ⟨[sv 0 (.row 0 2 0 a_1.length),sv 1 (.row 1 2 0 b_1.length),sv 5 (.c .nil),sv 6 (i64 0),sv 7 (i64 0)],[(bn 0 36 a_1),(bn 1 36 b_1)],2⟩
noncomputable def tc (a_1 b_1 : (List ac)) (r : (((List ac)))) : Option ((List ac)) := match r with | out_2 => (vY out_2)
noncomputable def vH (a_1 b_1 : (List ac)) : Option ((List ac)) := (aN (fE a_1 b_1) (([] : List ac),0,0)).bind (tc a_1 b_1)
theorem ab1 : List.drop 4 u9 = .block 0 (.loop (aj (aj (aQ u9 4)))) :: List.drop 5 u9 := by kernel_rfl
theorem ajq (a_1 b_1 : (List ac)) (K : KT) : ∀ r : (((List ac))),W (tc a_1 b_1 r) (rE M7 K) → Ak a_1 b_1 r (wK (bg 0 (aM (ah Tryz.prog 71 (List.drop 5 u9) K) K)))
  | out_2,h => ⟨(UR out_2),(.refl _),(acx h)⟩
theorem ad2 {a_1 b_1 : (List ac)} {K : KT} (h : W (vH a_1 b_1) (rE M7 K)) : ah Tryz.prog 71 (List.drop 4 u9) K (R2 a_1 b_1) :=
  ah.at_ ab1 (ah.cons_loop (aE.weak (aE.ent (.trans (.nilrow 5 2 36 2 (bf bs aF []) (Nat.le_of_ble_eq_true rfl) rfl) (.cn [0,1,5,6,7])) (aE.loopF (x := aj (aj (aQ u9 4))) (f := fE a_1 b_1) (emb := I0 a_1 b_1) (E := Ak a_1 b_1) (Yl a_1 b_1) (QE a_1 b_1) (bT h (ajq a_1 b_1 K))))))
def S6 (a b : (List ac)) : St := ⟨[sv 0 (cr a),sv 1 (cr b)],[],0⟩
noncomputable def vW (a b : (List ac)) : Option ((List ac)) := (eX a).bind fun r_1 => ((eX b).bind fun r_2 => ((vH r_1 r_2)))
theorem ZJ (a b : (List ac)) (K : KT) {L1_ : List ac} (hL1_ : lst cd a.length (cx a) = L1_) {L2_ : List ac} (hL2_ : lst cd b.length (cx b) = L2_) :
    ev Tryz.prog (cy [WK]) 71 (ofItems ((List.drop 0 u9).take 4)) (cN [0,1,5,6,7,18,19,20,21] K) (S6 a b) =
    ((mE a) ∧ ((eX L1_).isSome = true) ∧ (mE b) ∧ ((eX L2_).isSome = true) ∧ (wK K .normal (R2 ((eX L1_).getD []) ((eX L2_).getD [])))) := by subst hL1_ hL2_; kernel_rfl
theorem aft {a b : (List ac)} {K : KT} (h : W (vW a b) (rE M7 K)) : ah Tryz.prog 71 (List.drop 0 u9) K (S6 a b) :=
  ah.qD mixed [WK] [0,1,5,6,7,18,19,20,21] 0 4 4 (.of (ZJ a b _ (lb aW) (lb aW)) (⟨kb aW,(aq [] h fun _ h => ⟨kb aW,(aq [] h fun _ h => (l0 (ad2 h)))⟩)⟩))
noncomputable def jJ (a b : (List ac)) : Option ((List ac)) := vW a b
noncomputable def wy : bW := fK lF lF jJ ([] : List ac) D7
theorem Es : Meets Tryz.prog 53 wy := dp Tryz.f53 (ar Tryz.f53) [.tmp 4] 71 fun u0 u1 y h => @aft u0 u1 _ (bi.2 ⟨y,h,(cH (.row 0 2 0 y.length) (⟨_,_,_,rfl,rfl,rfl,fun _ _ => rfl,fun _ i hi d hd => lJ _ d hd⟩))⟩)
noncomputable abbrev e53 : FE Tryz.prog := ⟨53, .pure wy,Es⟩
noncomputable def WX : List Code := aD (ar Tryz.f23)
def Ky (x_1 : (List ac)) : bS := .own true 36 2 (x_1).length (bf bs aF x_1)
def agQ (x_1 : (List ac)) : St := ⟨[sv 4 (.row 0 2 0 x_1.length)],[(bn 0 36 x_1)],1⟩
def RR (l : (List ac)) (s_1 : ac) : St := ⟨[sv 0 (cr l),sv 1 (.ag (bs s_1))],[],0⟩
noncomputable def Dx (l : (List ac)) (s_1 : ac) : Option ((List ac)) := (jJ l ([s_1] : List ac)).bind fun r_1 => ((some r_1))
theorem acC (l : (List ac)) (s_1 : ac) (K : KT) {L1_ : List ac} (hL1_ : lst cd l.length (cx l) = L1_) {L2_ : List ac} (hL2_ : lst cd 1 (fun i => (dw 2 (bs s_1)) (0 + i)) = L2_) :
    ev Tryz.prog (cy [e53]) 9 (ofItems ((List.drop 0 WX).take 3)) (cN [4] K) (RR l s_1) =
    ((mE l) ∧ (bk bs cd 2 2 1 (fun i => (dw 2 (bs s_1)) (0 + i))) ∧ ((jJ L1_ L2_).isSome = true) ∧ (wK K .ret (agQ ((jJ L1_ L2_).getD [])))) := by subst hL1_ hL2_; kernel_rfl
theorem Yc {l : (List ac)} {s_1 : ac} {K : KT} (h : W (Dx l s_1) (rE agQ K)) : ah Tryz.prog 9 (List.drop 0 WX) K (RR l s_1) :=
  ah.qE mixed [e53] [4] 0 3 (.of (acC l s_1 _ (lb aW) (lr aW (ai.zero (ai.l1 (enc := bs) (z := aF) 2 s_1 rfl)))) (⟨kb aW,⟨ai.ok aW (ai.zero (ai.l1 (enc := bs) (z := aF) 2 s_1 rfl)),(aq [] h fun _ h => (l0 h))⟩⟩))
noncomputable def ny (l : (List ac)) (s_1 : ac) : Option ((List ac)) := Dx l s_1
noncomputable def EV : bW := fK lF AA ny ([] : List ac) Ky
theorem LN : Meets Tryz.prog 23 EV := dp Tryz.f23 (ar Tryz.f23) [.tmp 4] 9 fun u0 u1 y h => @Yc u0 u1 _ (bi.2 ⟨y,h,(cH (.row 0 2 0 y.length) (⟨_,_,_,rfl,rfl,rfl,fun _ _ => rfl,fun _ i hi d hd => lJ _ d hd⟩))⟩)
noncomputable abbrev e23 : FE Tryz.prog := ⟨23, .pure EV,LN⟩
noncomputable def uG : List Code := aD (ar Tryz.f52)
noncomputable def Xy : List Code := aD (aj (aj (aQ uG 3)))
def Ht (x_1 : Int) : bS := .data (i64 x_1)
def Oh (x_1 : Int) : St := ⟨[sv 4 (i64 x_1)],[],0⟩
def Ai (day : Int) (t9 : (List ac)) (t10 : Int) (s : (Int × Int)) : St := match s with | (n,t11) => ⟨[sv 1 (i64 day),sv 5 (i64 n),sv 9 (.row 0 2 0 t9.length),sv 10 (i64 t10),sv 11 (i64 t11)],[(bn 0 36 t9)],1⟩
def YF (day : Int) (t9 : (List ac)) (t10 : Int) (s : Int) : St := match s with | n_1 => ⟨[sv 5 (i64 n_1)],[],0⟩
def Ao (day : Int) (t9 : (List ac)) (t10 : Int) (r : ((Int))) (K : KT) : Prop := match r with | s => K (.exit 0) (YF day t9 t10 s)
def aio (day n : Int) (t9 : (List ac)) (t10 t11 : Int) : St := ⟨[sv 1 (i64 day),sv 5 (i64 n),sv 9 (.row 0 2 0 t9.length),sv 10 (i64 t10),sv 11 (i64 t11)],[(bn 0 36 t9)],1⟩
noncomputable def jO (day n : Int) (t9 : (List ac)) (t10 t11 : Int) : Option ((Int × Int) ⊕ ((Int))) := (bif (decide (t11 < t10)) then gd (0 ≤ t11 ∧ t11 < (t9.length : Int)) ((bif (decide ((t9.getD (0 + (Int.toNat t11)) aF).From < day)) then (some (Sum.inl ((ak (n + (ak ((if day < (t9.getD (0 + (Int.toNat t11)) aF).To then day else (t9.getD (0 + (Int.toNat t11)) aF).To) - (t9.getD (0 + (Int.toNat t11)) aF).From)))),(ak (t11 + 1))))) else (some (Sum.inl (n,(ak (t11 + 1))))))) else (some (Sum.inr n)))
theorem ace {day n : Int} {t9 : (List ac)} {t10 t11 : Int} {K : KT} (h : W (jO day n t9 t10 t11) (nE (Ai day t9 t10) (Ao day t9 t10) K)) : ah Tryz.prog 30 (List.drop 0 Xy) K (aio day n t9 t10 t11) :=
  ah.qE mixed [] [1,5,9,10,11] 0 4 (.nx (fun K => let a1_ := t9.getD (0 + (Int.toNat t11)) aF; (bif (decide (t11 < t10)) then (0 ≤ t11) ∧ (t11 < (t9.length : Int)) ∧ ((bif (decide (a1_.From < day)) then wK K .normal (Ai day t9 t10 ((ak (n + (ak ((if day < a1_.To then day else a1_.To) - a1_.From)))),(ak (t11 + 1)))) else wK K .normal (Ai day t9 t10 (n,(ak (t11 + 1)))))) else wK K (.exit 0) (⟨[sv 1 (i64 day),sv 5 (i64 n),sv 9 (.row 0 2 0 t9.length),sv 10 (i64 t10),sv 11 (i64 t11)],[(bn 0 36 t9)],1⟩))) (al h (fun _ h => (aT h fun _ h => (al h (fun _ h => (l0 h)) (fun _ h => (l0 h))))) (fun _ h => (lf h (.cn [5])))))
noncomputable def jR (day : Int) (t9 : (List ac)) (t10 : Int) (s : (Int × Int)) : Option ((Int × Int) ⊕ ((Int))) := match s with | (n,t11) => jO day n t9 t10 t11
theorem aaT (day : Int) (t9 : (List ac)) (t10 : Int) (s : (Int × Int)) : Pp Tryz.prog 30 (List.drop 0 Xy) (Ai day t9 t10 s) (jR day t9 t10 s) (cq (Ai day t9 t10) (Ao day t9 t10)) := fun K h => match s,h with | (n,t11),h => (ace h)
theorem Q4 (day : Int) (t9 : (List ac)) (t10 : Int) : ∀ (r : ((Int))) (J : St → Prop) (K : KT),Ao day t9 t10 r K → Ao day t9 t10 r (aM J K)
  | s,_,_,h => h
def TZ (n_2 : Int) : St := ⟨[sv 5 (i64 n_2)],[],0⟩
noncomputable def yT (n_2 : Int) : Option (Int) := (some n_2)
theorem ab8 {n_2 : Int} {K : KT} (h : W (yT n_2) (rE Oh K)) : ah Tryz.prog 30 (List.drop 4 uG) K (TZ n_2) :=
  ah.qE mixed [] [4] 4 2 (.nx (fun K => wK K .ret (Oh n_2)) (l0 h))
def TY (day : Int) (t9 : (List ac)) (t10 : Int) : St := ⟨[sv 1 (i64 day),sv 5 (i64 0),sv 9 (.row 0 2 0 t9.length),sv 10 (i64 t10),sv 11 (i64 0)],[(bn 0 36 t9)],1⟩
noncomputable def wu (day : Int) (t9 : (List ac)) (t10 : Int) (r : ((Int))) : Option (Int) := match r with | n_1 => (yT n_1)
noncomputable def y2 (day : Int) (t9 : (List ac)) (t10 : Int) : Option (Int) := (aN (jR day t9 t10) (0,0)).bind (wu day t9 t10)
theorem adH : List.drop 3 uG = .block 0 (.loop (aj (aj (aQ uG 3)))) :: List.drop 4 uG := by kernel_rfl
theorem agK (day : Int) (t9 : (List ac)) (t10 : Int) (K : KT) : ∀ r : ((Int)),W (wu day t9 t10 r) (rE Oh K) → Ao day t9 t10 r (wK (bg 0 (aM (ah Tryz.prog 30 (List.drop 4 uG) K) K)))
  | n_1,h => ⟨(TZ n_1),(.refl _),(ab8 h)⟩
theorem Y2 {day : Int} {t9 : (List ac)} {t10 : Int} {K : KT} (h : W (y2 day t9 t10) (rE Oh K)) : ah Tryz.prog 30 (List.drop 3 uG) K (TY day t9 t10) :=
  ah.at_ adH (ah.cons_loop (aE.weak (aE.ent (.refl _) (aE.loopF (x := aj (aj (aQ uG 3))) (f := jR day t9 t10) (emb := Ai day t9 t10) (E := Ao day t9 t10) (aaT day t9 t10) (Q4 day t9 t10) (bT h (agK day t9 t10 K))))))
def Sq (l : (List ac)) (day : Int) : St := ⟨[sv 0 (cr l),sv 1 (i64 day)],[],0⟩
noncomputable def yN (l : (List ac)) (day : Int) : Option (Int) := (eX l).bind fun r_1 => ((y2 day r_1 (r_1.length : Int)))
theorem afo (l : (List ac)) (day : Int) (K : KT) {L1_ : List ac} (hL1_ : lst cd l.length (cx l) = L1_) :
    ev Tryz.prog (cy [WK]) 30 (ofItems ((List.drop 0 uG).take 3)) (cN [1,5,9,10,11] K) (Sq l day) =
    ((mE l) ∧ ((eX L1_).isSome = true) ∧ (wK K .normal (TY day ((eX L1_).getD []) ((((eX L1_).getD [])).length : Int)))) := by subst hL1_; kernel_rfl
theorem abz {l : (List ac)} {day : Int} {K : KT} (h : W (yN l day) (rE Oh K)) : ah Tryz.prog 30 (List.drop 0 uG) K (Sq l day) :=
  ah.qD mixed [WK] [1,5,9,10,11] 0 3 3 (.of (afo l day _ (lb aW)) (⟨kb aW,(aq [] h fun _ h => (l0 (Y2 h)))⟩))
noncomputable def mm (l : (List ac)) (day : Int) : Option (Int) := yN l day
noncomputable def zY : bW := fK lF (aI .i64) mm (0 : Int) Ht
theorem H1 : Meets Tryz.prog 52 zY := dp Tryz.f52 (ar Tryz.f52) [.tmp 4] 30 fun u0 u1 y h => @abz u0 u1 _ (bi.2 ⟨y,h,(cH (i64 y) (VLe.rfl' _))⟩)
noncomputable abbrev e52 : FE Tryz.prog := ⟨52, .pure zY,H1⟩
noncomputable def Xw : List Code := aD (ar Tryz.f22)
def Kp (x_1 : Int) : bS := .data (i64 x_1)
def agD (x_1 : Int) : St := ⟨[sv 2 (i64 x_1)],[],0⟩
def UZ (l : (List ac)) : St := ⟨[sv 0 (cr l)],[],0⟩
noncomputable def DR (l : (List ac)) : Option (Int) := (mm l 73049).bind fun r_1 => ((some r_1))
theorem afg (l : (List ac)) (K : KT) {L1_ : List ac} (hL1_ : lst cd l.length (cx l) = L1_) :
    ev Tryz.prog (cy [e52]) 5 (ofItems ((List.drop 0 Xw).take 3)) (cN [2] K) (UZ l) =
    ((mE l) ∧ ((mm L1_ 73049).isSome = true) ∧ (wK K .ret (agD ((mm L1_ 73049).getD 0)))) := by subst hL1_; kernel_rfl
theorem Z3 {l : (List ac)} {K : KT} (h : W (DR l) (rE agD K)) : ah Tryz.prog 5 (List.drop 0 Xw) K (UZ l) :=
  ah.qE mixed [e52] [2] 0 3 (.of (afg l _ (lb aW)) (⟨kb aW,(aq 0 h fun _ h => (l0 h))⟩))
noncomputable def mZ (l : (List ac)) : Option (Int) := DR l
noncomputable def E4 : bW := fO lF mZ (0 : Int) Kp
theorem Mb : Meets Tryz.prog 22 E4 := dq Tryz.f22 (ar Tryz.f22) [.tmp 2] 5 fun u0 y h => @Z3 u0 _ (bi.2 ⟨y,h,(cH (i64 y) (VLe.rfl' _))⟩)
noncomputable abbrev e22 : FE Tryz.prog := ⟨22, .pure E4,Mb⟩
noncomputable def Xu : List Code := aD (ar Tryz.f25)
def CV (x_1 : Bool) : bS := .data (bl x_1)
def ag5 (x_1 : Bool) : St := ⟨[sv 6 (bl x_1)],[],0⟩
def Tx (l : (List aa)) (person day : Int) : St := ⟨[sv 0 (aH l),sv 1 (i64 person),sv 2 (i64 day)],[],0⟩
noncomputable def tT (l : (List aa)) (person day : Int) : Option (Bool) := (dZ l person).bind fun r_1 => ((jy r_1).bind fun r_2 => ((some (bif (!r_2.2) then true else (decide (day ≤ r_2.1))))))
theorem abR (l : (List aa)) (person day : Int) (K : KT) {L1_ : List aa} (hL1_ : lst aY l.length (be l) = L1_) {L2_ : List aa} (hL2_ : lst aY ((((dZ L1_ person).getD [])).length) (fun i => (be ((dZ L1_ person).getD [])) (0 + i)) = L2_) :
    ev Tryz.prog (cy [O6,Xt]) 23 (ofItems ((List.drop 0 Xu).take 4)) (cN [6] K) (Tx l person day) =
    (let a1_ := dZ L1_ person; let a2_ := (jy L2_).getD (0,false); (lD l) ∧ (a1_.isSome = true) ∧ (bk av aY 14 14 (((a1_.getD [])).length) (fun i => (be (a1_.getD [])) (0 + i))) ∧ ((jy L2_).isSome = true) ∧ (wK K .ret (ag5 (bif (!a2_.2) then true else (decide (day ≤ a2_.1)))))) := by subst hL1_ hL2_; kernel_rfl
theorem aac {l : (List aa)} {person day : Int} {K : KT} (h : W (tT l person day) (rE ag5 K)) : ah Tryz.prog 23 (List.drop 0 Xu) K (Tx l person day) :=
  ah.qE mixed [O6,Xt] [6] 0 4 (.of (abR l person day _ (lb au) (lr au (ai.zero .b))) (⟨kb au,(aq [] h fun _ h => ⟨ai.ok au (ai.zero .b),(aq (0,false) h fun _ h => (l0 h))⟩)⟩))
noncomputable def dH (l : (List aa)) (person day : Int) : Option (Bool) := tT l person day
noncomputable def vN : bW := xt gy (aI .i64) (aI .i64) dH false CV
theorem D4 : Meets Tryz.prog 25 vN := sG Tryz.f25 (ar Tryz.f25) [.tmp 6] 23 fun u0 u1 u2 y h => @aac u0 u1 u2 _ (bi.2 ⟨y,h,(cH (bl y) (VLe.rfl' _))⟩)
noncomputable abbrev Pj : FE Tryz.prog := ⟨25, .pure vN,D4⟩
noncomputable def aju : List Code := aD (ar Tryz.f55)
def mU (x_1 : Bool) : bS := .data (bl x_1)
def Wj (x_1 : Bool) : St := ⟨[sv 3 (bl x_1)],[],0⟩
theorem ahs (x_1 : Bool) : dX Tryz.prog [.tmp 3] (du (mU x_1)) .ret (Wj x_1) :=
  dX.intro (v := (bl x_1)) (by kernel_rfl) ((VLe.rfl' _))
def T0 (s_1 : ac) (t1 : Int) : St := ⟨[sv 0 (.ag (bs s_1)),sv 1 (.dptr 1 [(di t1)] 0)],[],0⟩
noncomputable def ua (s_1 : ac) (t1 : Int) : Option (Bool) := (some (bif (decide (s_1.From ≤ t1)) then (decide (t1 < s_1.To)) else false))
theorem Yv {s_1 : ac} {t1 : Int} {K : KT} (h : W (ua s_1 t1) (rE Wj K)) : ah Tryz.prog 14 (List.drop 0 aju) K (T0 s_1 t1) :=
  ah.qE mixed [] [3] 0 3 (.nx (fun K => wK K .ret (Wj (bif (decide (s_1.From ≤ t1)) then (decide (t1 < s_1.To)) else false))) (l0 h))
noncomputable def jk (s_1 : ac) (t1 : Int) : Option (Bool) := ua s_1 t1
theorem aip (s_1 : ac) (t1 : Int) (y_ : Bool) (h : jk s_1 t1 = some y_) : ah Tryz.prog 14 (aD (ar Tryz.f55)) (dX Tryz.prog [.tmp 3] (du (mU y_))) (T0 s_1 t1) :=
  @Yv s_1 t1 _ (bi.2 ⟨y_,h,ahs y_⟩)
noncomputable def pc : bW
  | [(.agg [(.c (.lit (.int .i64 a1))),(.c (.lit (.int .i64 a2)))]),(.dptr 1 [(.lit (.int .i64 a3))] 0)] => some ([(jk (ac.mk a1 a2) a3).isSome = true],(mU ((jk (ac.mk a1 a2) a3).getD false)))
  | _ => none
theorem DW : Meets Tryz.prog 55 pc := by
  refine jA (fn := Tryz.f55) (c := ar Tryz.f55) (by kernel_rfl) (by kernel_rfl) (by kernel_rfl) (rs := [.tmp 3]) (by kernel_rfl) (nt := 14) (by kernel_rfl) fun vs p out h hp => ?_
  unfold pc at h
  split at h
  · next a1 a2 a3 =>
    cases h
    obtain ⟨g,hp⟩ := dP hp
    obtain ⟨x,hx⟩ := Option.isSome_iff_exists.1 g
    rw [hx]
    exact ⟨[(.agg [(i64 (ac.mk a1 a2).From),(i64 (ac.mk a1 a2).To)]),(.dptr 1 [(di a3)] 0)],(VLes.cons (VLe.rfl' _) (VLes.cons (VLe.rfl' _) VLes.nil)),rfl,aip (ac.mk a1 a2) a3 x hx⟩
  · cases h
noncomputable abbrev e55 : FE Tryz.prog := ⟨55, .pure pc,DW⟩
noncomputable def wM : List Code := aD (ar Tryz.f70)
noncomputable def WP : List Code := aD (aj (aj (aQ wM 2)))
def dD (x_1 : Int) : bS := .data (i64 x_1)
def HP (x_1 : Int) : St := ⟨[sv 4 (i64 x_1)],[],0⟩
theorem ag1 (x_1 : Int) : dX Tryz.prog [.tmp 4] (du (dD x_1)) .ret (HP x_1) :=
  dX.intro (v := (i64 x_1)) (by kernel_rfl) ((VLe.rfl' _))
def EA (s_1 : (List ac)) (f : Int) (s : (Int)) : St := match s with | t8 => ⟨[sv 0 (cr s_1),sv 1 (.fn 55 [(.dptr 1 [(di f)] 0)]),sv 7 (i64 (s_1.length : Int)),sv 8 (i64 t8)],[],0⟩
def adh (s_1 : (List ac)) (f : Int) (s : Int) : St := match s with | t4_1 => ⟨[sv 4 (i64 t4_1)],[],0⟩
def acY (s_1 : (List ac)) (f : Int) (s : Unit) : St := match s with | () => ⟨[],[],0⟩
def Au (s_1 : (List ac)) (f : Int) (r : ((Int) ⊕ (Unit))) (K : KT) : Prop := match r with | (.inl s) => K .ret (adh s_1 f s) | (.inr s) => K (.exit 0) (acY s_1 f s)
def agl (s_1 : (List ac)) (f t8 : Int) : St := ⟨[sv 0 (cr s_1),sv 1 (.fn 55 [(.dptr 1 [(di f)] 0)]),sv 7 (i64 (s_1.length : Int)),sv 8 (i64 t8)],[],0⟩
noncomputable def bR (s_1 : (List ac)) (f t8 : Int) : Option ((Int) ⊕ ((Int) ⊕ (Unit))) := (bif (decide (t8 < (s_1.length : Int))) then gd (0 ≤ t8 ∧ t8 < (s_1.length : Int)) ((jk (s_1.getD (Int.toNat t8) aF) f).bind fun r_1 => ((bif r_1 then (some (Sum.inr (Sum.inl t8))) else (some (Sum.inl (ak (t8 + 1))))))) else (some (Sum.inr (Sum.inr ()))))
theorem aeD {s_1 : (List ac)} {f t8 : Int} {K : KT} (h : W (bR s_1 f t8) (nE (EA s_1 f) (Au s_1 f) K)) : ah Tryz.prog 19 (List.drop 0 WP) K (agl s_1 f t8) :=
  ah.qE mixed [e55] [0,1,4,7,8] 0 4 (.nx (fun K => let a1_ := jk (s_1.getD (Int.toNat t8) aF) f; let a2_ := (s_1.length : Int); (bif (decide (t8 < a2_)) then (0 ≤ t8) ∧ (t8 < a2_) ∧ (a1_.isSome = true) ∧ ((bif (a1_.getD false) then wK K .ret (⟨[sv 0 (cr s_1),sv 1 (.fn 55 [(.dptr 1 [(di f)] 0)]),sv 4 (i64 t8),sv 7 (i64 a2_),sv 8 (i64 t8)],[],0⟩) else wK K .normal (EA s_1 f (ak (t8 + 1))))) else wK K (.exit 0) (⟨[sv 0 (cr s_1),sv 1 (.fn 55 [(.dptr 1 [(di f)] 0)]),sv 7 (i64 a2_),sv 8 (i64 t8)],[],0⟩))) (al h (fun _ h => (aT h fun _ h => (aq false h fun _ h => (al h (fun _ h => (lf h (.cn [4]))) (fun _ h => (l0 h)))))) (fun _ h => (lf h (.cn [])))))
noncomputable def cm (s_1 : (List ac)) (f : Int) (s : (Int)) : Option ((Int) ⊕ ((Int) ⊕ (Unit))) := match s with | t8 => bR s_1 f t8
theorem aaX (s_1 : (List ac)) (f : Int) (s : (Int)) : Pp Tryz.prog 19 (List.drop 0 WP) (EA s_1 f s) (cm s_1 f s) (cq (EA s_1 f) (Au s_1 f)) := fun K h => match s,h with | t8,h => (aeD h)
theorem Rb (s_1 : (List ac)) (f : Int) : ∀ (r : ((Int) ⊕ (Unit))) (J : St → Prop) (K : KT),Au s_1 f r K → Au s_1 f r (aM J K)
  | (.inl s),_,_,h => h
  | (.inr s),_,_,h => h
def U8 : St := ⟨[],[],0⟩
noncomputable def fN : Option (Int) := (some (-1))
theorem aaw {K : KT} (h : W (fN) (rE HP K)) : ah Tryz.prog 19 (List.drop 3 wM) K (U8) :=
  ah.qE mixed [] [4] 3 2 (.nx (fun K => wK K .ret (HP (-1))) (l0 h))
def SK (s_1 : (List ac)) (f : Int) : St := ⟨[sv 0 (cr s_1),sv 1 (.fn 55 [(.dptr 1 [(di f)] 0)]),sv 7 (i64 (s_1.length : Int)),sv 8 (i64 0)],[],0⟩
noncomputable def dx (s_1 : (List ac)) (f : Int) (r : ((Int) ⊕ (Unit))) : Option (Int) := match r with | (.inl t4_1) => (some t4_1) | (.inr ()) => fN
noncomputable def fI (s_1 : (List ac)) (f : Int) : Option (Int) := (aN (cm s_1 f) 0).bind (dx s_1 f)
theorem abw : List.drop 2 wM = .block 0 (.loop (aj (aj (aQ wM 2)))) :: List.drop 3 wM := by kernel_rfl
theorem ahc (s_1 : (List ac)) (f : Int) (K : KT) : ∀ r : ((Int) ⊕ (Unit)),W (dx s_1 f r) (rE HP K) → Au s_1 f r (wK (bg 0 (aM (ah Tryz.prog 19 (List.drop 3 wM) K) K)))
  | (.inl t4_1),h => ⟨(HP t4_1),(.refl _),h⟩
  | (.inr ()),h => ⟨(U8),(.refl _),(aaw h)⟩
theorem Yx {s_1 : (List ac)} {f : Int} {K : KT} (h : W (fI s_1 f) (rE HP K)) : ah Tryz.prog 19 (List.drop 2 wM) K (SK s_1 f) :=
  ah.at_ abw (ah.cons_loop (aE.weak (aE.ent (.refl _) (aE.loopF (x := aj (aj (aQ wM 2))) (f := cm s_1 f) (emb := EA s_1 f) (E := Au s_1 f) (aaX s_1 f) (Rb s_1 f) (bT h (ahc s_1 f K))))))
def Tr (s_1 : (List ac)) (f : Int) : St := ⟨[sv 0 (cr s_1),sv 1 (.fn 55 [(.dptr 1 [(di f)] 0)])],[],0⟩
noncomputable def fJ (s_1 : (List ac)) (f : Int) : Option (Int) := (fI s_1 f)
theorem Zh {s_1 : (List ac)} {f : Int} {K : KT} (h : W (fJ s_1 f) (rE HP K)) : ah Tryz.prog 19 (List.drop 0 wM) K (Tr s_1 f) :=
  ah.qD mixed [] [0,1,7,8] 0 2 2 (.nx (fun K => wK K .normal (SK s_1 f)) (l0 (Yx h)))
noncomputable def bK (s_1 : (List ac)) (f : Int) : Option (Int) := fJ s_1 f
theorem ago (s_1 : (List ac)) (f : Int) (y_ : Int) (h : bK s_1 f = some y_) : ah Tryz.prog 19 (aD (ar Tryz.f70)) (dX Tryz.prog [.tmp 4] (du (dD y_))) (Tr s_1 f) :=
  @Zh s_1 f _ (bi.2 ⟨y_,h,ag1 y_⟩)
noncomputable def dN : bW
  | [(.c (.sl k1 n2 e3)),(.fn 55 [(.dptr 1 [(.lit (.int .i64 a4))] 0)])] => some ([bk bs cd 2 k1 n2 e3,(bK (lst cd n2 e3) a4).isSome = true],(dD ((bK (lst cd n2 e3) a4).getD (0 : Int))))
  | _ => none
theorem kR : Meets Tryz.prog 70 dN := by
  refine jA (fn := Tryz.f70) (c := ar Tryz.f70) (by kernel_rfl) (by kernel_rfl) (by kernel_rfl) (rs := [.tmp 4]) (by kernel_rfl) (nt := 19) (by kernel_rfl) fun vs p out h hp => ?_
  unfold dN at h
  split at h
  · next k1 n2 e3 a4 =>
    cases h
    obtain ⟨g0,hp⟩ := dP hp
    obtain ⟨g,hp⟩ := dP hp
    obtain ⟨x,hx⟩ := Option.isSome_iff_exists.1 g
    rw [hx]
    exact ⟨[(cr (lst cd n2 e3)),(.fn 55 [(.dptr 1 [(di a4)] 0)])],(VLes.cons (VLe.slk g0.1 (ai.of_ok g0)) (VLes.cons (VLe.rfl' _) VLes.nil)),rfl,ago (lst cd n2 e3) a4 x hx⟩
  · cases h
noncomputable abbrev e70 : FE Tryz.prog := ⟨70, .pure dN,kR⟩
noncomputable def XG : List Code := aD (ar Tryz.f54)
def dn (x_1 : Bool) : bS := .data (bl x_1)
def Wv (x_1 : Bool) : St := ⟨[sv 4 (bl x_1)],[],0⟩
theorem aii (x_1 : Bool) : dX Tryz.prog [.tmp 4] (du (dn x_1)) .ret (Wv x_1) :=
  dX.intro (v := (bl x_1)) (by kernel_rfl) ((VLe.rfl' _))
def NQ (s_1 : (List ac)) (f : Int) : St := ⟨[sv 0 (cr s_1),sv 1 (.fn 55 [(.dptr 1 [(di f)] 0)])],[],0⟩
noncomputable def eU (s_1 : (List ac)) (f : Int) : Option (Bool) := (bK s_1 f).bind fun r_1 => ((some (decide (0 ≤ r_1))))
theorem ack (s_1 : (List ac)) (f : Int) (K : KT) {L1_ : List ac} (hL1_ : lst cd s_1.length (cx s_1) = L1_) :
    ev Tryz.prog (cy [e70]) 9 (ofItems ((List.drop 0 XG).take 3)) (cN [4] K) (NQ s_1 f) =
    (let a1_ := bK L1_ f; (mE s_1) ∧ (a1_.isSome = true) ∧ (wK K .ret (Wv (decide (0 ≤ (a1_.getD 0)))))) := by subst hL1_; kernel_rfl
theorem Yk {s_1 : (List ac)} {f : Int} {K : KT} (h : W (eU s_1 f) (rE Wv K)) : ah Tryz.prog 9 (List.drop 0 XG) K (NQ s_1 f) :=
  ah.qE mixed [e70] [4] 0 3 (.of (ack s_1 f _ (lb aW)) (⟨kb aW,(aq 0 h fun _ h => (l0 h))⟩))
noncomputable def bQ (s_1 : (List ac)) (f : Int) : Option (Bool) := eU s_1 f
theorem ah0 (s_1 : (List ac)) (f : Int) (y_ : Bool) (h : bQ s_1 f = some y_) : ah Tryz.prog 9 (aD (ar Tryz.f54)) (dX Tryz.prog [.tmp 4] (du (dn y_))) (NQ s_1 f) :=
  @Yk s_1 f _ (bi.2 ⟨y_,h,aii y_⟩)
noncomputable def dv : bW
  | [(.c (.sl k1 n2 e3)),(.fn 55 [(.dptr 1 [(.lit (.int .i64 a4))] 0)])] => some ([bk bs cd 2 k1 n2 e3,(bQ (lst cd n2 e3) a4).isSome = true],(dn ((bQ (lst cd n2 e3) a4).getD false)))
  | _ => none
theorem j6 : Meets Tryz.prog 54 dv := by
  refine jA (fn := Tryz.f54) (c := ar Tryz.f54) (by kernel_rfl) (by kernel_rfl) (by kernel_rfl) (rs := [.tmp 4]) (by kernel_rfl) (nt := 9) (by kernel_rfl) fun vs p out h hp => ?_
  unfold dv at h
  split at h
  · next k1 n2 e3 a4 =>
    cases h
    obtain ⟨g0,hp⟩ := dP hp
    obtain ⟨g,hp⟩ := dP hp
    obtain ⟨x,hx⟩ := Option.isSome_iff_exists.1 g
    rw [hx]
    exact ⟨[(cr (lst cd n2 e3)),(.fn 55 [(.dptr 1 [(di a4)] 0)])],(VLes.cons (VLe.slk g0.1 (ai.of_ok g0)) (VLes.cons (VLe.rfl' _) VLes.nil)),rfl,ah0 (lst cd n2 e3) a4 x hx⟩
  · cases h
noncomputable abbrev e54 : FE Tryz.prog := ⟨54, .pure dv,j6⟩
noncomputable def XE : List Code := aD (ar Tryz.f26)
def Ed (x_1 : Bool) : bS := .data (bl x_1)
def Wg (x_1 : Bool) : St := ⟨[sv 4 (bl x_1)],[],0⟩
def SF (l : (List ac)) (day : Int) : St := ⟨[sv 0 (cr l),sv 1 (i64 day)],[],0⟩
noncomputable def l4 (l : (List ac)) (day : Int) : Option (Bool) := (bif (bif (decide (day < 0)) then true else (decide (73049 ≤ day))) then (some false) else (bQ l day).bind fun r_1 => ((some r_1)))
theorem aaN (l : (List ac)) (day : Int) (K : KT) {L1_ : List ac} (hL1_ : lst cd l.length (cx l) = L1_) :
    ev Tryz.prog (cy [e54]) 14 (ofItems ((List.drop 0 XE).take 5)) (cN [4] K) (SF l day) =
    (let a1_ := bQ L1_ day; (bif (bif (decide (day < 0)) then true else (decide (73049 ≤ day))) then wK K .ret (Wg false) else (mE l) ∧ (a1_.isSome = true) ∧ (wK K .ret (Wg (a1_.getD false))))) := by subst hL1_; kernel_rfl
theorem aa7 {l : (List ac)} {day : Int} {K : KT} (h : W (l4 l day) (rE Wg K)) : ah Tryz.prog 14 (List.drop 0 XE) K (SF l day) :=
  ah.qE mixed [e54] [4] 0 5 (.of (aaN l day _ (lb aW)) (al h (fun _ h => (l0 h)) (fun _ h => ⟨kb aW,(aq false h fun _ h => (l0 h))⟩)))
noncomputable def iu (l : (List ac)) (day : Int) : Option (Bool) := l4 l day
noncomputable def xv : bW := fK lF (aI .i64) iu false Ed
theorem Gj : Meets Tryz.prog 26 xv := dp Tryz.f26 (ar Tryz.f26) [.tmp 4] 14 fun u0 u1 y h => @aa7 u0 u1 _ (bi.2 ⟨y,h,(cH (bl y) (VLe.rfl' _))⟩)
noncomputable abbrev Xl : FE Tryz.prog := ⟨26, .pure xv,Gj⟩
noncomputable def wI : List Code := aD (ar Tryz.f27)
noncomputable def Q2 : List Code := aD (aj (aj (aQ wI 2)))
def Ap (x_1 : Bool) : bS := .data (bl x_1)
def KL (x_1 : Bool) : St := ⟨[sv 6 (bl x_1)],[],0⟩
def JC (l : (List aa)) (child day : Int) (s : (Int)) : St := match s with | p_1 => ⟨[sv 0 (aH l),sv 1 (i64 child),sv 2 (i64 day),sv 7 (i64 p_1)],[],0⟩
def ab2 (l : (List aa)) (child day : Int) (s : Unit) : St := match s with | () => ⟨[sv 6 (bl true)],[],0⟩
def ad5 (l : (List aa)) (child day : Int) (s : Unit) : St := match s with | () => ⟨[],[],0⟩
def Bm (l : (List aa)) (child day : Int) (r : ((Unit) ⊕ (Unit))) (K : KT) : Prop := match r with | (.inl s) => K .ret (ab2 l child day s) | (.inr s) => K (.exit 0) (ad5 l child day s)
def ST (l : (List aa)) (child day p_1 : Int) : St := ⟨[sv 0 (aH l),sv 1 (i64 child),sv 2 (i64 day),sv 7 (i64 p_1)],[],0⟩
noncomputable def gn (l : (List aa)) (child day p_1 : Int) : Option ((Int) ⊕ ((Unit) ⊕ (Unit))) := (bif (decide (p_1 ≤ 99)) then (bif (p_1 != child) then (dH l p_1 day).bind fun r_1 => ((bif r_1 then (dZ l p_1).bind fun r_2 => ((ck r_2 10 child).bind fun r_3 => ((iu r_3 day).bind fun r_4 => ((bif r_4 then (some (Sum.inr (Sum.inl ()))) else (some (Sum.inl (ak (p_1 + 1)))))))) else (some (Sum.inl (ak (p_1 + 1)))))) else (some (Sum.inl (ak (p_1 + 1))))) else (some (Sum.inr (Sum.inr ()))))
theorem acu (l : (List aa)) (child day p_1 : Int) (K : KT) {L1_ : List aa} (hL1_ : lst aY l.length (be l) = L1_) {L2_ : List aa} (hL2_ : lst aY l.length (be l) = L2_) {L3_ : List aa} (hL3_ : lst aY ((((dZ L2_ p_1).getD [])).length) (fun i => (be ((dZ L2_ p_1).getD [])) (0 + i)) = L3_) {L4_ : List ac} (hL4_ : lst cd ((((ck L3_ 10 child).getD [])).length) (fun i => (cx ((ck L3_ 10 child).getD [])) (0 + i)) = L4_) :
    ev Tryz.prog (cy [O6,PC,Pj,Xl]) 30 (ofItems ((List.drop 0 Q2).take 4)) (cN [0,1,2,6,7,16,17,18,19,22,23,24,25,26,27,28] K) (ST l child day p_1) =
    (let a1_ := (ck L3_ 10 child).getD []; let a2_ := (dZ L2_ p_1).getD []; let a3_ := (dH L1_ p_1 day).getD false; let a4_ := (iu L4_ day).getD false; let a5_ := i64 (ak (p_1 + 1)); (bif (decide (p_1 ≤ 99)) then (bif (p_1 != child) then (lD l) ∧ ((dH L1_ p_1 day).isSome = true) ∧ ((bif a3_ then (lD l) ∧ ((dZ L2_ p_1).isSome = true) ∧ ((bk av aY 14 14 ((a2_).length) (fun i => (be a2_) (0 + i))) ∧ ((ck L3_ 10 child).isSome = true) ∧ ((bk bs cd 2 2 ((a1_).length) (fun i => (cx a1_) (0 + i))) ∧ ((iu L4_ day).isSome = true) ∧ ((bif a4_ then wK K .ret (⟨[sv 0 (aH l),sv 1 (i64 child),sv 2 (i64 day),sv 6 (bl true),sv 7 (i64 p_1),sv 16 (aH l),sv 17 (i64 p_1),sv 18 (i64 day),sv 19 (bl a3_),sv 22 (aH l),sv 23 (i64 p_1),sv 24 (.row 0 14 0 (a2_).length),sv 25 (i64 child),sv 26 (.row 1 2 0 (a1_).length),sv 27 (i64 day),sv 28 (bl a4_)],[(aC 0 38 a2_),(bn 1 36 a1_)],2⟩) else wK K .normal (⟨[sv 0 (aH l),sv 1 (i64 child),sv 2 (i64 day),sv 7 a5_,sv 16 (aH l),sv 17 (i64 p_1),sv 18 (i64 day),sv 19 (bl a3_),sv 22 (aH l),sv 23 (i64 p_1),sv 24 (.row 0 14 0 (a2_).length),sv 25 (i64 child),sv 26 (.row 1 2 0 (a1_).length),sv 27 (i64 day),sv 28 (bl a4_)],[(aC 0 38 a2_),(bn 1 36 a1_)],2⟩))))) else wK K .normal (⟨[sv 0 (aH l),sv 1 (i64 child),sv 2 (i64 day),sv 7 a5_,sv 16 (aH l),sv 17 (i64 p_1),sv 18 (i64 day),sv 19 (bl a3_),un 22,un 23,un 24,un 25,un 26,un 27,un 28],[],0⟩))) else wK K .normal (⟨[sv 0 (aH l),sv 1 (i64 child),sv 2 (i64 day),sv 7 a5_,un 16,un 17,un 18,un 19,un 22,un 23,un 24,un 25,un 26,un 27,un 28],[],0⟩)) else wK K (.exit 0) (⟨[sv 0 (aH l),sv 1 (i64 child),sv 2 (i64 day),sv 7 (i64 p_1)],[],0⟩))) := by subst hL1_ hL2_ hL3_ hL4_; kernel_rfl
theorem Zf {l : (List aa)} {child day p_1 : Int} {K : KT} (h : W (gn l child day p_1) (nE (JC l child day) (Bm l child day) K)) : ah Tryz.prog 30 (List.drop 0 Q2) K (ST l child day p_1) :=
  ah.qE mixed [O6,PC,Pj,Xl] [0,1,2,6,7,16,17,18,19,22,23,24,25,26,27,28] 0 4 (.of (acu l child day p_1 _ (lb au) (lb au) (lr au (ai.zero .b)) (lr aW (ai.zero .b))) (al h (fun _ h => (al h (fun _ h => ⟨kb au,(aq false h fun _ h => (al h (fun _ h => ⟨kb au,(aq [] h fun _ h => ⟨ai.ok au (ai.zero .b),(aq [] h fun _ h => ⟨ai.ok aW (ai.zero .b),(aq false h fun _ h => (al h (fun _ h => (lf h (.cn [6]))) (fun _ h => (lf h (.cn [0,1,2,7])))))⟩)⟩)⟩) (fun _ h => (lf h (.cn [0,1,2,7])))))⟩) (fun _ h => (lf h (.cn [0,1,2,7]))))) (fun _ h => (lf h (.cn [])))))
noncomputable def iE (l : (List aa)) (child day : Int) (s : (Int)) : Option ((Int) ⊕ ((Unit) ⊕ (Unit))) := match s with | p_1 => gn l child day p_1
theorem abH (l : (List aa)) (child day : Int) (s : (Int)) : Pp Tryz.prog 30 (List.drop 0 Q2) (JC l child day s) (iE l child day s) (cq (JC l child day) (Bm l child day)) := fun K h => match s,h with | p_1,h => (Zf h)
theorem Ry (l : (List aa)) (child day : Int) : ∀ (r : ((Unit) ⊕ (Unit))) (J : St → Prop) (K : KT),Bm l child day r K → Bm l child day r (aM J K)
  | (.inl s),_,_,h => h
  | (.inr s),_,_,h => h
def UI : St := ⟨[],[],0⟩
noncomputable def tj : Option (Bool) := (some false)
theorem adm {K : KT} (h : W (tj) (rE KL K)) : ah Tryz.prog 30 (List.drop 3 wI) K (UI) :=
  ah.qE mixed [] [6] 3 2 (.nx (fun K => wK K .ret (KL false)) (l0 h))
def Uq (l : (List aa)) (child day : Int) : St := ⟨[sv 0 (aH l),sv 1 (i64 child),sv 2 (i64 day),sv 7 (i64 1)],[],0⟩
noncomputable def lS (l : (List aa)) (child day : Int) (r : ((Unit) ⊕ (Unit))) : Option (Bool) := match r with | (.inl ()) => (some true) | (.inr ()) => tj
noncomputable def sX (l : (List aa)) (child day : Int) : Option (Bool) := (aN (iE l child day) 1).bind (lS l child day)
theorem adJ : List.drop 2 wI = .block 0 (.loop (aj (aj (aQ wI 2)))) :: List.drop 3 wI := by kernel_rfl
theorem afK (l : (List aa)) (child day : Int) (K : KT) : ∀ r : ((Unit) ⊕ (Unit)),W (lS l child day r) (rE KL K) → Bm l child day r (wK (bg 0 (aM (ah Tryz.prog 30 (List.drop 3 wI) K) K)))
  | (.inl ()),h => ⟨(KL true),(.refl _),h⟩
  | (.inr ()),h => ⟨(UI),(.refl _),(adm h)⟩
theorem aev {l : (List aa)} {child day : Int} {K : KT} (h : W (sX l child day) (rE KL K)) : ah Tryz.prog 30 (List.drop 2 wI) K (Uq l child day) :=
  ah.at_ adJ (ah.cons_loop (aE.weak (aE.ent (.refl _) (aE.loopF (x := aj (aj (aQ wI 2))) (f := iE l child day) (emb := JC l child day) (E := Bm l child day) (abH l child day) (Ry l child day) (bT h (afK l child day K))))))
def agu (l : (List aa)) (child day : Int) : St := ⟨[sv 0 (aH l),sv 1 (i64 child),sv 2 (i64 day)],[],0⟩
noncomputable def s9 (l : (List aa)) (child day : Int) : Option (Bool) := (sX l child day)
theorem abT {l : (List aa)} {child day : Int} {K : KT} (h : W (s9 l child day) (rE KL K)) : ah Tryz.prog 30 (List.drop 0 wI) K (agu l child day) :=
  ah.qD mixed [] [0,1,2,7,16,17,18,19,22,23,24,25,26,27,28] 0 2 2 (.nx (fun K => wK K .normal (Uq l child day)) (l0 (aev h)))
noncomputable def j0 (l : (List aa)) (child day : Int) : Option (Bool) := s9 l child day
noncomputable def tV : bW := xt gy (aI .i64) (aI .i64) j0 false Ap
theorem B2 : Meets Tryz.prog 27 tV := sG Tryz.f27 (ar Tryz.f27) [.tmp 6] 30 fun u0 u1 u2 y h => @abT u0 u1 u2 _ (bi.2 ⟨y,h,(cH (bl y) (VLe.rfl' _))⟩)
noncomputable abbrev e27 : FE Tryz.prog := ⟨27, .pure tV,B2⟩
end Go.Ax
