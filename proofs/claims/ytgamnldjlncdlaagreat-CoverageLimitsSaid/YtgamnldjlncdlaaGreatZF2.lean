import Derived.Test.YtgamnldjlncdlaaGreatZF1
import Derived.Test.YtgamnldjlncdlaaGreatRows
/- Types of the program, and functions of it: printed by a program, checked by the kernel. -/
set_option linter.all false
set_option maxRecDepth 100000
namespace Go.Ax
open Go.Proofs Go.Proofs.YtgamnldjlncdlaaGreat
noncomputable section
attribute [local irreducible] PT.opt
noncomputable def uO:List Code:=aA (an Tryz.f24)
noncomputable def jP:List Code:=aA (ah (ah (aQ uO 3)))
noncomputable def qe:List Code:=aA (ah (aQ jP 2))
noncomputable def Zl:List Code:=aA (ah (ah (aQ qe 6)))
def JH (x_1:(List ae)):bK:=.own true 70 14 (x_1).length (aV aR aU x_1)
def TB (x_1:(List ae)):St:=⟨[sv 4 (.row 0 14 0 x_1.length)],[(bP 0 70 x_1)],1⟩
def lH (a b:(List ae)) (s:((List ae) × Int)):St:=match s with | (out_2,i_1)=>⟨[sv 0 (bk a),sv 1 (bk b),sv 5 (.row 0 14 0 out_2.length),sv 6 (i64 i_1)],[(bP 0 70 out_2)],1⟩
def aaG (a b:(List ae)) (s:(List ae)):St:=match s with | out_4=>⟨[sv 5 (.row 0 14 0 out_4.length)],[(bP 0 70 out_4)],1⟩
def lK (a b:(List ae)) (r:(((List ae)))) (K:KT):Prop:=match r with | s=>K (.exit 0) (aaG a b s)
def aiZ (a b out_1:(List ae)) (i_5:Int):St:=⟨[sv 0 (bk a),sv 1 (bk b),sv 5 (.row 0 14 0 out_1.length),sv 6 (i64 i_5)],[(bP 0 70 out_1)],1⟩
def il (a b out_1:(List ae)) (i_5:Int):PT _ (nE (lH a b) (lK a b)) iK:=.lf (some (Sum.inl (out_1,(ai (i_5+1))))) .normal _<|hh fun _=>l0
theorem Hn {a b out_1 i_5}:Ax tP 88 jP 3 iK (il a b out_1 i_5) (aiZ a b out_1 i_5):=.tE mixed [] [0,1,5,6,41,42,43,44,45,46,47,48,55,56,57,58,59,60,61,62] 1
def GO (a b out_8:(List ae)) (i_6 at_1:Int) (f:ae) (s:((List ae) × Int × Int)):St:=match s with | (out_9,i_7,at_2)=>⟨[sv 0 (bk a),sv 1 (bk b),sv 5 (.row 0 14 0 out_9.length),sv 6 (i64 i_7),sv 7 (.ptr 1 14 0 0),sv 8 (i64 at_2)],[(bP 0 70 out_9),(1,some (.bx (aR f)))],2⟩
def ad0 (a b out_8:(List ae)) (i_6 at_1:Int) (f:ae) (s:(List ae) × Int × Int):St:=match s with | (out_10,i_8,at_3)=>⟨[sv 0 (bk a),sv 1 (bk b),sv 5 (.row 0 14 0 out_10.length),sv 6 (i64 i_8),sv 7 (.ptr 1 14 0 0),sv 8 (i64 at_3)],[(bP 0 70 out_10),(1,some (.bx (aR f)))],2⟩
def Cq (a b out_8:(List ae)) (i_6 at_1:Int) (f:ae) (r:(((List ae) × Int × Int))) (K:KT):Prop:=match r with | s=>K (.exit 2) (ad0 a b out_8 i_6 at_1 f s)
def ako (a b out_9:(List ae)) (i_7 at_2:Int) (f:ae):St:=GO a b ([]:List ae) (0:Int) (0:Int) f (out_9,i_7,at_2)
def oM (a b out_9:(List ae)) (i_7 at_2:Int) (f:ae):PT _ (nE (GO a b ([]:List ae) (0:Int) (0:Int) f) (Cq a b ([]:List ae) (0:Int) (0:Int) f)) iK:=.g1 (((decide (0 < at_2))&&true) = true→0≤(ai (at_2 - 1)))<|.g1 (((decide (0 < at_2))&&true) = true→(ai (at_2 - 1)) < (out_9.length:Int))<|.g1 (((decide (0 < at_2))&&true) = true→(jF (out_9.getD (0+(Int.toNat (ai (at_2 - 1)))) aU) f).isSome = true)<|.bf (bif (decide (0 < at_2)) then (decide (0 < ((jF (out_9.getD (0+(Int.toNat (ai (at_2 - 1)))) aU) f).getD 0))) else false) (.lf (some (Sum.inl (out_9,i_7,(ai (at_2 - 1))))) .normal _<|hh fun _=>lx [0,1,5,6,7,8] [41,42,43,44,45,46,47,48] []) (.lf (some (Sum.inr (out_9,i_7,at_2))) (.exit 2) _<|hh fun _=>lx [0,1,5,6,7,8] [41,42,43,44,45,46,47,48] [])
theorem adq {a b out_9 i_7 at_2 f}:Ax tP 88 Zl 0 iK (oM a b out_9 i_7 at_2 f) (ako a b out_9 i_7 at_2 f):=.tE mixed [e52] [0,1,5,6,7,8,41,42,43,44,45,46,47,48,55,56,57,58,59,60,61,62] 3
def oZ (a b out_8:(List ae)) (i_6 at_1:Int) (f:ae) (s:((List ae) × Int × Int)):Option (((List ae) × Int × Int) ⊕ (((List ae) × Int × Int))):=match s with | (out_9,i_7,at_2)=>(oM a b out_9 i_7 at_2 f).opt
theorem af6 (a b out_8 i_6 at_1 f s):Pp tP 88 (List.drop 0 Zl) (GO a b out_8 i_6 at_1 f s) (oZ a b out_8 i_6 at_1 f s) (cl (GO a b out_8 i_6 at_1 f) (Cq a b out_8 i_6 at_1 f)):=fun K h=>match s,h with | (out_9,i_7,at_2),h=>(adq h)
theorem SE (a b out_8 i_6 at_1 f):∀ r J K,Cq a b out_8 i_6 at_1 f r K→Cq a b out_8 i_6 at_1 f r (aH J K)
  | s,_,_,h=>h
def U3 (a b out_11:(List ae)) (i_9 at_4:Int) (f:ae):St:=⟨[sv 0 (bk a),sv 1 (bk b),sv 5 (.row 0 14 0 out_11.length),sv 6 (i64 i_9),sv 7 (.ptr 1 14 0 0),sv 8 (i64 at_4)],[(bP 0 70 out_11),(1,some (.bx (aR f)))],2⟩
def lw (a b out_11:(List ae)) (i_9 at_4:Int) (f:ae):PT _ (nE (lH a b) (lK a b)) (fun K=>(bj 1 (aH (ar tP 88 (List.drop 3 jP) K) K))):=.g1 (((decide (0 < at_4))&&true) = true→0≤(ai (at_4 - 1)))<|.g1 (((decide (0 < at_4))&&true) = true→(ai (at_4 - 1)) < (out_11.length:Int))<|.g1 (((decide (0 < at_4))&&true) = true→(jF (out_11.getD (0+(Int.toNat (ai (at_4 - 1)))) aU) f).isSome = true)<|.bf (bif (decide (0 < at_4)) then (((jF (out_11.getD (0+(Int.toNat (ai (at_4 - 1)))) aU) f).getD 0) == 0) else false) (.g2 (0≤(ai (at_4 - 1))) ((ai (at_4 - 1)) < (out_11.length:Int))<|.bd (Eh (out_11.getD (0+(Int.toNat (ai (at_4 - 1)))) aU) f) false fun r_3=>.bf r_3 (.g2 (0≤(ai (at_4 - 1))) ((ai (at_4 - 1)) < (out_11.length:Int))<|.lf ((il a b (out_11.set (0+(Int.toNat (ai (at_4 - 1)))) f) i_9).opt) (.exit 1) (⟨[sv 0 (bk a),sv 1 (bk b),sv 5 (.row 0 14 0 out_11.length),sv 6 (i64 i_9),un 55,un 56,un 57,un 58,un 59,un 60,un 61,un 62],[(0,some (.row 70 14 out_11.length (fun q=>bif Nat.beq q (0+(Int.toNat (ai (at_4 - 1)))) then (aR f) else (et out_11) q)))],1⟩)<|hh fun _ h=>lf (Hn h) (.of (.q rfl (.q rfl (.cons rfl (.rown (mW rfl)) (.q rfl .nil)))) (.row rfl (ac.set .b (0+(Int.toNat (ai (at_4 - 1)))) f rfl) .nil rfl) rfl)) (.lf ((il a b out_11 i_9).opt) (.exit 1) _<|hh fun _ h=>lz (Hn h) [0,1,5,6] [55,56,57,58,59,60,61,62] [])) (.g3 (0≤(0:Int)) ((0:Int)≤at_4) (at_4≤(out_11.length:Int))<|.gc (Int.toNat (at_4 - 0)) 112<|.tv ((Int.toNat (at_4 - 0)) = (Int.toNat (at_4 - 0))) rfl<|.gc ((Int.toNat (at_4 - 0))+1) 112<|.g3 (0≤at_4) (at_4≤(out_11.length:Int)) ((out_11.length:Int)≤(out_11.length:Int))<|.tv (((Int.toNat (at_4 - 0))+1) = ((Int.toNat (at_4 - 0))+1)) rfl<|.gc (((Int.toNat (at_4 - 0))+1)+(Int.toNat ((out_11.length:Int) - at_4))) 112<|.lf ((il a b (((m4 aU out_11 0 (Int.toNat (at_4 - 0)))++([f]:List ae))++(m4 aU out_11 (0+(Int.toNat at_4)) (Int.toNat ((out_11.length:Int) - at_4)))) i_9).opt) .normal (⟨[sv 0 (bk a),sv 1 (bk b),sv 5 (.row 0 14 0 (((Int.toNat (at_4 - 0))+1)+(Int.toNat ((out_11.length:Int) - at_4)))),sv 6 (i64 i_9),un 55,un 56,un 57,un 58,un 59,un 60,un 61,un 62],[(0,some (.row 70 14 (((Int.toNat (at_4 - 0))+1)+(Int.toNat ((out_11.length:Int) - at_4))) (fun i=>bif Nat.blt i ((Int.toNat (at_4 - 0))+1) then (fun i=>bif Nat.blt i (Int.toNat (at_4 - 0)) then (fun i=>(et out_11) (0+i)) i else (fun i=>(dq 14 (aR f)) (0+i)) (i - (Int.toNat (at_4 - 0)))) i else (fun i=>(et out_11) ((0+(Int.toNat at_4))+i)) (i - ((Int.toNat (at_4 - 0))+1)))))],1⟩)<|hh fun _ h=>lf (Hn h) (.of (.q rfl (.q rfl (.cons rfl (.rown (bY (bY Dr rfl) Dr)) (.q rfl .nil)))) (.row rfl (ac.app (ac.app (ac.sub aR aU out_11 0 (Int.toNat (at_4 - 0))) (ac.zero (ac.l1 (enc:=aR) (z:=aU) 14 f rfl))) (ac.sub aR aU out_11 (0+(Int.toNat at_4)) (Int.toNat ((out_11.length:Int) - at_4)))) .nil rfl) rfl))
theorem ad6 {a b out_11 i_9 at_4 f}:Ax tP 88 qe 7 (fun K=>(bj 1 (aH (ar tP 88 (List.drop 3 jP) K) K))) (lw a b out_11 i_9 at_4 f) (U3 a b out_11 i_9 at_4 f):=.tE mixed [e52,RW] [0,1,5,6,41,42,43,44,45,46,47,48,55,56,57,58,59,60,61,62] 3
def aii (a b out_8:(List ae)) (i_6 at_1:Int) (f:ae):St:=⟨[sv 0 (bk a),sv 1 (bk b),sv 5 (.row 0 14 0 out_8.length),sv 6 (i64 i_6),sv 7 (.ptr 1 14 0 0),sv 8 (i64 at_1)],[(bP 0 70 out_8),(1,some (.bx (aR f)))],2⟩
abbrev yK (a b out_8:(List ae)) (i_6 at_1:Int) (f:ae) (r:(((List ae) × Int × Int))):Option (((List ae) × Int) ⊕ (((List ae)))):=match r with | (out_10,i_8,at_3)=>((lw a b out_10 i_8 at_3 f).opt)
def ub (a b out_8:(List ae)) (i_6 at_1:Int) (f:ae):Option (((List ae) × Int) ⊕ (((List ae)))):=(fixL (oZ a b out_8 i_6 at_1 f) (out_8,i_6,at_1)).bind (yK a b out_8 i_6 at_1 f)
theorem ago:List.drop 6 qe = .block 2 (.loop (ah (ah (aQ qe 6)))) :: List.drop 7 qe:=by kernel_rfl
theorem ahv (a b out_8 i_6 at_1 f K):∀ r,W (yK a b out_8 i_6 at_1 f r) (nE (lH a b) (lK a b) K)→Cq a b out_8 i_6 at_1 f r (wK (bj 2 (aH (ar tP 88 (List.drop 7 qe) (bj 1 (aH (ar tP 88 (List.drop 3 jP) K) K))) (bj 1 (aH (ar tP 88 (List.drop 3 jP) K) K)))))
  | (out_10,i_8,at_3),h=>⟨(U3 a b out_10 i_8 at_3 f),(.refl _),(ad6 h)⟩
theorem agr {a b out_8 i_6 at_1 f K} (h:W (ub a b out_8 i_6 at_1 f) (nE (lH a b) (lK a b) K)):ar tP 88 (List.drop 6 qe) (bj 1 (aH (ar tP 88 (List.drop 3 jP) K) K)) (aii a b out_8 i_6 at_1 f) :=
  ar.at_ ago (ar.cons_loop (aC.weak (aC.ent (.refl _) (aC.loopF (x:=ah (ah (aQ qe 6))) (f:=oZ a b out_8 i_6 at_1 f) (emb:=GO a b out_8 i_6 at_1 f) (E:=Cq a b out_8 i_6 at_1 f) (af6 a b out_8 i_6 at_1 f) (SE a b out_8 i_6 at_1 f) (bT h (ahv a b out_8 i_6 at_1 f K))))))
def U0 (a b out_7:(List ae)) (i_4:Int) (f:ae):St:=⟨[sv 0 (bk a),sv 1 (bk b),sv 5 (.row 0 14 0 out_7.length),sv 6 (i64 i_4),sv 7 (.ptr 1 14 0 0)],[(bP 0 70 out_7),(1,some (.bx (aR f)))],2⟩
def pn (a b out_7:(List ae)) (i_4:Int) (f:ae):PT _ (nE (lH a b) (lK a b)) (dK tP 88 qe 6 (fun K=>(bj 1 (aH (ar tP 88 (List.drop 3 jP) K) K)))):=.bd (eZ f) false fun r_4=>.bf (!r_4) (.lf ((il a b out_7 i_4).opt) (.exit 1) (U0 a b out_7 i_4 f)<|hh fun _ h=>lf (Hn h) (.cn [0,1,5,6])) (.lf (ub a b out_7 i_4 (out_7.length:Int) f) .normal _<|hh fun _ h=>l0 (agr h))
theorem Ry {a b out_7 i_4 f}:Ax tP 88 qe 3 (fun K=>(bj 1 (aH (ar tP 88 (List.drop 3 jP) K) K))) (pn a b out_7 i_4 f) (U0 a b out_7 i_4 f):=.tD mixed [ZY] [0,1,5,6,7,8,41,42,43,44,45,46,47,48,55,56,57,58,59,60,61,62] 3
def ahr (a b out_5:(List ae)) (i_3:Int):St:=⟨[sv 0 (bk a),sv 1 (bk b),sv 5 (.row 0 14 0 out_5.length),sv 6 (i64 i_3)],[(bP 0 70 out_5)],1⟩
def pb (a b out_5:(List ae)) (i_3:Int):PT _ (nE (lH a b) (lK a b)) (dK tP 88 qe 3 (fun K=>(bj 1 (aH (ar tP 88 (List.drop 3 jP) K) K)))):=.bf (decide (i_3 < (a.length:Int))) (.g2 (0≤i_3) (i_3 < (a.length:Int))<|.lf ((pn a b out_5 i_3 (a.getD (Int.toNat i_3) aU)).opt) .normal _<|hh fun _ h=>l0 (Ry h)) (.g2 (0≤(ai (i_3 - (a.length:Int)))) ((ai (i_3 - (a.length:Int))) < (b.length:Int))<|.lf ((pn a b out_5 i_3 (b.getD (Int.toNat (ai (i_3 - (a.length:Int)))) aU)).opt) .normal _<|hh fun _ h=>l0 (Ry h))
theorem agy {a b out_5 i_3}:Ax tP 88 qe 0 (fun K=>(bj 1 (aH (ar tP 88 (List.drop 3 jP) K) K))) (pb a b out_5 i_3) (ahr a b out_5 i_3):=.tD mixed [] [0,1,5,6,7,41,42,43,44,45,46,47,48,55,56,57,58,59,60,61,62] 3
def aib (a b out_3:(List ae)) (i_2:Int):St:=⟨[sv 0 (bk a),sv 1 (bk b),sv 5 (.row 0 14 0 out_3.length),sv 6 (i64 i_2)],[(bP 0 70 out_3)],1⟩
def BB (a b out_3:(List ae)) (i_2:Int):Option (((List ae) × Int) ⊕ (((List ae)))):=((pb a b out_3 i_2).opt)
theorem agj:List.drop 2 jP = .block 1 (ah (aQ jP 2)) :: List.drop 3 jP:=by kernel_rfl
theorem aaT {a b out_3 i_2 K} (h:W (BB a b out_3 i_2) (nE (lH a b) (lK a b) K)):ar tP 88 (List.drop 2 jP) K (aib a b out_3 i_2) :=
  ar.at_ agj (ar.cons_block (ar.en (agy h) (.refl _)))
def agS (a b out_2:(List ae)) (i_1:Int):St:=lH a b (out_2,i_1)
def oN (a b out_2:(List ae)) (i_1:Int):PT _ (nE (lH a b) (lK a b)) (dK tP 88 jP 2 iK):=.bf (decide (i_1 < (ai ((a.length:Int)+(b.length:Int))))) (.lf (BB a b out_2 i_1) .normal _<|hh fun _ h=>l0 (aaT h)) (.lf (some (Sum.inr out_2)) (.exit 0) (lH a b (out_2,i_1))<|hh fun _=>lg (.cn [5]))
theorem adX {a b out_2 i_1}:Ax tP 88 jP 0 iK (oN a b out_2 i_1) (agS a b out_2 i_1):=.tD mixed [] [0,1,5,6,41,42,43,44,45,46,47,48,55,56,57,58,59,60,61,62] 2
def pj (a b:(List ae)) (s:((List ae) × Int)):Option (((List ae) × Int) ⊕ (((List ae)))):=match s with | (out_2,i_1)=>(oN a b out_2 i_1).opt
theorem afo (a b s):Pp tP 88 (List.drop 0 jP) (lH a b s) (pj a b s) (cl (lH a b) (lK a b)):=fun K h=>match s,h with | (out_2,i_1),h=>(adX h)
theorem SX (a b):∀ r J K,lK a b r K→lK a b r (aH J K)
  | s,_,_,h=>h
def Vo (out_6:(List ae)):St:=⟨[sv 5 (.row 0 14 0 out_6.length)],[(bP 0 70 out_6)],1⟩
def ph (out_6:(List ae)):PT _ (rE TB) iK:=.lf (some out_6) .ret _<|hh fun _=>l0
theorem ac7 {out_6}:Ax tP 88 uO 4 iK (ph out_6) (Vo out_6):=.tE mixed [] [4] 2
def akl (a b:(List ae)):St:=⟨[sv 0 (bk a),sv 1 (bk b),sv 5 (.c .nil),sv 6 (i64 0)],[],0⟩
abbrev xX (a b:(List ae)) (r:(((List ae)))):Option ((List ae)):=match r with | out_4=>((ph out_4).opt)
def B9 (a b:(List ae)):Option ((List ae)):=(fixL (pj a b) (([]:List ae),0)).bind (xX a b)
theorem adx:List.drop 3 uO = .block 0 (.loop (ah (ah (aQ uO 3)))) :: List.drop 4 uO:=by kernel_rfl
theorem ahX (a b K):∀ r,W (xX a b r) (rE TB K)→lK a b r (wK (bj 0 (aH (ar tP 88 (List.drop 4 uO) K) K)))
  | out_4,h=>⟨(Vo out_4),(.refl _),(ac7 h)⟩
theorem aeO {a b K} (h:W (B9 a b) (rE TB K)):ar tP 88 (List.drop 3 uO) K (akl a b) :=
  ar.at_ adx (ar.cons_loop (aC.weak (aC.ent (.trans (.nilrow 5 0 70 14 (aV aR aU []) (Nat.le_of_ble_eq_true rfl) rfl) (.cn [0,1,5,6])) (aC.loopF (x:=ah (ah (aQ uO 3))) (f:=pj a b) (emb:=lH a b) (E:=lK a b) (afo a b) (SX a b) (bT h (ahX a b K))))))
def af1 (a b:(List ae)):St:=⟨[sv 0 (bk a),sv 1 (bk b)],[],0⟩
def zI (a b:(List ae)):PT _ (rE TB) (dK tP 88 uO 3 iK):=.lf (B9 a b) .normal _<|hh fun _ h=>l0 (aeO h)
theorem Xd {a b}:Ax tP 88 uO 0 iK (zI a b) (af1 a b):=.tD mixed [] [0,1,5,6,41,42,43,44,45,46,47,48,55,56,57,58,59,60,61,62] 3
def uP (a b:(List ae)):Option ((List ae)):=(zI a b).opt
def E9:bU:=fH ii ii uP ([]:List ae) JH
theorem L5:bc tP 24 E9:=dA Tryz.f24 (an Tryz.f24) [.tmp 4] 88 fun u0 u1 y h=>@Xd u0 u1 _ (bn.2 ⟨y,h,(cz (.row 0 14 0 y.length) (⟨_,_,_,rfl,rfl,rfl,fun _ _=>rfl,fun _ i hi d hd=>lY _ d hd⟩))⟩)
abbrev e24:FE tP:=⟨24, .pure E9,L5⟩
noncomputable def AK:List Code:=aA (an Tryz.f5)
noncomputable def aiC:List Code:=aA (ah (ah (aQ AK 3)))
def IY (x_1:(List ae)):bK:=.own true 70 14 (x_1).length (aV aR aU x_1)
def ZC (x_1:(List ae)):St:=⟨[sv 4 (.row 0 14 0 x_1.length)],[(bP 0 70 x_1)],1⟩
def Ks (l:(List aN)) (n:(List Int)) (s:((List ae) × Int)):St:=match s with | (out_1,i_1)=>⟨[sv 0 (eW l),sv 1 (fG n),sv 5 (.row 0 14 0 out_1.length),sv 6 (i64 i_1)],[(bP 0 70 out_1)],1⟩
def aip (l:(List aN)) (n:(List Int)) (s:(List ae)):St:=match s with | out_2=>⟨[sv 1 (fG n),sv 5 (.row 0 14 0 out_2.length)],[(bP 0 70 out_2)],1⟩
def Hq (l:(List aN)) (n:(List Int)) (r:(((List ae)))) (K:KT):Prop:=match r with | s=>K (.exit 0) (aip l n s)
def al5 (l:(List aN)) (n:(List Int)) (out_1:(List ae)) (i_1:Int):St:=Ks l n (out_1,i_1)
def nv (l:(List aN)) (n:(List Int)) (out_1:(List ae)) (i_1:Int):PT _ (nE (Ks l n) (Hq l n)) iK:=.bf (bif (decide (i_1 < (l.length:Int))) then (decide (i_1 < 12)) else false) (.g2 (0≤i_1) (i_1 < (l.length:Int))<|.tv ((2:Int)≠0) (by decide)<|.bf ((Int.tmod i_1 2) == 0) (.bd (fu ((l.getD (Int.toNat i_1) bq).Kind) 6) 0 fun r_4=>.bd (zJ (aN.mk (l.getD (Int.toNat i_1) bq).Issuer (l.getD (Int.toNat i_1) bq).Number (l.getD (Int.toNat i_1) bq).Version (l.getD (Int.toNat i_1) bq).Withdrawn 0 (ai (4+r_4)) (l.getD (Int.toNat i_1) bq).State (l.getD (Int.toNat i_1) bq).Seat (l.getD (Int.toNat i_1) bq).From (l.getD (Int.toNat i_1) bq).Length (l.getD (Int.toNat i_1) bq).Share (l.getD (Int.toNat i_1) bq).Amount (l.getD (Int.toNat i_1) bq).Ref)) aU fun r_5=>.tv (out_1.length = out_1.length) rfl<|.gc (out_1.length+1) 112<|.lf (some (Sum.inl ((out_1++([r_5]:List ae)),(ai (i_1+1))))) .normal (⟨[sv 0 (eW l),sv 1 (fG n),sv 5 (.row 0 14 0 (out_1.length+1)),sv 6 (i64 (ai (i_1+1))),un 13,un 14],[(0,some (.row 70 14 (out_1.length+1) (fun i=>bif Nat.blt i out_1.length then (et out_1) i else (fun i=>(dq 14 (aR r_5)) (0+i)) (i - out_1.length))))],1⟩)<|hh fun _=>lg (.of (.q rfl (.q rfl (.cons rfl (.rown (bY rfl rfl)) (.q rfl .nil)))) (.row rfl (ac.app .b (ac.zero (ac.l1 (enc:=aR) (z:=aU) 14 r_5 rfl))) .nil rfl) rfl)) (.bd (zJ (aN.mk (l.getD (Int.toNat i_1) bq).Issuer (l.getD (Int.toNat i_1) bq).Number (l.getD (Int.toNat i_1) bq).Version (l.getD (Int.toNat i_1) bq).Withdrawn 0 (l.getD (Int.toNat i_1) bq).Kind (l.getD (Int.toNat i_1) bq).State (l.getD (Int.toNat i_1) bq).Seat (l.getD (Int.toNat i_1) bq).From (l.getD (Int.toNat i_1) bq).Length (l.getD (Int.toNat i_1) bq).Share (l.getD (Int.toNat i_1) bq).Amount (l.getD (Int.toNat i_1) bq).Ref)) aU fun r_6=>.tv (out_1.length = out_1.length) rfl<|.gc (out_1.length+1) 112<|.lf (some (Sum.inl ((out_1++([r_6]:List ae)),(ai (i_1+1))))) .normal (⟨[sv 0 (eW l),sv 1 (fG n),sv 5 (.row 0 14 0 (out_1.length+1)),sv 6 (i64 (ai (i_1+1))),un 13,un 14],[(0,some (.row 70 14 (out_1.length+1) (fun i=>bif Nat.blt i out_1.length then (et out_1) i else (fun i=>(dq 14 (aR r_6)) (0+i)) (i - out_1.length))))],1⟩)<|hh fun _=>lg (.of (.q rfl (.q rfl (.cons rfl (.rown (bY rfl rfl)) (.q rfl .nil)))) (.row rfl (ac.app .b (ac.zero (ac.l1 (enc:=aR) (z:=aU) 14 r_6 rfl))) .nil rfl) rfl))) (.lf (some (Sum.inr out_1)) (.exit 0) _<|hh fun _=>lx [1,5] [13,14] [sv 0 (eW l),sv 6 (i64 i_1)])
theorem ai3 {l n out_1 i_1}:Ax tP 46 aiC 0 iK (nv l n out_1 i_1) (al5 l n out_1 i_1):=.tE mixed [ez,e21] [0,1,5,6,13,14] 4
def nB (l:(List aN)) (n:(List Int)) (s:((List ae) × Int)):Option (((List ae) × Int) ⊕ (((List ae)))):=match s with | (out_1,i_1)=>(nv l n out_1 i_1).opt
theorem alJ (l n s):Pp tP 46 (List.drop 0 aiC) (Ks l n s) (nB l n s) (cl (Ks l n) (Hq l n)):=fun K h=>match s,h with | (out_1,i_1),h=>(ai3 h)
theorem VU (l n):∀ r J K,Hq l n r K→Hq l n r (aH J K)
  | s,_,_,h=>h
def Zq (n:(List Int)) (out_3:(List ae)):St:=⟨[sv 1 (fG n),sv 5 (.row 0 14 0 out_3.length)],[(bP 0 70 out_3)],1⟩
def ny (n:(List Int)) (out_3:(List ae)):PT _ (rE ZC) iK:=.bf (decide (0 < (n.length:Int))) (.lk bw n fun L1_=>.bd (KU L1_) [] fun r_11=>.tv (aJ aR dF 14 14 r_11.length (fun i=>(et r_11) (0+i))) (ac.ok cf (ac.zero .b))<|.ls (a:=lst dF r_11.length (fun i=>(et r_11) (0+i))) (lr cf (ac.zero .b)) fun L2_=>.bd (Qc L2_ 1) [] fun r_12=>.tv (out_3.length = out_3.length) rfl<|.gc (out_3.length+r_12.length) 112<|.tv (aJ aR dF 14 14 (out_3.length+r_12.length) (fun i=>(fun i=>bif Nat.blt i out_3.length then (et out_3) i else (fun i=>(et r_12) (0+i)) (i - out_3.length)) (0+i))) (ac.ok cf (ac.zero (ac.app .b (ac.zero .b))))<|.tv (aJ aR dF 14 0 0 (fun _=>[])) (ac.okN cf (ac.nil aR aU _))<|.ls (a:=lst dF (out_3.length+r_12.length) (fun i=>(fun i=>bif Nat.blt i out_3.length then (et out_3) i else (fun i=>(et r_12) (0+i)) (i - out_3.length)) (0+i))) (lr cf (ac.zero (ac.app .b (ac.zero .b)))) fun L3_=>.ls (a:=lst dF 0 (fun _=>[])) (lr cf (ac.nil aR aU _)) fun L4_=>.bd (uP L3_ L4_) [] fun r_13=>.lf (some r_13) .ret _<|hh fun _=>l0) (.tv (aJ aR dF 14 14 out_3.length (fun i=>(et out_3) (0+i))) (ac.ok cf (ac.zero .b))<|.tv (aJ aR dF 14 0 0 (fun _=>[])) (ac.okN cf (ac.nil aR aU _))<|.ls (a:=lst dF out_3.length (fun i=>(et out_3) (0+i))) (lr cf (ac.zero .b)) fun L5_=>.ls (a:=lst dF 0 (fun _=>[])) (lr cf (ac.nil aR aU _)) fun L6_=>.bd (uP L5_ L6_) [] fun r_14=>.lf (some r_14) .ret _<|hh fun _=>l0)
theorem ajU {n out_3}:Ax tP 46 AK 4 iK (ny n out_3) (Zq n out_3):=.tE mixed [M0,fO,e24] [4] 4
def amV (l:(List aN)) (n:(List Int)):St:=⟨[sv 0 (eW l),sv 1 (fG n),sv 5 (.c .nil),sv 6 (i64 0)],[],0⟩
abbrev wQ (l:(List aN)) (n:(List Int)) (r:(((List ae)))):Option ((List ae)):=match r with | out_2=>((ny n out_2).opt)
def Ag (l:(List aN)) (n:(List Int)):Option ((List ae)):=(fixL (nB l n) (([]:List ae),0)).bind (wQ l n)
theorem aj3:List.drop 3 AK = .block 0 (.loop (ah (ah (aQ AK 3)))) :: List.drop 4 AK:=by kernel_rfl
theorem ani (l n K):∀ r,W (wQ l n r) (rE ZC K)→Hq l n r (wK (bj 0 (aH (ar tP 46 (List.drop 4 AK) K) K)))
  | out_2,h=>⟨(Zq n out_2),(.refl _),(ajU h)⟩
theorem ak5 {l n K} (h:W (Ag l n) (rE ZC K)):ar tP 46 (List.drop 3 AK) K (amV l n) :=
  ar.at_ aj3 (ar.cons_loop (aC.weak (aC.ent (.trans (.nilrow 5 0 70 14 (aV aR aU []) (Nat.le_of_ble_eq_true rfl) rfl) (.cn [0,1,5,6])) (aC.loopF (x:=ah (ah (aQ AK 3))) (f:=nB l n) (emb:=Ks l n) (E:=Hq l n) (alJ l n) (VU l n) (bT h (ani l n K))))))
def anh (l:(List aN)) (n:(List Int)):St:=⟨[sv 0 (eW l),sv 1 (fG n)],[],0⟩
def Aj (l:(List aN)) (n:(List Int)):PT _ (rE ZC) (dK tP 46 AK 3 iK):=.lf (Ag l n) .normal _<|hh fun _ h=>l0 (ak5 h)
theorem ahL {l n}:Ax tP 46 AK 0 iK (Aj l n) (anh l n):=.tD mixed [] [0,1,5,6,13,14] 3
def x5 (l:(List aN)) (n:(List Int)):Option ((List ae)):=(Aj l n).opt
def CN:bU:=fH vB YP x5 ([]:List ae) IY
theorem Kq:bc tP 5 CN:=dA Tryz.f5 (an Tryz.f5) [.tmp 4] 46 fun u0 u1 y h=>@ahL u0 u1 _ (bn.2 ⟨y,h,(cz (.row 0 14 0 y.length) (⟨_,_,_,rfl,rfl,rfl,fun _ _=>rfl,fun _ i hi d hd=>lY _ d hd⟩))⟩)
abbrev e5:FE tP:=⟨5, .pure CN,Kq⟩
noncomputable def amv:List Code:=aA (an Tryz.f63)
def Ny (x_1:Int):bK:=.data (.c (.lit (.int .u64 x_1)))
def anM (x_1:Int):St:=⟨[sv 2 (.c (.lit (.int .u64 x_1)))],[],0⟩
def alF (n:Int):St:=⟨[sv 0 (i64 n)],[],0⟩
def sh (n:Int):PT _ (rE anM) iK:=.bf (decide (n < 0)) (.lf (some (IntKind.u64.wrap ((IntKind.u64.wrap (ai (0 - (ai (n+1)))))+1))) .ret _<|hh fun _=>l0) (.lf (some (IntKind.u64.wrap n)) .ret _<|hh fun _=>l0)
theorem adM {n}:Ax tP 12 amv 0 iK (sh n) (alF n):=.tE mixed [] [2] 5
def lW (n:Int):Option (Int):=(sh n).opt
def HV:bU:=dI (aI .i64) lW (0:Int) Ny
theorem O0:bc tP 63 HV:=cD Tryz.f63 (an Tryz.f63) [.tmp 2] 12 fun u0 y h=>@adM u0 _ (bn.2 ⟨y,h,(cz (.c (.lit (.int .u64 y))) (VLe.rfl' _))⟩)
abbrev e63:FE tP:=⟨63, .pure HV,O0⟩
noncomputable def yS:List Code:=aA (an Tryz.f123)
def Fl (x_5:Int):bK:=.data (i64 x_5)
def NW (x_5:Int):St:=⟨[sv 2 (i64 x_5)],[],0⟩
def Z0 (x_4 n_2:Int):St:=⟨[sv 0 (.c (.lit (.int .u64 x_4))),sv 2 (i64 n_2)],[],0⟩
def nS (x_4 n_2:Int):PT _ (rE NW) iK:=.g2 (0≤(IntKind.u8.wrap x_4)) ((IntKind.u8.wrap x_4) < ((ak [0,1,2,2,3,3,3,3,4,4,4,4,4,4,4,4,5,5,5,5,5,5,5,5,5,5,5,5,5,5,5,5,6,6,6,6,6,6,6,6,6,6,6,6,6,6,6,6,6,6,6,6,6,6,6,6,6,6,6,6,6,6,6,6,7,7,7,7,7,7,7,7,7,7,7,7,7,7,7,7,7,7,7,7,7,7,7,7,7,7,7,7,7,7,7,7,7,7,7,7,7,7,7,7,7,7,7,7,7,7,7,7,7,7,7,7,7,7,7,7,7,7,7,7,7,7,7,7,8,8,8,8,8,8,8,8,8,8,8,8,8,8,8,8,8,8,8,8,8,8,8,8,8,8,8,8,8,8,8,8,8,8,8,8,8,8,8,8,8,8,8,8,8,8,8,8,8,8,8,8,8,8,8,8,8,8,8,8,8,8,8,8,8,8,8,8,8,8,8,8,8,8,8,8,8,8,8,8,8,8,8,8,8,8,8,8,8,8,8,8,8,8,8,8,8,8,8,8,8,8,8,8,8,8,8,8,8,8,8,8,8,8,8,8,8,8,8,8,8,8,8,8,8,8,8,8]).size:Int))<|.lf (some (ai (n_2+(ai (((ak [0,1,2,2,3,3,3,3,4,4,4,4,4,4,4,4,5,5,5,5,5,5,5,5,5,5,5,5,5,5,5,5,6,6,6,6,6,6,6,6,6,6,6,6,6,6,6,6,6,6,6,6,6,6,6,6,6,6,6,6,6,6,6,6,7,7,7,7,7,7,7,7,7,7,7,7,7,7,7,7,7,7,7,7,7,7,7,7,7,7,7,7,7,7,7,7,7,7,7,7,7,7,7,7,7,7,7,7,7,7,7,7,7,7,7,7,7,7,7,7,7,7,7,7,7,7,7,7,8,8,8,8,8,8,8,8,8,8,8,8,8,8,8,8,8,8,8,8,8,8,8,8,8,8,8,8,8,8,8,8,8,8,8,8,8,8,8,8,8,8,8,8,8,8,8,8,8,8,8,8,8,8,8,8,8,8,8,8,8,8,8,8,8,8,8,8,8,8,8,8,8,8,8,8,8,8,8,8,8,8,8,8,8,8,8,8,8,8,8,8,8,8,8,8,8,8,8,8,8,8,8,8,8,8,8,8,8,8,8,8,8,8,8,8,8,8,8,8,8,8,8,8,8,8,8,8]).data.getD (Int.toNat (IntKind.u8.wrap x_4)) 0).toNat:Int))))) .ret _<|hh fun _=>l0
theorem PA {x_4 n_2}:Ax tP 25 yS 7 iK (nS x_4 n_2) (Z0 x_4 n_2):=.tE mixed [] [2] 2
def acJ (x_3 n_1:Int):St:=⟨[sv 0 (.c (.lit (.int .u64 x_3))),sv 2 (i64 n_1)],[],0⟩
def nV (x_3 n_1:Int):PT _ (rE NW) (dK tP 25 yS 7 iK):=.bf (decide (256≤x_3)) (.tv (0≤(8:Int)) (by decide)<|.lf ((nS (Int.fdiv x_3 (2 ^ min (Int.toNat (8:Int)) 64)) (ai (n_1+8))).opt) .normal _<|hh fun _ h=>l0 (PA h)) (.lf ((nS x_3 n_1).opt) .normal _<|hh fun _ h=>l0 (PA h))
theorem OU {x_3 n_1}:Ax tP 25 yS 5 iK (nV x_3 n_1) (acJ x_3 n_1):=.tD mixed [] [0,2] 2
def ab9 (x_2 n:Int):St:=⟨[sv 0 (.c (.lit (.int .u64 x_2))),sv 2 (i64 n)],[],0⟩
def oC (x_2 n:Int):PT _ (rE NW) (dK tP 25 yS 5 iK):=.bf (decide (65536≤x_2)) (.tv (0≤(16:Int)) (by decide)<|.lf ((nV (Int.fdiv x_2 (2 ^ min (Int.toNat (16:Int)) 64)) (ai (n+16))).opt) .normal _<|hh fun _ h=>l0 (OU h)) (.lf ((nV x_2 n).opt) .normal _<|hh fun _ h=>l0 (OU h))
theorem Pw {x_2 n}:Ax tP 25 yS 3 iK (oC x_2 n) (ab9 x_2 n):=.tD mixed [] [0,2] 2
def af5 (x_1:Int):St:=⟨[sv 0 (.c (.lit (.int .u64 x_1)))],[],0⟩
def vZ (x_1:Int):PT _ (rE NW) (dK tP 25 yS 3 iK):=.bf (decide (4294967296≤x_1)) (.tv (0≤(32:Int)) (by decide)<|.lf ((oC (Int.fdiv x_1 (2 ^ min (Int.toNat (32:Int)) 64)) 32).opt) .normal _<|hh fun _ h=>l0 (Pw h)) (.lf ((oC x_1 0).opt) .normal _<|hh fun _ h=>l0 (Pw h))
theorem X0 {x_1}:Ax tP 25 yS 0 iK (vZ x_1) (af5 x_1):=.tD mixed [] [0,2] 3
def Ab (x_1:Int):Option (Int):=(vZ x_1).opt
def xc:bU:=dI (aI .u64) Ab (0:Int) Fl
theorem G1:bc tP 123 xc:=cD Tryz.f123 (an Tryz.f123) [.tmp 2] 25 fun u0 y h=>@X0 u0 _ (bn.2 ⟨y,h,(cz (i64 y) (VLe.rfl' _))⟩)
abbrev aoK:FE tP:=⟨123, .pure xc,G1⟩
noncomputable def agY:List Code:=aA (an Tryz.f133)
def tM (x_2:Int):bK:=.data (i64 x_2)
def amN (x_2:Int):St:=⟨[sv 2 (i64 x_2)],[],0⟩
def abz (x_1:Int):St:=⟨[sv 0 (.c (.lit (.int .u64 x_1)))],[],0⟩
def lU (x_1:Int):PT _ (rE amN) iK:=.bd (Ab x_1) 0 fun r_2=>.lf (some (ai (64 - r_2))) .ret _<|hh fun _=>l0
theorem YJ {x_1}:Ax tP 6 agY 0 iK (lU x_1) (abz x_1):=.tE mixed [aoK] [2] 3
def oa (x_1:Int):Option (Int):=(lU x_1).opt
def mM:bU:=dI (aI .u64) oa (0:Int) tM
theorem wo:bc tP 133 mM:=cD Tryz.f133 (an Tryz.f133) [.tmp 2] 6 fun u0 y h=>@YJ u0 _ (bn.2 ⟨y,h,(cz (i64 y) (VLe.rfl' _))⟩)
abbrev aoF:FE tP:=⟨133, .pure mM,wo⟩
noncomputable def gC:List Code:=aA (an Tryz.f107)
noncomputable def Vv:List Code:=aA (ah (ah (aQ gC 17)))
noncomputable def Wr:List Code:=aA (ah (ah (aQ gC 21)))
def Fy (x_1:(Int × Int)):bK:=.data (.tup [(.c (.lit (.int .u64 x_1.1))),(.c (.lit (.int .u64 x_1.2)))])
def Dg (x_1:(Int × Int)):St:=⟨[sv 6 (.c (.lit (.int .u64 x_1.1))),sv 7 (.c (.lit (.int .u64 x_1.2)))],[],0⟩
def BO (y_1 s_1 yn1 yn0 un32 un1 un0 q1 rhat:Int) (s:(Int × Int)):St:=match s with | (q1_2,rhat_1)=>⟨[sv 2 (.c (.lit (.int .u64 y_1))),sv 8 (.c (.lit (.int .u64 s_1))),sv 9 (.c (.lit (.int .u64 yn1))),sv 10 (.c (.lit (.int .u64 yn0))),sv 11 (.c (.lit (.int .u64 un32))),sv 13 (.c (.lit (.int .u64 un1))),sv 14 (.c (.lit (.int .u64 un0))),sv 15 (.c (.lit (.int .u64 q1_2))),sv 16 (.c (.lit (.int .u64 rhat_1)))],[],0⟩
def Oj (y_1 s_1 yn1 yn0 un32 un1 un0 q1 rhat:Int) (s:Int):St:=match s with | q1_1=>⟨[sv 2 (.c (.lit (.int .u64 y_1))),sv 8 (.c (.lit (.int .u64 s_1))),sv 9 (.c (.lit (.int .u64 yn1))),sv 10 (.c (.lit (.int .u64 yn0))),sv 11 (.c (.lit (.int .u64 un32))),sv 13 (.c (.lit (.int .u64 un1))),sv 14 (.c (.lit (.int .u64 un0))),sv 15 (.c (.lit (.int .u64 q1_1)))],[],0⟩
def xO (y_1 s_1 yn1 yn0 un32 un1 un0 q1 rhat:Int) (r:((Int))) (K:KT):Prop:=match r with | s=>K (.exit 0) (Oj y_1 s_1 yn1 yn0 un32 un1 un0 q1 rhat s)
def adU (y_1 s_1 yn1 yn0 un32 un1 un0 q1_2 rhat_1:Int):St:=BO y_1 s_1 yn1 yn0 un32 un1 un0 (0:Int) (0:Int) (q1_2,rhat_1)
def vW (y_1 s_1 yn1 yn0 un32 un1 un0 q1_2 rhat_1:Int):PT _ (nE (BO y_1 s_1 yn1 yn0 un32 un1 un0 (0:Int) (0:Int)) (xO y_1 s_1 yn1 yn0 un32 un1 un0 (0:Int) (0:Int))) iK:=.bf (bif (decide (4294967296≤q1_2)) then true else (decide ((IntKind.u64.wrap ((IntKind.u64.wrap (4294967296*rhat_1))+un1)) < (IntKind.u64.wrap (q1_2*yn0))))) (.bf (decide (4294967296≤(IntKind.u64.wrap (rhat_1+yn1)))) (.lf (some (Sum.inr (IntKind.u64.wrap (q1_2 - 1)))) (.exit 0) _<|hh fun _=>lx [2,8,9,10,11,13,14,15] [70,71,72,73,74,75,76,77] [sv 16 (.c (.lit (.int .u64 (IntKind.u64.wrap (rhat_1+yn1)))))]) (.lf (some (Sum.inl ((IntKind.u64.wrap (q1_2 - 1)),(IntKind.u64.wrap (rhat_1+yn1))))) .normal _<|hh fun _=>lx [2,8,9,10,11,13,14,15,16] [70,71,72,73,74,75,76,77] [])) (.lf (some (Sum.inr q1_2)) (.exit 0) _<|hh fun _=>lx [2,8,9,10,11,13,14,15] [70,71,72,73,74,75,76,77] [sv 16 (.c (.lit (.int .u64 rhat_1)))])
theorem YK {y_1 s_1 yn1 yn0 un32 un1 un0 q1_2 rhat_1}:Ax tP 135 Vv 0 iK (vW y_1 s_1 yn1 yn0 un32 un1 un0 q1_2 rhat_1) (adU y_1 s_1 yn1 yn0 un32 un1 un0 q1_2 rhat_1):=.tE mixed [] [2,8,9,10,11,13,14,15,16,70,71,72,73,74,75,76,77,105,106,107,108,109,110,111,112] 3
def nN (y_1 s_1 yn1 yn0 un32 un1 un0 q1 rhat:Int) (s:(Int × Int)):Option ((Int × Int) ⊕ ((Int))):=match s with | (q1_2,rhat_1)=>(vW y_1 s_1 yn1 yn0 un32 un1 un0 q1_2 rhat_1).opt
theorem XY (y_1 s_1 yn1 yn0 un32 un1 un0 q1 rhat s):Pp tP 135 (List.drop 0 Vv) (BO y_1 s_1 yn1 yn0 un32 un1 un0 q1 rhat s) (nN y_1 s_1 yn1 yn0 un32 un1 un0 q1 rhat s) (cl (BO y_1 s_1 yn1 yn0 un32 un1 un0 q1 rhat) (xO y_1 s_1 yn1 yn0 un32 un1 un0 q1 rhat)):=fun K h=>match s,h with | (q1_2,rhat_1),h=>(YK h)
theorem Qv (y_1 s_1 yn1 yn0 un32 un1 un0 q1 rhat):∀ r J K,xO y_1 s_1 yn1 yn0 un32 un1 un0 q1 rhat r K→xO y_1 s_1 yn1 yn0 un32 un1 un0 q1 rhat r (aH J K)
  | s,_,_,h=>h
def Bk (y_1 s_1 yn1 yn0 un0 q1_1 rhat_2 un21 q0:Int) (s:(Int × Int)):St:=match s with | (rhat_3,q0_2)=>⟨[sv 2 (.c (.lit (.int .u64 y_1))),sv 8 (.c (.lit (.int .u64 s_1))),sv 9 (.c (.lit (.int .u64 yn1))),sv 10 (.c (.lit (.int .u64 yn0))),sv 14 (.c (.lit (.int .u64 un0))),sv 15 (.c (.lit (.int .u64 q1_1))),sv 16 (.c (.lit (.int .u64 rhat_3))),sv 17 (.c (.lit (.int .u64 un21))),sv 18 (.c (.lit (.int .u64 q0_2)))],[],0⟩
def Ot (y_1 s_1 yn1 yn0 un0 q1_1 rhat_2 un21 q0:Int) (s:Int):St:=match s with | q0_1=>⟨[sv 2 (.c (.lit (.int .u64 y_1))),sv 8 (.c (.lit (.int .u64 s_1))),sv 14 (.c (.lit (.int .u64 un0))),sv 15 (.c (.lit (.int .u64 q1_1))),sv 17 (.c (.lit (.int .u64 un21))),sv 18 (.c (.lit (.int .u64 q0_1)))],[],0⟩
def xF (y_1 s_1 yn1 yn0 un0 q1_1 rhat_2 un21 q0:Int) (r:((Int))) (K:KT):Prop:=match r with | s=>K (.exit 2) (Ot y_1 s_1 yn1 yn0 un0 q1_1 rhat_2 un21 q0 s)
def aeJ (y_1 s_1 yn1 yn0 un0 q1_1 rhat_3 un21 q0_2:Int):St:=Bk y_1 s_1 yn1 yn0 un0 q1_1 (0:Int) un21 (0:Int) (rhat_3,q0_2)
def vM (y_1 s_1 yn1 yn0 un0 q1_1 rhat_3 un21 q0_2:Int):PT _ (nE (Bk y_1 s_1 yn1 yn0 un0 q1_1 (0:Int) un21 (0:Int)) (xF y_1 s_1 yn1 yn0 un0 q1_1 (0:Int) un21 (0:Int))) iK:=.bf (bif (decide (4294967296≤q0_2)) then true else (decide ((IntKind.u64.wrap ((IntKind.u64.wrap (4294967296*rhat_3))+un0)) < (IntKind.u64.wrap (q0_2*yn0))))) (.bf (decide (4294967296≤(IntKind.u64.wrap (rhat_3+yn1)))) (.lf (some (Sum.inr (IntKind.u64.wrap (q0_2 - 1)))) (.exit 2) _<|hh fun _=>lx [2,8,14,15,17,18] [105,106,107,108,109,110,111,112] [sv 9 (.c (.lit (.int .u64 yn1))),sv 10 (.c (.lit (.int .u64 yn0))),sv 16 (.c (.lit (.int .u64 (IntKind.u64.wrap (rhat_3+yn1)))))]) (.lf (some (Sum.inl ((IntKind.u64.wrap (rhat_3+yn1)),(IntKind.u64.wrap (q0_2 - 1))))) .normal _<|hh fun _=>lx [2,8,9,10,14,15,16,17,18] [105,106,107,108,109,110,111,112] [])) (.lf (some (Sum.inr q0_2)) (.exit 2) _<|hh fun _=>lx [2,8,14,15,17,18] [105,106,107,108,109,110,111,112] [sv 9 (.c (.lit (.int .u64 yn1))),sv 10 (.c (.lit (.int .u64 yn0))),sv 16 (.c (.lit (.int .u64 rhat_3)))])
theorem WN {y_1 s_1 yn1 yn0 un0 q1_1 rhat_3 un21 q0_2}:Ax tP 135 Wr 0 iK (vM y_1 s_1 yn1 yn0 un0 q1_1 rhat_3 un21 q0_2) (aeJ y_1 s_1 yn1 yn0 un0 q1_1 rhat_3 un21 q0_2):=.tE mixed [] [2,8,9,10,14,15,16,17,18,105,106,107,108,109,110,111,112] 3
def od (y_1 s_1 yn1 yn0 un0 q1_1 rhat_2 un21 q0:Int) (s:(Int × Int)):Option ((Int × Int) ⊕ ((Int))):=match s with | (rhat_3,q0_2)=>(vM y_1 s_1 yn1 yn0 un0 q1_1 rhat_3 un21 q0_2).opt
theorem Xc (y_1 s_1 yn1 yn0 un0 q1_1 rhat_2 un21 q0 s):Pp tP 135 (List.drop 0 Wr) (Bk y_1 s_1 yn1 yn0 un0 q1_1 rhat_2 un21 q0 s) (od y_1 s_1 yn1 yn0 un0 q1_1 rhat_2 un21 q0 s) (cl (Bk y_1 s_1 yn1 yn0 un0 q1_1 rhat_2 un21 q0) (xF y_1 s_1 yn1 yn0 un0 q1_1 rhat_2 un21 q0)):=fun K h=>match s,h with | (rhat_3,q0_2),h=>(WN h)
theorem QI (y_1 s_1 yn1 yn0 un0 q1_1 rhat_2 un21 q0):∀ r J K,xF y_1 s_1 yn1 yn0 un0 q1_1 rhat_2 un21 q0 r K→xF y_1 s_1 yn1 yn0 un0 q1_1 rhat_2 un21 q0 r (aH J K)
  | s,_,_,h=>h
def Rr (y_1 s_1 un0 q1_1 un21 q0_1:Int):St:=Ot y_1 s_1 (0:Int) (0:Int) un0 q1_1 (0:Int) un21 (0:Int) q0_1
def v7 (y_1 s_1 un0 q1_1 un21 q0_1:Int):PT _ (rE Dg) iK:=.g1 (0≤s_1)<|.lf (some ((IntKind.u64.wrap ((IntKind.u64.wrap (q1_1*4294967296))+q0_1)),(Int.fdiv (IntKind.u64.wrap ((IntKind.u64.wrap ((IntKind.u64.wrap (un21*4294967296))+un0)) - (IntKind.u64.wrap (q0_1*y_1)))) (2 ^ min (Int.toNat s_1) 64)))) .ret _<|hh fun _=>l0
theorem YE {y_1 s_1 un0 q1_1 un21 q0_1}:Ax tP 135 gC 22 iK (v7 y_1 s_1 un0 q1_1 un21 q0_1) (Rr y_1 s_1 un0 q1_1 un21 q0_1):=.tE mixed [] [6,7] 2
def aeK (y_1 s_1 yn1 yn0 un0 q1_1 rhat_2 un21 q0:Int):St:=⟨[sv 2 (.c (.lit (.int .u64 y_1))),sv 8 (.c (.lit (.int .u64 s_1))),sv 9 (.c (.lit (.int .u64 yn1))),sv 10 (.c (.lit (.int .u64 yn0))),sv 14 (.c (.lit (.int .u64 un0))),sv 15 (.c (.lit (.int .u64 q1_1))),sv 16 (.c (.lit (.int .u64 rhat_2))),sv 17 (.c (.lit (.int .u64 un21))),sv 18 (.c (.lit (.int .u64 q0)))],[],0⟩
abbrev rW (y_1 s_1 yn1 yn0 un0 q1_1 rhat_2 un21 q0:Int) (r:((Int))):Option ((Int × Int)):=match r with | q0_1=>((v7 y_1 s_1 un0 q1_1 un21 q0_1).opt)
def wh (y_1 s_1 yn1 yn0 un0 q1_1 rhat_2 un21 q0:Int):Option ((Int × Int)):=(fixL (od y_1 s_1 yn1 yn0 un0 q1_1 rhat_2 un21 q0) (rhat_2,q0)).bind (rW y_1 s_1 yn1 yn0 un0 q1_1 rhat_2 un21 q0)
theorem Yh:List.drop 21 gC = .block 2 (.loop (ah (ah (aQ gC 21)))) :: List.drop 22 gC:=by kernel_rfl
theorem aa8 (y_1 s_1 yn1 yn0 un0 q1_1 rhat_2 un21 q0 K):∀ r,W (rW y_1 s_1 yn1 yn0 un0 q1_1 rhat_2 un21 q0 r) (rE Dg K)→xF y_1 s_1 yn1 yn0 un0 q1_1 rhat_2 un21 q0 r (wK (bj 2 (aH (ar tP 135 (List.drop 22 gC) K) K)))
  | q0_1,h=>⟨(Rr y_1 s_1 un0 q1_1 un21 q0_1),(.refl _),(YE h)⟩
theorem YR {y_1 s_1 yn1 yn0 un0 q1_1 rhat_2 un21 q0 K} (h:W (wh y_1 s_1 yn1 yn0 un0 q1_1 rhat_2 un21 q0) (rE Dg K)):ar tP 135 (List.drop 21 gC) K (aeK y_1 s_1 yn1 yn0 un0 q1_1 rhat_2 un21 q0) :=
  ar.at_ Yh (ar.cons_loop (aC.weak (aC.ent (.refl _) (aC.loopF (x:=ah (ah (aQ gC 21))) (f:=od y_1 s_1 yn1 yn0 un0 q1_1 rhat_2 un21 q0) (emb:=Bk y_1 s_1 yn1 yn0 un0 q1_1 rhat_2 un21 q0) (E:=xF y_1 s_1 yn1 yn0 un0 q1_1 rhat_2 un21 q0) (Xc y_1 s_1 yn1 yn0 un0 q1_1 rhat_2 un21 q0) (QI y_1 s_1 yn1 yn0 un0 q1_1 rhat_2 un21 q0) (bT h (aa8 y_1 s_1 yn1 yn0 un0 q1_1 rhat_2 un21 q0 K))))))
def Q7 (y_1 s_1 yn1 yn0 un32 un1 un0 q1_1:Int):St:=Oj y_1 s_1 yn1 yn0 un32 un1 un0 (0:Int) (0:Int) q1_1
def vL (y_1 s_1 yn1 yn0 un32 un1 un0 q1_1:Int):PT _ (rE Dg) (dK tP 135 gC 21 iK):=.g1 (yn1≠0)<|.lf (wh y_1 s_1 yn1 yn0 un0 q1_1 (IntKind.u64.wrap ((IntKind.u64.wrap ((IntKind.u64.wrap ((IntKind.u64.wrap (un32*4294967296))+un1)) - (IntKind.u64.wrap (q1_1*y_1)))) - (IntKind.u64.wrap ((IntKind.u64.wrap (Int.tdiv (IntKind.u64.wrap ((IntKind.u64.wrap ((IntKind.u64.wrap (un32*4294967296))+un1)) - (IntKind.u64.wrap (q1_1*y_1)))) yn1))*yn1)))) (IntKind.u64.wrap ((IntKind.u64.wrap ((IntKind.u64.wrap (un32*4294967296))+un1)) - (IntKind.u64.wrap (q1_1*y_1)))) (IntKind.u64.wrap (Int.tdiv (IntKind.u64.wrap ((IntKind.u64.wrap ((IntKind.u64.wrap (un32*4294967296))+un1)) - (IntKind.u64.wrap (q1_1*y_1)))) yn1))) .normal _<|hh fun _ h=>l0 (YR h)
theorem YD {y_1 s_1 yn1 yn0 un32 un1 un0 q1_1}:Ax tP 135 gC 18 iK (vL y_1 s_1 yn1 yn0 un32 un1 un0 q1_1) (Q7 y_1 s_1 yn1 yn0 un32 un1 un0 q1_1):=.tD mixed [] [2,8,9,10,14,15,16,17,18,105,106,107,108,109,110,111,112] 3
def ady (y_1 s_1 yn1 yn0 un32 un1 un0 q1 rhat:Int):St:=⟨[sv 2 (.c (.lit (.int .u64 y_1))),sv 8 (.c (.lit (.int .u64 s_1))),sv 9 (.c (.lit (.int .u64 yn1))),sv 10 (.c (.lit (.int .u64 yn0))),sv 11 (.c (.lit (.int .u64 un32))),sv 13 (.c (.lit (.int .u64 un1))),sv 14 (.c (.lit (.int .u64 un0))),sv 15 (.c (.lit (.int .u64 q1))),sv 16 (.c (.lit (.int .u64 rhat)))],[],0⟩
abbrev sb (y_1 s_1 yn1 yn0 un32 un1 un0 q1 rhat:Int) (r:((Int))):Option ((Int × Int)):=match r with | q1_1=>((vL y_1 s_1 yn1 yn0 un32 un1 un0 q1_1).opt)
def vK (y_1 s_1 yn1 yn0 un32 un1 un0 q1 rhat:Int):Option ((Int × Int)):=(fixL (nN y_1 s_1 yn1 yn0 un32 un1 un0 q1 rhat) (q1,rhat)).bind (sb y_1 s_1 yn1 yn0 un32 un1 un0 q1 rhat)
theorem XS:List.drop 17 gC = .block 0 (.loop (ah (ah (aQ gC 17)))) :: List.drop 18 gC:=by kernel_rfl
theorem abF (y_1 s_1 yn1 yn0 un32 un1 un0 q1 rhat K):∀ r,W (sb y_1 s_1 yn1 yn0 un32 un1 un0 q1 rhat r) (rE Dg K)→xO y_1 s_1 yn1 yn0 un32 un1 un0 q1 rhat r (wK (bj 0 (aH (ar tP 135 (List.drop 18 gC) K) K)))
  | q1_1,h=>⟨(Q7 y_1 s_1 yn1 yn0 un32 un1 un0 q1_1),(.refl _),(YD h)⟩
theorem Yx {y_1 s_1 yn1 yn0 un32 un1 un0 q1 rhat K} (h:W (vK y_1 s_1 yn1 yn0 un32 un1 un0 q1 rhat) (rE Dg K)):ar tP 135 (List.drop 17 gC) K (ady y_1 s_1 yn1 yn0 un32 un1 un0 q1 rhat) :=
  ar.at_ XS (ar.cons_loop (aC.weak (aC.ent (.refl _) (aC.loopF (x:=ah (ah (aQ gC 17))) (f:=nN y_1 s_1 yn1 yn0 un32 un1 un0 q1 rhat) (emb:=BO y_1 s_1 yn1 yn0 un32 un1 un0 q1 rhat) (E:=xO y_1 s_1 yn1 yn0 un32 un1 un0 q1 rhat) (XY y_1 s_1 yn1 yn0 un32 un1 un0 q1 rhat) (Qv y_1 s_1 yn1 yn0 un32 un1 un0 q1 rhat) (bT h (abF y_1 s_1 yn1 yn0 un32 un1 un0 q1 rhat K))))))
def aeF (hi lo y:Int):St:=⟨[sv 0 (.c (.lit (.int .u64 hi))),sv 1 (.c (.lit (.int .u64 lo))),sv 2 (.c (.lit (.int .u64 y)))],[],0⟩
def kv (hi lo y:Int):PT _ (rE Dg) (dK tP 135 gC 17 iK):=.bf (y == 0) (.no) (.bf (decide (y≤hi)) (.no) (.bf (hi == 0) (.g1 (y≠0)<|.g1 (y≠0)<|.lf (some ((IntKind.u64.wrap (Int.tdiv lo y)),(Int.tmod lo y))) .ret _<|hh fun _=>lx [6,7] [] [sv 2 (.c (.lit (.int .u64 y)))]) (.bd (oa y) 0 fun r_2=>.g1 (0≤(IntKind.u64.wrap r_2))<|.tv (0≤(32:Int)) (by decide)<|.g1 (0≤(IntKind.u64.wrap r_2))<|.g1 (0≤(IntKind.u64.wrap (64 - (IntKind.u64.wrap r_2))))<|.g1 (0≤(IntKind.u64.wrap r_2))<|.tv (0≤(32:Int)) (by decide)<|.g1 ((Int.fdiv (IntKind.u64.wrap (y*2 ^ min (Int.toNat (IntKind.u64.wrap r_2)) 64)) (2 ^ min (Int.toNat (32:Int)) 64))≠0)<|.lf (vK (IntKind.u64.wrap (y*2 ^ min (Int.toNat (IntKind.u64.wrap r_2)) 64)) (IntKind.u64.wrap r_2) (Int.fdiv (IntKind.u64.wrap (y*2 ^ min (Int.toNat (IntKind.u64.wrap r_2)) 64)) (2 ^ min (Int.toNat (32:Int)) 64)) (IntKind.u64.wrap (BitVec.ofInt 64 (IntKind.u64.wrap (y*2 ^ min (Int.toNat (IntKind.u64.wrap r_2)) 64)) &&& BitVec.ofInt 64 (4294967295:Int)).toNat) (IntKind.u64.wrap (BitVec.ofInt 64 (IntKind.u64.wrap (hi*2 ^ min (Int.toNat (IntKind.u64.wrap r_2)) 64)) ||| BitVec.ofInt 64 (Int.fdiv lo (2 ^ min (Int.toNat (IntKind.u64.wrap (64 - (IntKind.u64.wrap r_2)))) 64))).toNat) (Int.fdiv (IntKind.u64.wrap (lo*2 ^ min (Int.toNat (IntKind.u64.wrap r_2)) 64)) (2 ^ min (Int.toNat (32:Int)) 64)) (IntKind.u64.wrap (BitVec.ofInt 64 (IntKind.u64.wrap (lo*2 ^ min (Int.toNat (IntKind.u64.wrap r_2)) 64)) &&& BitVec.ofInt 64 (4294967295:Int)).toNat) (IntKind.u64.wrap (Int.tdiv (IntKind.u64.wrap (BitVec.ofInt 64 (IntKind.u64.wrap (hi*2 ^ min (Int.toNat (IntKind.u64.wrap r_2)) 64)) ||| BitVec.ofInt 64 (Int.fdiv lo (2 ^ min (Int.toNat (IntKind.u64.wrap (64 - (IntKind.u64.wrap r_2)))) 64))).toNat) (Int.fdiv (IntKind.u64.wrap (y*2 ^ min (Int.toNat (IntKind.u64.wrap r_2)) 64)) (2 ^ min (Int.toNat (32:Int)) 64)))) (IntKind.u64.wrap ((IntKind.u64.wrap (BitVec.ofInt 64 (IntKind.u64.wrap (hi*2 ^ min (Int.toNat (IntKind.u64.wrap r_2)) 64)) ||| BitVec.ofInt 64 (Int.fdiv lo (2 ^ min (Int.toNat (IntKind.u64.wrap (64 - (IntKind.u64.wrap r_2)))) 64))).toNat) - (IntKind.u64.wrap ((IntKind.u64.wrap (Int.tdiv (IntKind.u64.wrap (BitVec.ofInt 64 (IntKind.u64.wrap (hi*2 ^ min (Int.toNat (IntKind.u64.wrap r_2)) 64)) ||| BitVec.ofInt 64 (Int.fdiv lo (2 ^ min (Int.toNat (IntKind.u64.wrap (64 - (IntKind.u64.wrap r_2)))) 64))).toNat) (Int.fdiv (IntKind.u64.wrap (y*2 ^ min (Int.toNat (IntKind.u64.wrap r_2)) 64)) (2 ^ min (Int.toNat (32:Int)) 64))))*(Int.fdiv (IntKind.u64.wrap (y*2 ^ min (Int.toNat (IntKind.u64.wrap r_2)) 64)) (2 ^ min (Int.toNat (32:Int)) 64))))))) .normal _<|hh fun _ h=>lz (Yx h) [2,8,9,10,11,13,14,15,16] [] [sv 6 (.c (.lit (.int .u64 0))),sv 7 (.c (.lit (.int .u64 0)))])))
theorem X4 {hi lo y}:Ax tP 135 gC 0 iK (kv hi lo y) (aeF hi lo y):=.tD mixed [aoF] [2,6,7,8,9,10,11,13,14,15,16,70,71,72,73,74,75,76,77,105,106,107,108,109,110,111,112] 17
def nI (hi lo y:Int):Option ((Int × Int)):=(kv hi lo y).opt
def w7:bU:=yL (aI .u64) (aI .u64) (aI .u64) nI ((0:Int),(0:Int)) Fy
theorem F2:bc tP 107 w7:=sK Tryz.f107 (an Tryz.f107) [.tmp 6, .tmp 7] 135 fun u0 u1 u2 y h=>@X4 u0 u1 u2 _ (bn.2 ⟨y,h,(cz (.tup [(.c (.lit (.int .u64 y.1))),(.c (.lit (.int .u64 y.2)))]) (VLe.tup (VLes.cons (VLe.rfl' _) (VLes.cons (VLe.rfl' _) (VLes.nil)))))⟩)
abbrev anZ:FE tP:=⟨107, .pure w7,F2⟩
noncomputable def anj:List Code:=aA (an Tryz.f81)
def Gz (x_1:(cm × Int)):bK:=.data (.tup [(.agg [(.c (.lit (.int .u64 x_1.1.hi))),(.c (.lit (.int .u64 x_1.1.lo)))]),(.c (.lit (.int .u64 x_1.2)))])
def aot (x_1:(cm × Int)):St:=⟨[sv 4 (.ptr 0 2 0 0),sv 5 (.c (.lit (.int .u64 x_1.2)))],[(0,some (.box [(.c (.lit (.int .u64 x_1.1.hi))),(.c (.lit (.int .u64 x_1.1.lo)))]))],1⟩
def alY (w:cm) (d_1:Int):St:=⟨[sv 0 (.ag (kD w)),sv 1 (.c (.lit (.int .u64 d_1)))],[],0⟩
def ld (w:cm) (d_1:Int):PT _ (rE aot) iK:=.g1 (d_1≠0)<|.bd (nI (Int.tmod w.hi d_1) w.lo d_1) (0,0) fun r_2=>.g1 (d_1≠0)<|.lf (some ((cm.mk (IntKind.u64.wrap (Int.tdiv w.hi d_1)) r_2.1),r_2.2)) .ret _<|hh fun _=>l0
theorem aeB {w d_1}:Ax tP 26 anj 0 iK (ld w d_1) (alY w d_1):=.tE mixed [anZ] [4,5] 4
def pe (w:cm) (d_1:Int):Option ((cm × Int)):=(ld w d_1).opt
def yI:bU:=fH wg (aI .u64) pe (kC,(0:Int)) Gz
theorem HN:bc tP 81 yI:=dA Tryz.f81 (an Tryz.f81) [.cell 4 127, .tmp 5] 26 fun u0 u1 y h=>@aeB u0 u1 _ (bn.2 ⟨y,h,(cz (.tup [(.agg [(.c (.lit (.int .u64 y.1.hi))),(.c (.lit (.int .u64 y.1.lo)))]),(.c (.lit (.int .u64 y.2)))]) (VLe.tup (VLes.cons (VLe.rfl' _) (VLes.cons (VLe.rfl' _) (VLes.nil)))))⟩)
abbrev e81:FE tP:=⟨81, .pure yI,HN⟩
noncomputable def vf:List Code:=aA (an Tryz.f82)
noncomputable def Y6:List Code:=aA (ah (ah (aQ vf 1)))
def P4 (x_1:Int):bK:=.data (.c (.lit (.int .u64 x_1)))
def S4 (x_1:Int):St:=⟨[sv 4 (.c (.lit (.int .u64 x_1)))],[],0⟩
def BX (a b:Int) (s:(Int × Int)):St:=match s with | (a_1,b_1)=>⟨[sv 0 (.c (.lit (.int .u64 a_1))),sv 1 (.c (.lit (.int .u64 b_1)))],[],0⟩
def abe (a b:Int) (s:Int):St:=match s with | a_2=>⟨[sv 0 (.c (.lit (.int .u64 a_2)))],[],0⟩
def B4 (a b:Int) (r:((Int))) (K:KT):Prop:=match r with | s=>K (.exit 0) (abe a b s)
def aig (a_1 b_1:Int):St:=BX (0:Int) (0:Int) (a_1,b_1)
def Ip (a_1 b_1:Int):PT _ (nE (BX (0:Int) (0:Int)) (B4 (0:Int) (0:Int))) iK:=.bf (b_1 != 0) (.g1 (b_1≠0)<|.lf (some (Sum.inl (b_1,(Int.tmod a_1 b_1)))) .normal _<|hh fun _=>l0) (.lf (some (Sum.inr a_1)) (.exit 0) (BX (0:Int) (0:Int) (a_1,b_1))<|hh fun _=>lg (.cn [0]))
theorem ae5 {a_1 b_1}:Ax tP 12 Y6 0 iK (Ip a_1 b_1) (aig a_1 b_1):=.tE mixed [] [0,1] 3
def pV (a b:Int) (s:(Int × Int)):Option ((Int × Int) ⊕ ((Int))):=match s with | (a_1,b_1)=>(Ip a_1 b_1).opt
theorem acE (a b s):Pp tP 12 (List.drop 0 Y6) (BX a b s) (pV a b s) (cl (BX a b) (B4 a b)):=fun K h=>match s,h with | (a_1,b_1),h=>(ae5 h)
theorem R0 (a b):∀ r J K,B4 a b r K→B4 a b r (aH J K)
  | s,_,_,h=>h
def Vp (a_3:Int):St:=⟨[sv 0 (.c (.lit (.int .u64 a_3)))],[],0⟩
def Id (a_3:Int):PT _ (rE S4) iK:=.lf (some a_3) .ret _<|hh fun _=>l0
theorem afr {a_3}:Ax tP 12 vf 2 iK (Id a_3) (Vp a_3):=.tE mixed [] [4] 2
def UV (a b:Int):St:=⟨[sv 0 (.c (.lit (.int .u64 a))),sv 1 (.c (.lit (.int .u64 b)))],[],0⟩
abbrev wz (a b:Int) (r:((Int))):Option (Int):=match r with | a_2=>((Id a_2).opt)
def HQ (a b:Int):Option (Int):=(fixL (pV a b) (a,b)).bind (wz a b)
theorem aaX:List.drop 1 vf = .block 0 (.loop (ah (ah (aQ vf 1)))) :: List.drop 2 vf:=by kernel_rfl
theorem agP (a b K):∀ r,W (wz a b r) (rE S4 K)→B4 a b r (wK (bj 0 (aH (ar tP 12 (List.drop 2 vf) K) K)))
  | a_2,h=>⟨(Vp a_2),(.refl _),(afr h)⟩
theorem adm {a b K} (h:W (HQ a b) (rE S4 K)):ar tP 12 (List.drop 1 vf) K (UV a b) :=
  ar.at_ aaX (ar.cons_loop (aC.weak (aC.ent (.refl _) (aC.loopF (x:=ah (ah (aQ vf 1))) (f:=pV a b) (emb:=BX a b) (E:=B4 a b) (acE a b) (R0 a b) (bT h (agP a b K))))))
def aiK (a b:Int):St:=UV a b
def Iw (a b:Int):PT _ (rE S4) (dK tP 12 vf 1 iK):=.lf (HQ a b) .normal _<|hh fun _ h=>l0 (adm h)
theorem ac4 {a b}:Ax tP 12 vf 0 iK (Iw a b) (aiK a b):=.tD mixed [] [0,1] 1
def tV (a b:Int):Option (Int):=(Iw a b).opt
def JM:bU:=fH (aI .u64) (aI .u64) tV (0:Int) P4
theorem QQ:bc tP 82 JM:=dA Tryz.f82 (an Tryz.f82) [.tmp 4] 12 fun u0 u1 y h=>@ac4 u0 u1 _ (bn.2 ⟨y,h,(cz (.c (.lit (.int .u64 y))) (VLe.rfl' _))⟩)
abbrev e82:FE tP:=⟨82, .pure JM,QQ⟩
noncomputable def amp:List Code:=aA (an Tryz.f62)
def Kt (x_1:(aF × Int)):bK:=.data (.tup [(.agg [(i64 x_1.1.Num),(i64 x_1.1.Den)]),(i64 x_1.2)])
def aoG (x_1:(aF × Int)):St:=⟨[sv 6 (.ptr 0 2 0 0),sv 7 (i64 x_1.2)],[(0,some (.box [(i64 x_1.1.Num),(i64 x_1.1.Den)]))],1⟩
def alr (negative:Bool) (n:cm) (d_1:Int):St:=⟨[sv 0 (bl negative),sv 1 (.ag (kD n)),sv 2 (.c (.lit (.int .u64 d_1)))],[],0⟩
def oS (negative:Bool) (n:cm) (d_1:Int):PT _ (rE aoG) iK:=.bd (pe n d_1) (kC,0) fun r_4=>.bd (tV d_1 r_4.2) 0 fun r_5=>.bd (pe n r_5) (kC,0) fun r_6=>.g1 (r_5≠0)<|.bf (bif (bif (r_6.1.hi != 0) then true else (decide (1000000000000000 < r_6.1.lo))) then true else (decide (1000000000 < (IntKind.u64.wrap (Int.tdiv d_1 r_5))))) (.lf (some ((aF.mk 0 0),2)) .ret _<|hh fun _=>l0) (.bf negative (.lf (some ((aF.mk (ai (0 - (ai r_6.1.lo))) (ai (IntKind.u64.wrap (Int.tdiv d_1 r_5)))),0)) .ret _<|hh fun _=>l0) (.lf (some ((aF.mk (ai r_6.1.lo) (ai (IntKind.u64.wrap (Int.tdiv d_1 r_5)))),0)) .ret _<|hh fun _=>l0))
theorem acf {negative n d_1}:Ax tP 55 amp 0 iK (oS negative n d_1) (alr negative n d_1):=.tE mixed [e81,e82] [6,7] 12
def AV (negative:Bool) (n:cm) (d_1:Int):Option ((aF × Int)):=(oS negative n d_1).opt
def ED:bU:=yL aB wg (aI .u64) AV (gp,(0:Int)) Kt
theorem L4:bc tP 62 ED:=sK Tryz.f62 (an Tryz.f62) [.cell 6 89, .tmp 7] 55 fun u0 u1 u2 y h=>@acf u0 u1 u2 _ (bn.2 ⟨y,h,(cz (.tup [(.agg [(i64 y.1.Num),(i64 y.1.Den)]),(i64 y.2)]) (VLe.tup (VLes.cons (VLe.rfl' _) (VLes.cons (VLe.rfl' _) (VLes.nil)))))⟩)
abbrev e62:FE tP:=⟨62, .pure ED,L4⟩
noncomputable def amO:List Code:=aA (an Tryz.f38)
def Cj (x_1:(aF × Int)):bK:=.data (.tup [(.agg [(i64 x_1.1.Num),(i64 x_1.1.Den)]),(i64 x_1.2)])
def anK (x_1:(aF × Int)):St:=⟨[sv 4 (.ptr 0 2 0 0),sv 5 (i64 x_1.2)],[(0,some (.box [(i64 x_1.1.Num),(i64 x_1.1.Den)]))],1⟩
def ajw (num den:Int):St:=⟨[sv 0 (i64 num),sv 1 (i64 den)],[],0⟩
def jg (num den:Int):PT _ (rE anK) iK:=.bf (den == 0) (.lf (some ((aF.mk 0 0),3)) .ret _<|hh fun _=>l0) (.bd (lW num) 0 fun r_4=>.bd (lW den) 0 fun r_5=>.bd (AV (!((decide (num < 0)) == (decide (den < 0)))) (cm.mk 0 r_4) r_5) (gp,0) fun r_6=>.lf (some (r_6.1,r_6.2)) .ret _<|hh fun _=>l0)
theorem abP {num den}:Ax tP 22 amO 0 iK (jg num den) (ajw num den):=.tE mixed [e62,e63] [4,5] 5
def fm (num den:Int):Option ((aF × Int)):=(jg num den).opt
def tf:bU:=fH (aI .i64) (aI .i64) fm (gp,(0:Int)) Cj
theorem Dv:bc tP 38 tf:=dA Tryz.f38 (an Tryz.f38) [.cell 4 89, .tmp 5] 22 fun u0 u1 y h=>@abP u0 u1 _ (bn.2 ⟨y,h,(cz (.tup [(.agg [(i64 y.1.Num),(i64 y.1.Den)]),(i64 y.2)]) (VLe.tup (VLes.cons (VLe.rfl' _) (VLes.cons (VLe.rfl' _) (VLes.nil)))))⟩)
abbrev e38:FE tP:=⟨38, .pure tf,Dv⟩
noncomputable def amm:List Code:=aA (an Tryz.f39)
def Ji (x_1:ByteArray):bK:=.data (aX x_1)
def ag6 (x_1:ByteArray):St:=⟨[sv 2 (aX x_1)],[],0⟩
def ajy (i_1:Int):St:=⟨[sv 0 (i64 i_1)],[],0⟩
def sx (i_1:Int):Option (ByteArray):=(some (oy ([(IntKind.u8.wrap (ai (112+(Int.tmod i_1 8)))),95,(IntKind.u8.wrap (ai (48+(ai (Int.tdiv i_1 8)))))]:List Int)))
theorem abK {i_1 K} (h:W (sx i_1) (rE ag6 K)):ar tP 13 (List.drop 0 amm) K (ajy i_1) :=
  let b1_:=IntKind.u8.wrap (ai (48+(ai (Int.tdiv i_1 8)))); let b2_:=IntKind.u8.wrap (ai (112+(Int.tmod i_1 8))); ar.qE mixed [] [2] 0 3 (.nx1 (a1:=lst nH 3 (fun i=>(fun i=>(List.take 1 (List.drop (i*1) [(.lit (.int .u8 (IntKind.u8.wrap (ai (112+(Int.tmod i_1 8)))))),(.lit (.int .u8 95)),(.lit (.int .u8 (IntKind.u8.wrap (ai (48+(ai (Int.tdiv i_1 8)))))))]))) (0+i))) (lr mZ (ac.zero (ac.lits (el:=(fun i=>(List.take 1 (List.drop (i*1) [(.lit (.int .u8 (IntKind.u8.wrap (ai (112+(Int.tmod i_1 8)))))),(.lit (.int .u8 95)),(.lit (.int .u8 (IntKind.u8.wrap (ai (48+(ai (Int.tdiv i_1 8)))))))])))) (z:=(0:Int)) (l:=([(IntKind.u8.wrap (ai (112+(Int.tmod i_1 8)))),95,(IntKind.u8.wrap (ai (48+(ai (Int.tdiv i_1 8)))))]:List Int)) ⟨.refl _, .refl _, .refl _,trivial⟩))) (fun L1_ K=>let a1_:=IntKind.u8.wrap (ai (48+(ai (Int.tdiv i_1 8)))); let a2_:=IntKind.u8.wrap (ai (112+(Int.tmod i_1 8))); ((8:Int)≠0)∧((8:Int)≠0)∧((0 < 3→1 = 1))∧((∀ i,i < 3→(fun i=>(fun i=>(List.take 1 (List.drop (i*1) [(.lit (.int .u8 a2_)),(.lit (.int .u8 95)),(.lit (.int .u8 a1_))]))) (0+i)) i = lS (nH ((fun i=>(fun i=>(List.take 1 (List.drop (i*1) [(.lit (.int .u8 a2_)),(.lit (.int .u8 95)),(.lit (.int .u8 a1_))]))) (0+i)) i))))∧(wK K .ret (ag6 (oy L1_)))) (⟨(by decide),⟨(by decide),⟨(ac.ok (k:=1) mZ (ac.zero (ac.lits (el:=(fun i=>(List.take 1 (List.drop (i*1) [(.lit (.int .u8 b2_)),(.lit (.int .u8 95)),(.lit (.int .u8 b1_))])))) (z:=(0:Int)) (l:=([b2_,95,b1_]:List Int)) ⟨.refl _, .refl _, .refl _,trivial⟩))).1,⟨(aJ.eq (ac.ok (k:=1) mZ (ac.zero (ac.lits (el:=(fun i=>(List.take 1 (List.drop (i*1) [(.lit (.int .u8 b2_)),(.lit (.int .u8 95)),(.lit (.int .u8 b1_))])))) (z:=(0:Int)) (l:=([b2_,95,b1_]:List Int)) ⟨.refl _, .refl _, .refl _,trivial⟩))) fun _=>rfl),(l0 h)⟩⟩⟩⟩))
def oG (i_1:Int):Option (ByteArray):=sx i_1
def A6:bU:=dI (aI .i64) oG (ak []) Ji
theorem Jt:bc tP 39 A6:=cD Tryz.f39 (an Tryz.f39) [.tmp 2] 13 fun u0 y h=>@abK u0 _ (bn.2 ⟨y,h,(cz (aX y) (VLe.rfl' _))⟩)
abbrev e39:FE tP:=⟨39, .pure A6,Jt⟩
def nW:List V→List Ob→Option ((aa × Int) × List Prop)
  | [(.ptr p1 k2 i3 j4),(.c (.lit (.int .i64 a5)))],[.box [(.c (.sl k6 n7 e8)),(.c (.lit (.int .i64 a9))),(.c (.lit (.int .i64 a10)))]]=>bif Nat.beq p1 0&&Nat.beq k2 3&&Nat.beq i3 0&&Nat.beq j4 0 then some (((aa.mk (lst bh n7 e8) a9 a10),a5),[aJ aP bh 1 k6 n7 e8]) else none
  | _,_=>none
def lZ (x_1:(Int × aa)):V:=(i64 x_1.1)
def mm (os:List Ob) (x_1:(Int × aa)):List Ob:=[(.box [(fG x_1.2.l),(i64 x_1.2.at_),(i64 x_1.2.left)])]
noncomputable def SW:List Code:=aA (an Tryz.f83)
def YS (x_1:(Int × aa)):St:=⟨[sv 4 (i64 x_1.1),sv 1000000 (.ptr 0 3 0 0)],[(0,some (.box [(fG x_1.2.l),(i64 x_1.2.at_),(i64 x_1.2.left)]))],1⟩
theorem alA (x_1:(Int × aa)) {ps:List Prop} {c0:List V} (h0:c0.length = 3):eo tP [.tmp 4] (fun σ v=>∃ qs,ql true [.box c0] ⟨ps,lZ x_1,mm [.box c0] x_1,[false]⟩ qs σ v) .ret (YS x_1) :=
  eo.intro (v:=(i64 x_1.1)) (by kernel_rfl) ⟨[0],rfl,rfl,VLe.rfl' _,(.inl rfl),⟨⟨_,rfl,show VLes _ _ from VLes.rfl' _,rfl,rfl,(.inl rfl), .inr ⟨trivial,by rw [dg,h0]; rfl⟩⟩,trivial⟩⟩
def aic (k n:Int) (s_1:aa):St:=⟨[sv 0 (.ptr 0 3 0 0),sv 1 (i64 k),sv 5 (i64 n),sv 1000000 (.ptr 0 3 0 0)],[(0,some (.bx (aj s_1)))],1⟩
def hU (k n:Int) (s_1:aa):PT _ (rE YS) iK:=.bd (fu n k) 0 fun r_2=>.lf (some (r_2,(aa.mk s_1.l (ai (s_1.at_+1)) s_1.left))) .ret _<|hh fun _=>l0
theorem Rd {k n s_1}:Ax tP 36 SW 4 iK (hU k n s_1) (aic k n s_1):=.tE mixed [ez] [4,1000000] 3
def akr (k:Int) (s_1:aa):St:=⟨[sv 0 (.ptr 0 3 0 0),sv 1 (i64 k),sv 1000000 (.ptr 0 3 0 0)],[(0,some (.bx (aj s_1)))],1⟩
def nc (k:Int) (s_1:aa):PT _ (rE YS) (dK tP 36 SW 4 iK):=.bf (decide (s_1.at_ < (s_1.l.length:Int))) (.g2 (0≤s_1.at_) (s_1.at_ < (s_1.l.length:Int))<|.lf ((hU k (s_1.l.getD (Int.toNat s_1.at_) (0:Int)) s_1).opt) .normal _<|hh fun _ h=>l0 (Rd h)) (.lf ((hU k 0 s_1).opt) .normal _<|hh fun _ h=>l0 (Rd h))
theorem aeY {k s_1}:Ax tP 36 SW 0 iK (nc k s_1) (akr k s_1):=.tD mixed [] [0,1,5,1000000] 4
def bi (s_1:aa) (k:Int):Option ((Int × aa)):=(nc k s_1).opt
theorem Fk:bR tP 83 (.mut (lF true [true,false] (lN nW lZ mm [false] ((0:Int),af) (fun a=>bi a.1 a.2)))):=by
  refine mo (fn:=Tryz.f83) (c:=an Tryz.f83) (by kernel_rfl) (by kernel_rfl) (by kernel_rfl) (rs:=[.tmp 4]) (by kernel_rfl) (nt:=36) (by kernel_rfl) fun vs os a ps h hp y hy qs=>?_
  unfold nW at h
  split at h
  · next p1 k2 i3 j4 a5 k6 n7 e8 a9 a10 =>
    cases hb:(Nat.beq p1 0&&Nat.beq k2 3&&Nat.beq i3 0&&Nat.beq j4 0) with
    | false=>rw [hb] at h; cases h
    | true =>
      rw [hb] at h
      simp only [Bool.and_eq_true,Nat.beq_eq] at hb
      obtain ⟨⟨⟨rfl,rfl⟩,rfl⟩,rfl⟩:=hb
      cases h
      obtain ⟨g0,hp⟩:=ce hp
      exact ⟨[.ptr 0 3 0 0,(i64 a5)],(VLes.cons (VLe.rfl' _) (VLes.cons (VLe.rfl' _) VLes.nil)),rfl,ar.ent (dv.of (bM.cons rfl (VLe.rfl' _) (bM.cons rfl (VLe.rfl' _) (bM.cons rfl (VLe.rfl' _) bM.nil))) (cC.box rfl (VLes.cons (VLe.slk g0.1 (ac.of_ok g0)) (VLes.cons (VLe.rfl' _) (VLes.cons (VLe.rfl' _) VLes.nil))) cC.nil) rfl) (@aeY a5 (aa.mk (lst bh n7 e8) a9 a10) _ (bn.2 ⟨y,hy,alA y rfl⟩))⟩
  · cases h
def we:=(lF true [true,false] (lN nW lZ mm [false] ((0:Int),af) (fun a=>bi a.1 a.2)))
theorem Da:bR tP 83 (.mut we):=Fk
abbrev RC:FE tP:=⟨83, .mut we,Da⟩
noncomputable def ait:List Code:=aA (an Tryz.f111)
def Lc (x_1:(List ByteArray)):bK:=.own true 9 1 (x_1).length (aV Dd (ak []) x_1)
def ann (x_1:(List ByteArray)):St:=⟨[sv 0 (.row 0 1 0 x_1.length)],[(wH 0 9 x_1)],1⟩
def ad4:St:=⟨[],[],0⟩
def El:PT _ (rE ann) iK:=.lf (some ([(ak [97,103,101]),(ak [121,101,97,114]),(ak [99,104,105,108,100,114,101,110]),(ak [105,110,115,117,114,101,100]),(ak [119,111,114,107,101,100]),(ak [118,111,108,117,110,116,97,114,121]),(ak [115,101,114,118,105,99,101]),(ak [101,113,117,97,116,101,100]),(ak [114,97,105,115,105,110,103]),(ak [114,101,115,105,100,101,110,116]),(ak [98,97,115,101])]:List ByteArray)) .ret _<|hh fun _=>l0
theorem Yq:Ax tP 2 ait 0 iK El ad4:=.tE mixed [] [0] 3
def xC:Option ((List ByteArray)):=El.opt
def G4:bU:=Qk xC ([]:List ByteArray) Lc
theorem NM:bc tP 111 G4:=Po Tryz.f111 (an Tryz.f111) [.tmp 0] 2 fun y h=>@Yq _ (bn.2 ⟨y,h,(cz (.row 0 1 0 y.length) (⟨_,_,_,rfl,rfl,rfl,fun _ _=>rfl,fun _ i hi d hd=>Ph _ d hd⟩))⟩)
abbrev anL:FE tP:=⟨111, .pure G4,NM⟩
noncomputable def PD:List Code:=aA (an Tryz.f112)
def L9 (x_1:(Int × Bool)):bK:=.data (.tup [(i64 x_1.1),(bl x_1.2)])
def Zf (x_1:(Int × Bool)):St:=⟨[sv 2 (i64 x_1.1),sv 3 (bl x_1.2)],[],0⟩
def aci:St:=⟨[],[],0⟩
def cc:PT _ (rE Zf) iK:=.lf (some (0,false)) .ret _<|hh fun _=>l0
theorem dL:Ax tP 19 PD 3 iK cc aci:=.tE mixed [] [2,3] 2
def aes (name:ByteArray):St:=⟨[sv 0 (aX name)],[],0⟩
def wy (name:ByteArray):PT _ (rE Zf) (dK tP 19 PD 3 iK):=.bf (name.toList == (ak [97,103,101]).toList) (.bf (name.toList == (ak [97,103,101]).toList) (.lf (some (2,true)) .ret _<|hh fun _=>l0) (.bf (name.toList == (ak [105,110,115,117,114,101,100]).toList) (.bf (name.toList == (ak [105,110,115,117,114,101,100]).toList) (.lf (some (3,true)) .ret _<|hh fun _=>l0) (.bf (name.toList == (ak [98,97,115,101]).toList) (.lf (some (4,true)) .ret _<|hh fun _=>l0) (.lf cc.opt .normal _<|hh fun _ h=>lz (dL h) [] [] [sv 2 (i64 0),sv 3 (bl false)]))) (.bf (name.toList == (ak [119,111,114,107,101,100]).toList) (.bf (name.toList == (ak [119,111,114,107,101,100]).toList) (.lf (some (3,true)) .ret _<|hh fun _=>l0) (.bf (name.toList == (ak [98,97,115,101]).toList) (.lf (some (4,true)) .ret _<|hh fun _=>l0) (.lf cc.opt .normal _<|hh fun _ h=>lz (dL h) [] [] [sv 2 (i64 0),sv 3 (bl false)]))) (.bf (name.toList == (ak [118,111,108,117,110,116,97,114,121]).toList) (.bf (name.toList == (ak [118,111,108,117,110,116,97,114,121]).toList) (.lf (some (3,true)) .ret _<|hh fun _=>l0) (.bf (name.toList == (ak [98,97,115,101]).toList) (.lf (some (4,true)) .ret _<|hh fun _=>l0) (.lf cc.opt .normal _<|hh fun _ h=>lz (dL h) [] [] [sv 2 (i64 0),sv 3 (bl false)]))) (.bf (name.toList == (ak [115,101,114,118,105,99,101]).toList) (.bf (name.toList == (ak [115,101,114,118,105,99,101]).toList) (.lf (some (3,true)) .ret _<|hh fun _=>l0) (.bf (name.toList == (ak [98,97,115,101]).toList) (.lf (some (4,true)) .ret _<|hh fun _=>l0) (.lf cc.opt .normal _<|hh fun _ h=>lz (dL h) [] [] [sv 2 (i64 0),sv 3 (bl false)]))) (.bf (name.toList == (ak [101,113,117,97,116,101,100]).toList) (.bf (name.toList == (ak [101,113,117,97,116,101,100]).toList) (.lf (some (3,true)) .ret _<|hh fun _=>l0) (.bf (name.toList == (ak [98,97,115,101]).toList) (.lf (some (4,true)) .ret _<|hh fun _=>l0) (.lf cc.opt .normal _<|hh fun _ h=>lz (dL h) [] [] [sv 2 (i64 0),sv 3 (bl false)]))) (.bf (name.toList == (ak [114,97,105,115,105,110,103]).toList) (.bf (name.toList == (ak [114,97,105,115,105,110,103]).toList) (.lf (some (3,true)) .ret _<|hh fun _=>l0) (.bf (name.toList == (ak [98,97,115,101]).toList) (.lf (some (4,true)) .ret _<|hh fun _=>l0) (.lf cc.opt .normal _<|hh fun _ h=>lz (dL h) [] [] [sv 2 (i64 0),sv 3 (bl false)]))) (.bf (name.toList == (ak [114,101,115,105,100,101,110,116]).toList) (.lf (some (3,true)) .ret _<|hh fun _=>l0) (.bf (name.toList == (ak [98,97,115,101]).toList) (.lf (some (4,true)) .ret _<|hh fun _=>l0) (.lf cc.opt .normal _<|hh fun _ h=>lz (dL h) [] [] [sv 2 (i64 0),sv 3 (bl false)])))))))))) (.bf (name.toList == (ak [121,101,97,114]).toList) (.bf (name.toList == (ak [121,101,97,114]).toList) (.lf (some (2,true)) .ret _<|hh fun _=>l0) (.bf (name.toList == (ak [105,110,115,117,114,101,100]).toList) (.bf (name.toList == (ak [105,110,115,117,114,101,100]).toList) (.lf (some (3,true)) .ret _<|hh fun _=>l0) (.bf (name.toList == (ak [98,97,115,101]).toList) (.lf (some (4,true)) .ret _<|hh fun _=>l0) (.lf cc.opt .normal _<|hh fun _ h=>lz (dL h) [] [] [sv 2 (i64 0),sv 3 (bl false)]))) (.bf (name.toList == (ak [119,111,114,107,101,100]).toList) (.bf (name.toList == (ak [119,111,114,107,101,100]).toList) (.lf (some (3,true)) .ret _<|hh fun _=>l0) (.bf (name.toList == (ak [98,97,115,101]).toList) (.lf (some (4,true)) .ret _<|hh fun _=>l0) (.lf cc.opt .normal _<|hh fun _ h=>lz (dL h) [] [] [sv 2 (i64 0),sv 3 (bl false)]))) (.bf (name.toList == (ak [118,111,108,117,110,116,97,114,121]).toList) (.bf (name.toList == (ak [118,111,108,117,110,116,97,114,121]).toList) (.lf (some (3,true)) .ret _<|hh fun _=>l0) (.bf (name.toList == (ak [98,97,115,101]).toList) (.lf (some (4,true)) .ret _<|hh fun _=>l0) (.lf cc.opt .normal _<|hh fun _ h=>lz (dL h) [] [] [sv 2 (i64 0),sv 3 (bl false)]))) (.bf (name.toList == (ak [115,101,114,118,105,99,101]).toList) (.bf (name.toList == (ak [115,101,114,118,105,99,101]).toList) (.lf (some (3,true)) .ret _<|hh fun _=>l0) (.bf (name.toList == (ak [98,97,115,101]).toList) (.lf (some (4,true)) .ret _<|hh fun _=>l0) (.lf cc.opt .normal _<|hh fun _ h=>lz (dL h) [] [] [sv 2 (i64 0),sv 3 (bl false)]))) (.bf (name.toList == (ak [101,113,117,97,116,101,100]).toList) (.bf (name.toList == (ak [101,113,117,97,116,101,100]).toList) (.lf (some (3,true)) .ret _<|hh fun _=>l0) (.bf (name.toList == (ak [98,97,115,101]).toList) (.lf (some (4,true)) .ret _<|hh fun _=>l0) (.lf cc.opt .normal _<|hh fun _ h=>lz (dL h) [] [] [sv 2 (i64 0),sv 3 (bl false)]))) (.bf (name.toList == (ak [114,97,105,115,105,110,103]).toList) (.bf (name.toList == (ak [114,97,105,115,105,110,103]).toList) (.lf (some (3,true)) .ret _<|hh fun _=>l0) (.bf (name.toList == (ak [98,97,115,101]).toList) (.lf (some (4,true)) .ret _<|hh fun _=>l0) (.lf cc.opt .normal _<|hh fun _ h=>lz (dL h) [] [] [sv 2 (i64 0),sv 3 (bl false)]))) (.bf (name.toList == (ak [114,101,115,105,100,101,110,116]).toList) (.lf (some (3,true)) .ret _<|hh fun _=>l0) (.bf (name.toList == (ak [98,97,115,101]).toList) (.lf (some (4,true)) .ret _<|hh fun _=>l0) (.lf cc.opt .normal _<|hh fun _ h=>lz (dL h) [] [] [sv 2 (i64 0),sv 3 (bl false)])))))))))) (.bf (name.toList == (ak [99,104,105,108,100,114,101,110]).toList) (.lf (some (2,true)) .ret _<|hh fun _=>l0) (.bf (name.toList == (ak [105,110,115,117,114,101,100]).toList) (.bf (name.toList == (ak [105,110,115,117,114,101,100]).toList) (.lf (some (3,true)) .ret _<|hh fun _=>l0) (.bf (name.toList == (ak [98,97,115,101]).toList) (.lf (some (4,true)) .ret _<|hh fun _=>l0) (.lf cc.opt .normal _<|hh fun _ h=>lz (dL h) [] [] [sv 2 (i64 0),sv 3 (bl false)]))) (.bf (name.toList == (ak [119,111,114,107,101,100]).toList) (.bf (name.toList == (ak [119,111,114,107,101,100]).toList) (.lf (some (3,true)) .ret _<|hh fun _=>l0) (.bf (name.toList == (ak [98,97,115,101]).toList) (.lf (some (4,true)) .ret _<|hh fun _=>l0) (.lf cc.opt .normal _<|hh fun _ h=>lz (dL h) [] [] [sv 2 (i64 0),sv 3 (bl false)]))) (.bf (name.toList == (ak [118,111,108,117,110,116,97,114,121]).toList) (.bf (name.toList == (ak [118,111,108,117,110,116,97,114,121]).toList) (.lf (some (3,true)) .ret _<|hh fun _=>l0) (.bf (name.toList == (ak [98,97,115,101]).toList) (.lf (some (4,true)) .ret _<|hh fun _=>l0) (.lf cc.opt .normal _<|hh fun _ h=>lz (dL h) [] [] [sv 2 (i64 0),sv 3 (bl false)]))) (.bf (name.toList == (ak [115,101,114,118,105,99,101]).toList) (.bf (name.toList == (ak [115,101,114,118,105,99,101]).toList) (.lf (some (3,true)) .ret _<|hh fun _=>l0) (.bf (name.toList == (ak [98,97,115,101]).toList) (.lf (some (4,true)) .ret _<|hh fun _=>l0) (.lf cc.opt .normal _<|hh fun _ h=>lz (dL h) [] [] [sv 2 (i64 0),sv 3 (bl false)]))) (.bf (name.toList == (ak [101,113,117,97,116,101,100]).toList) (.bf (name.toList == (ak [101,113,117,97,116,101,100]).toList) (.lf (some (3,true)) .ret _<|hh fun _=>l0) (.bf (name.toList == (ak [98,97,115,101]).toList) (.lf (some (4,true)) .ret _<|hh fun _=>l0) (.lf cc.opt .normal _<|hh fun _ h=>lz (dL h) [] [] [sv 2 (i64 0),sv 3 (bl false)]))) (.bf (name.toList == (ak [114,97,105,115,105,110,103]).toList) (.bf (name.toList == (ak [114,97,105,115,105,110,103]).toList) (.lf (some (3,true)) .ret _<|hh fun _=>l0) (.bf (name.toList == (ak [98,97,115,101]).toList) (.lf (some (4,true)) .ret _<|hh fun _=>l0) (.lf cc.opt .normal _<|hh fun _ h=>lz (dL h) [] [] [sv 2 (i64 0),sv 3 (bl false)]))) (.bf (name.toList == (ak [114,101,115,105,100,101,110,116]).toList) (.lf (some (3,true)) .ret _<|hh fun _=>l0) (.bf (name.toList == (ak [98,97,115,101]).toList) (.lf (some (4,true)) .ret _<|hh fun _=>l0) (.lf cc.opt .normal _<|hh fun _ h=>lz (dL h) [] [] [sv 2 (i64 0),sv 3 (bl false)])))))))))))
theorem Yj {name}:Ax tP 19 PD 0 iK (wy name) (aes name):=.tD mixed [] [2,3] 3
def xq (name:ByteArray):Option ((Int × Bool)):=(wy name).opt
def Gq:bU:=dI aS xq ((0:Int),false) L9
theorem Nb:bc tP 112 Gq:=cD Tryz.f112 (an Tryz.f112) [.tmp 2, .tmp 3] 19 fun u0 y h=>@Yj u0 _ (bn.2 ⟨y,h,(cz (.tup [(i64 y.1),(bl y.2)]) (VLe.tup (VLes.cons (VLe.rfl' _) (VLes.cons (VLe.rfl' _) (VLes.nil)))))⟩)
abbrev anI:FE tP:=⟨112, .pure Gq,Nb⟩
noncomputable def uT:List Code:=aA (an Tryz.f88)
noncomputable def ZB:List Code:=aA (ah (ah (aQ uT 4)))
def J5 (x_1:(List ByteArray)):bK:=.own true 9 1 (x_1).length (aV Dd (ak []) x_1)
def Tb (x_1:(List ByteArray)):St:=⟨[sv 2 (.row 0 1 0 x_1.length)],[(wH 0 9 x_1)],1⟩
def B7 (dim:Int) (l:(List ByteArray)) (s:((List ByteArray) × Int)):St:=match s with | (out_1,i_1)=>⟨[sv 0 (i64 dim),sv 3 (.row 0 1 0 l.length),sv 4 (.row 1 1 0 out_1.length),sv 5 (i64 i_1)],[(wH 0 9 l),(wH 1 9 out_1)],2⟩
def aaJ (dim:Int) (l:(List ByteArray)) (s:(List ByteArray)):St:=match s with | out_2=>⟨[sv 4 (.row 0 1 0 out_2.length)],[(wH 0 9 out_2)],1⟩
def BA (dim:Int) (l:(List ByteArray)) (r:(((List ByteArray)))) (K:KT):Prop:=match r with | s=>K (.exit 0) (aaJ dim l s)
def ahQ (dim:Int) (l out_1:(List ByteArray)) (i_1:Int):St:=B7 dim l (out_1,i_1)
def oI (dim:Int) (l out_1:(List ByteArray)) (i_1:Int):PT _ (nE (B7 dim l) (BA dim l)) iK:=.bf (decide (i_1 < (l.length:Int))) (.g2 (0≤i_1) (i_1 < (l.length:Int))<|.bd (xq (l.getD (0+(Int.toNat i_1)) (ak []))) (0,false) fun r_3=>.bf (r_3.1 == dim) (.g2 (0≤i_1) (i_1 < (l.length:Int))<|.tv (out_1.length = out_1.length) rfl<|.gc (out_1.length+1) 16<|.lf (some (Sum.inl ((out_1++([(l.getD (0+(Int.toNat i_1)) (ak []))]:List ByteArray)),(ai (i_1+1))))) .normal (⟨[sv 0 (i64 dim),sv 3 (.row 0 1 0 l.length),sv 4 (.row 1 1 0 (out_1.length+1)),sv 5 (i64 (ai (i_1+1)))],[(wH 0 9 l),(1,some (.row 9 1 (out_1.length+1) (fun i=>bif Nat.blt i out_1.length then (Sc out_1) i else (fun i=>(Sc ([(l.getD (0+(Int.toNat i_1)) (ak []))]:List ByteArray)) (0+i)) (i - out_1.length))))],2⟩)<|hh fun _=>lg (.of (.q rfl (.q rfl (.cons rfl (.rown (bY rfl rfl)) (.q rfl .nil)))) (.same rfl (.row rfl (ac.app .b (ac.zero (ac.ls Dd (ak []) ([(l.getD (0+(Int.toNat i_1)) (ak []))]:List ByteArray)))) .nil rfl)) rfl)) (.lf (some (Sum.inl (out_1,(ai (i_1+1))))) .normal _<|hh fun _=>l0)) (.lf (some (Sum.inr out_1)) (.exit 0) (B7 dim l (out_1,i_1))<|hh fun _=>lg (.cn [4]))
theorem ach {dim l out_1 i_1}:Ax tP 34 ZB 0 iK (oI dim l out_1 i_1) (ahQ dim l out_1 i_1):=.tE mixed [anI] [0,3,4,5] 4
def tn (dim:Int) (l:(List ByteArray)) (s:((List ByteArray) × Int)):Option (((List ByteArray) × Int) ⊕ (((List ByteArray)))):=match s with | (out_1,i_1)=>(oI dim l out_1 i_1).opt
theorem afZ (dim l s):Pp tP 34 (List.drop 0 ZB) (B7 dim l s) (tn dim l s) (cl (B7 dim l) (BA dim l)):=fun K h=>match s,h with | (out_1,i_1),h=>(ach h)
theorem SQ (dim l):∀ r J K,BA dim l r K→BA dim l r (aH J K)
  | s,_,_,h=>h
def Vm (out_3:(List ByteArray)):St:=⟨[sv 4 (.row 0 1 0 out_3.length)],[(wH 0 9 out_3)],1⟩
def Cl (out_3:(List ByteArray)):PT _ (rE Tb) iK:=.lf (some out_3) .ret _<|hh fun _=>l0
theorem aeG {out_3}:Ax tP 34 uT 5 iK (Cl out_3) (Vm out_3):=.tE mixed [] [2] 2
def akB (dim:Int) (l:(List ByteArray)):St:=⟨[sv 0 (i64 dim),sv 3 (.row 0 1 0 l.length),sv 4 (.c .nil),sv 5 (i64 0)],[(wH 0 9 l)],1⟩
abbrev ya (dim:Int) (l:(List ByteArray)) (r:(((List ByteArray)))):Option ((List ByteArray)):=match r with | out_2=>((Cl out_2).opt)
def ua (dim:Int) (l:(List ByteArray)):Option ((List ByteArray)):=(fixL (tn dim l) (([]:List ByteArray),0)).bind (ya dim l)
theorem abO:List.drop 4 uT = .block 0 (.loop (ah (ah (aQ uT 4)))) :: List.drop 5 uT:=by kernel_rfl
theorem alq (dim l K):∀ r,W (ya dim l r) (rE Tb K)→BA dim l r (wK (bj 0 (aH (ar tP 34 (List.drop 5 uT) K) K)))
  | out_2,h=>⟨(Vm out_2),(.refl _),(aeG h)⟩
theorem afn {dim l K} (h:W (ua dim l) (rE Tb K)):ar tP 34 (List.drop 4 uT) K (akB dim l) :=
  ar.at_ abO (ar.cons_loop (aC.weak (aC.ent (.trans (.nilrow 4 1 9 1 (aV Dd (ak []) []) (Nat.le_of_ble_eq_true rfl) rfl) (.cn [0,3,4,5])) (aC.loopF (x:=ah (ah (aQ uT 4))) (f:=tn dim l) (emb:=B7 dim l) (E:=BA dim l) (afZ dim l) (SQ dim l) (bT h (alq dim l K))))))
def ag7 (dim:Int):St:=⟨[sv 0 (i64 dim)],[],0⟩
def tk (dim:Int):PT _ (rE Tb) (dK tP 34 uT 4 iK):=.bd (xC) [] fun r_4=>.lf (ua dim r_4) .normal _<|hh fun _ h=>l0 (afn h)
theorem adz {dim}:Ax tP 34 uT 0 iK (tk dim) (ag7 dim):=.tD mixed [anL] [0,3,4,5] 4
def vk (dim:Int):Option ((List ByteArray)):=(tk dim).opt
def Ex:bU:=dI (aI .i64) vk ([]:List ByteArray) J5
theorem Lf:bc tP 88 Ex:=cD Tryz.f88 (an Tryz.f88) [.tmp 2] 34 fun u0 y h=>@adz u0 _ (bn.2 ⟨y,h,(cz (.row 0 1 0 y.length) (⟨_,_,_,rfl,rfl,rfl,fun _ _=>rfl,fun _ i hi d hd=>Ph _ d hd⟩))⟩)
abbrev e88:FE tP:=⟨88, .pure Ex,Lf⟩
def mu:List V→List Ob→Option ((aa) × List Prop)
  | [(.ptr p1 k2 i3 j4)],[.box [(.c (.sl k5 n6 e7)),(.c (.lit (.int .i64 a8))),(.c (.lit (.int .i64 a9)))]]=>bif Nat.beq p1 0&&Nat.beq k2 3&&Nat.beq i3 0&&Nat.beq j4 0 then some (((aa.mk (lst bh n6 e7) a8 a9)),[aJ aP bh 1 k5 n6 e7]) else none
  | _,_=>none
def kM (x_1:(aF × aa)):V:=(.agg [(i64 x_1.1.Num),(i64 x_1.1.Den)])
def kP (os:List Ob) (x_1:(aF × aa)):List Ob:=[(.box [(fG x_1.2.l),(i64 x_1.2.at_),(i64 x_1.2.left)])]
noncomputable def amD:List Code:=aA (an Tryz.f89)
def akj (x_1:(aF × aa)):St:=⟨[sv 2 (.ptr 0 2 0 0),sv 1000000 (.ptr 1 3 0 0)],[(0,some (.box [(i64 x_1.1.Num),(i64 x_1.1.Den)])),(1,some (.box [(fG x_1.2.l),(i64 x_1.2.at_),(i64 x_1.2.left)]))],2⟩
theorem alT (x_1:(aF × aa)) {ps:List Prop} {c0:List V} (h0:c0.length = 3):eo tP [.cell 2 89] (fun σ v=>∃ qs,ql true [.box c0] ⟨ps,kM x_1,kP [.box c0] x_1,[false]⟩ qs σ v) .ret (akj x_1) :=
  eo.intro (v:=(.agg [(i64 x_1.1.Num),(i64 x_1.1.Den)])) (by kernel_rfl) ⟨[1],rfl,rfl,VLe.rfl' _,(.inl rfl),⟨⟨_,rfl,show VLes _ _ from VLes.rfl' _,rfl,rfl,(.inl rfl), .inr ⟨trivial,by rw [dg,h0]; rfl⟩⟩,trivial⟩⟩
def aiU (s_1:aa):St:=⟨[sv 0 (.ptr 0 3 0 0),sv 1000000 (.ptr 0 3 0 0)],[(0,some (.bx (aj s_1)))],1⟩
def lP (s_1:aa):PT _ (rE akj) iK:=.lk bw s_1.l fun L1_=>.bd (bi (aa.mk L1_ s_1.at_ s_1.left) 4000) (0,af) fun r_4=>.lk bw r_4.2.l fun L2_=>.bd (bi (aa.mk L2_ r_4.2.at_ r_4.2.left) 7) (0,af) fun r_5=>.g2 (0≤r_5.1) (r_5.1 < ((7:Nat):Int))<|.bd (fm r_4.1 (([1,1,1,10,4,1000,10000]:List Int).getD (0+(Int.toNat r_5.1)) (0:Int))) (gp,0) fun r_6=>.lf (some (r_6.1,r_5.2)) .ret _<|hh fun _=>l0
theorem adB {s_1}:Ax tP 19 amD 0 iK (lP s_1) (aiU s_1):=.tE mixed [e38,RC] [2,1000000] 5
def iL (s_1:aa):Option ((aF × aa)):=(lP s_1).opt
theorem Cf:bR tP 89 (.mut (lF true [true] (lN mu kM kP [false] (gp,af) (fun a=>iL a)))):=by
  refine mo (fn:=Tryz.f89) (c:=an Tryz.f89) (by kernel_rfl) (by kernel_rfl) (by kernel_rfl) (rs:=[.cell 2 89]) (by kernel_rfl) (nt:=19) (by kernel_rfl) fun vs os a ps h hp y hy qs=>?_
  unfold mu at h
  split at h
  · next p1 k2 i3 j4 k5 n6 e7 a8 a9 =>
    cases hb:(Nat.beq p1 0&&Nat.beq k2 3&&Nat.beq i3 0&&Nat.beq j4 0) with
    | false=>rw [hb] at h; cases h
    | true =>
      rw [hb] at h
      simp only [Bool.and_eq_true,Nat.beq_eq] at hb
      obtain ⟨⟨⟨rfl,rfl⟩,rfl⟩,rfl⟩:=hb
      cases h
      obtain ⟨g0,hp⟩:=ce hp
      exact ⟨[.ptr 0 3 0 0],(VLes.cons (VLe.rfl' _) VLes.nil),rfl,ar.ent (dv.of (bM.cons rfl (VLe.rfl' _) (bM.cons rfl (VLe.rfl' _) bM.nil)) (cC.box rfl (VLes.cons (VLe.slk g0.1 (ac.of_ok g0)) (VLes.cons (VLe.rfl' _) (VLes.cons (VLe.rfl' _) VLes.nil))) cC.nil) rfl) (@adB (aa.mk (lst bh n6 e7) a8 a9) _ (bn.2 ⟨y,hy,alT y rfl⟩))⟩
  · cases h
def rU:=(lF true [true] (lN mu kM kP [false] (gp,af) (fun a=>iL a)))
theorem AA:bR tP 89 (.mut rU):=Cf
abbrev e89:FE tP:=⟨89, .mut rU,AA⟩
def om:List V→Option ((ay) × List Prop)
  | [(.agg [(.c (.lit (.int .i64 a1))),(.c (.lit (.int .i64 a2))),(.c (.lit (.int .i64 a3))),(.c (.lit (.int .i64 a4))),(.c (.lit (.string a5))),(.c (.sl k6 n7 e8))])]=>bif true then some (((ay.mk a1 (aF.mk a2 a3) a4 a5 (lst dGExpr n7 e8))),[aJ ee dGExpr 6 k6 n7 e8]) else none
  | _=>none
def lL (x_1:Int):bK:=.data (i64 x_1)
class Qo where
  F:ay→Option (Int)
  ok:bc tP 85 (pL om lL (0:Int) (fun a=>F a))
section
variable [Qo]
abbrev Nm:=(pL om lL (0:Int) (fun a=>Qo.F a))
abbrev amw:FE tP:=⟨85, .pure Nm,Qo.ok⟩
noncomputable def uC:List Code:=aA (an Tryz.f85)
noncomputable def Zb:List Code:=aA (ah (ah (aQ uC 3)))
def OC (x_1:Int):St:=⟨[sv 2 (i64 x_1)],[],0⟩
theorem aiD (x_1:Int):eC tP [.tmp 2] (dN (lL x_1)) .ret (OC x_1) :=
  eC.intro (v:=(i64 x_1)) (by kernel_rfl) ((VLe.rfl' _))
def BY (e_1:ay) (s:(Int × Int)):St:=match s with | (n,i_1)=>⟨[sv 1 (.ptr 0 6 0 0),sv 3 (i64 n),sv 4 (i64 i_1)],[(0,some (.box [(i64 e_1.Op),(i64 e_1.Value.Num),(i64 e_1.Value.Den),(i64 e_1.Dim),(aX e_1.Name),(bm e_1.Args)]))],1⟩
def agv (e_1:ay) (s:Int):St:=match s with | n_1=>⟨[sv 3 (i64 n_1)],[],0⟩
def BZ (e_1:ay) (r:((Int))) (K:KT):Prop:=match r with | s=>K (.exit 0) (agv e_1 s)
def aiw (n i_1:Int) (e_1:ay):St:=BY e_1 (n,i_1)
def nm (n i_1:Int) (e_1:ay):PT _ (nE (BY e_1) (BZ e_1)) iK:=.bf (decide (i_1 < (e_1.Args.length:Int))) (.g2 (0≤i_1) (i_1 < (e_1.Args.length:Int))<|.tv (aJ ee dGExpr 6 6 (((e_1.Args.getD (Int.toNat i_1) aM).Args).length) (aGExpr ((e_1.Args.getD (Int.toNat i_1) aM).Args))) (ac.ok eY (ac.aGExpr ((e_1.Args.getD (Int.toNat i_1) aM).Args)))<|.ls (a:=lst dGExpr (((e_1.Args.getD (Int.toNat i_1) aM).Args).length) (aGExpr ((e_1.Args.getD (Int.toNat i_1) aM).Args))) (lr eY (ac.aGExpr ((e_1.Args.getD (Int.toNat i_1) aM).Args))) fun L1_=>.bd (Qo.F (ay.mk (e_1.Args.getD (Int.toNat i_1) aM).Op (aF.mk ((e_1.Args.getD (Int.toNat i_1) aM).Value).Num ((e_1.Args.getD (Int.toNat i_1) aM).Value).Den) (e_1.Args.getD (Int.toNat i_1) aM).Dim (e_1.Args.getD (Int.toNat i_1) aM).Name L1_)) 0 fun r_2=>.lf (some (Sum.inl ((if n < r_2 then r_2 else n),(ai (i_1+1))))) .normal _<|hh fun _=>l0) (.lf (some (Sum.inr n)) (.exit 0) (BY e_1 (n,i_1))<|hh fun _=>lg (.cn [3]))
theorem agl {n i_1 e_1}:Ax tP 22 Zb 0 iK (nm n i_1 e_1) (aiw n i_1 e_1):=.tE mixed [amw] [1,3,4] 4
def rV (e_1:ay) (s:(Int × Int)):Option ((Int × Int) ⊕ ((Int))):=match s with | (n,i_1)=>(nm n i_1 e_1).opt
theorem afc (e_1 s):Pp tP 22 (List.drop 0 Zb) (BY e_1 s) (rV e_1 s) (cl (BY e_1) (BZ e_1)):=fun K h=>match s,h with | (n,i_1),h=>(agl h)
theorem So (e_1):∀ r J K,BZ e_1 r K→BZ e_1 r (aH J K)
  | s,_,_,h=>h
def UO (n_2:Int):St:=⟨[sv 3 (i64 n_2)],[],0⟩
def Ac (n_2:Int):PT _ (rE OC) iK:=.lf (some (ai (n_2+1))) .ret _<|hh fun _=>l0
theorem aea {n_2}:Ax tP 22 uC 4 iK (Ac n_2) (UO n_2):=.tE mixed [] [2] 2
def aiA (e_1:ay):St:=⟨[sv 1 (.ptr 0 6 0 0),sv 3 (i64 0),sv 4 (i64 0)],[(0,some (.box [(i64 e_1.Op),(i64 e_1.Value.Num),(i64 e_1.Value.Den),(i64 e_1.Dim),(aX e_1.Name),(bm e_1.Args)]))],1⟩
abbrev wU (e_1:ay) (r:((Int))):Option (Int):=match r with | n_1=>((Ac n_1).opt)
def sC (e_1:ay):Option (Int):=(fixL (rV e_1) (0,0)).bind (wU e_1)
theorem adp:List.drop 3 uC = .block 0 (.loop (ah (ah (aQ uC 3)))) :: List.drop 4 uC:=by kernel_rfl
theorem aku (e_1 K):∀ r,W (wU e_1 r) (rE OC K)→BZ e_1 r (wK (bj 0 (aH (ar tP 22 (List.drop 4 uC) K) K)))
  | n_1,h=>⟨(UO n_1),(.refl _),(aea h)⟩
theorem afm {e_1 K} (h:W (sC e_1) (rE OC K)):ar tP 22 (List.drop 3 uC) K (aiA e_1) :=
  ar.at_ adp (ar.cons_loop (aC.weak (aC.ent (.refl _) (aC.loopF (x:=ah (ah (aQ uC 3))) (f:=rV e_1) (emb:=BY e_1) (E:=BZ e_1) (afc e_1) (So e_1) (bT h (aku e_1 K))))))
def agZ (e_1:ay):St:=⟨[sv 0 (.agg [(i64 e_1.Op),(i64 e_1.Value.Num),(i64 e_1.Value.Den),(i64 e_1.Dim),(aX e_1.Name),(bm e_1.Args)])],[],0⟩
def sH (e_1:ay):PT _ (rE OC) (dK tP 22 uC 3 iK):=.lf (sC e_1) .normal _<|hh fun _ h=>l0 (afm h)
theorem agi {e_1}:Ax tP 22 uC 0 iK (sH e_1) (agZ e_1):=.tD mixed [] [1,3,4] 3
def rP (e_1:ay):Option (Int):=(sH e_1).opt
theorem Kc:bc tP 85 (pL om lL (0:Int) (fun a=>rP a)):=by
  refine Od (fn:=Tryz.f85) (c:=an Tryz.f85) (by kernel_rfl) (by kernel_rfl) (by kernel_rfl) (rs:=[.tmp 2]) (by kernel_rfl) (nt:=22) (by kernel_rfl) fun vs a ps h hp y hy=>?_
  unfold om at h
  split at h
  · next a1 a2 a3 a4 a5 k6 n7 e8 =>
    cases hb:(true) with
    | false=>rw [hb] at h; cases h
    | true =>
      rw [hb] at h
      cases h
      obtain ⟨g0,hp⟩:=ce hp
      exact ⟨[(.agg [(i64 (ay.mk a1 (aF.mk a2 a3) a4 a5 (lst dGExpr n7 e8)).Op),(i64 ((ay.mk a1 (aF.mk a2 a3) a4 a5 (lst dGExpr n7 e8)).Value).Num),(i64 ((ay.mk a1 (aF.mk a2 a3) a4 a5 (lst dGExpr n7 e8)).Value).Den),(i64 (ay.mk a1 (aF.mk a2 a3) a4 a5 (lst dGExpr n7 e8)).Dim),(aX ((ay.mk a1 (aF.mk a2 a3) a4 a5 (lst dGExpr n7 e8)).Name)),(bm ((ay.mk a1 (aF.mk a2 a3) a4 a5 (lst dGExpr n7 e8)).Args))])],(VLes.cons (VLe.agg (VLes.cons (VLe.rfl' _) (VLes.cons (VLe.rfl' _) (VLes.cons (VLe.rfl' _) (VLes.cons (VLe.rfl' _) (VLes.cons (VLe.rfl' _) (VLes.cons (VLe.slk g0.1 (ac.of_ok g0)) VLes.nil))))))) VLes.nil),rfl, @agi _ (ay.mk a1 (aF.mk a2 a3) a4 a5 (lst dGExpr n7 e8)) _ (bn.2 ⟨y,hy,aiD y⟩)⟩
  · cases h
end
abbrev vJ:Nat→Qo
  | 0=>⟨fun _=>none,AU⟩
  | n+1=>⟨@rP (vJ n), @Kc (vJ n)⟩
def Dh (e_1:ay):Option (Int):=t7 fun n=>(vJ n).F e_1
def Gy:=(pL om lL (0:Int) (fun a=>Dh a))
theorem LV:bc tP 85 Gy:=DR (F:=fun n (a:ay)=>(vJ n).F  a) fun n=>(vJ n).ok
abbrev e85:FE tP:=⟨85, .pure Gy,LV⟩
def p9:List V→Option ((ay) × List Prop)
  | [(.agg [(.c (.lit (.int .i64 a1))),(.c (.lit (.int .i64 a2))),(.c (.lit (.int .i64 a3))),(.c (.lit (.int .i64 a4))),(.c (.lit (.string a5))),(.c (.sl k6 n7 e8))])]=>bif true then some (((ay.mk a1 (aF.mk a2 a3) a4 a5 (lst dGExpr n7 e8))),[aJ ee dGExpr 6 k6 n7 e8]) else none
  | _=>none
def mJ (x_1:Int):bK:=.data (i64 x_1)
class Ql where
  F:ay→Option (Int)
  ok:bc tP 86 (pL p9 mJ (0:Int) (fun a=>F a))
section
variable [Ql]
abbrev OD:=(pL p9 mJ (0:Int) (fun a=>Ql.F a))
abbrev amo:FE tP:=⟨86, .pure OD,Ql.ok⟩
noncomputable def uj:List Code:=aA (an Tryz.f86)
noncomputable def Zj:List Code:=aA (ah (ah (aQ uj 3)))
def OT (x_1:Int):St:=⟨[sv 2 (i64 x_1)],[],0⟩
theorem agW (x_1:Int):eC tP [.tmp 2] (dN (mJ x_1)) .ret (OT x_1) :=
  eC.intro (v:=(i64 x_1)) (by kernel_rfl) ((VLe.rfl' _))
def BW (e_1:ay) (s:(Int × Int)):St:=match s with | (n,i_1)=>⟨[sv 1 (.ptr 0 6 0 0),sv 3 (i64 n),sv 4 (i64 i_1)],[(0,some (.box [(i64 e_1.Op),(i64 e_1.Value.Num),(i64 e_1.Value.Den),(i64 e_1.Dim),(aX e_1.Name),(bm e_1.Args)]))],1⟩
def abU (e_1:ay) (s:Int):St:=match s with | n_1=>⟨[sv 3 (i64 n_1)],[],0⟩
def BT (e_1:ay) (r:((Int))) (K:KT):Prop:=match r with | s=>K (.exit 0) (abU e_1 s)
def ahH (n i_1:Int) (e_1:ay):St:=BW e_1 (n,i_1)
def o5 (n i_1:Int) (e_1:ay):PT _ (nE (BW e_1) (BT e_1)) iK:=.bf (decide (i_1 < (e_1.Args.length:Int))) (.g2 (0≤i_1) (i_1 < (e_1.Args.length:Int))<|.tv (aJ ee dGExpr 6 6 (((e_1.Args.getD (Int.toNat i_1) aM).Args).length) (aGExpr ((e_1.Args.getD (Int.toNat i_1) aM).Args))) (ac.ok eY (ac.aGExpr ((e_1.Args.getD (Int.toNat i_1) aM).Args)))<|.ls (a:=lst dGExpr (((e_1.Args.getD (Int.toNat i_1) aM).Args).length) (aGExpr ((e_1.Args.getD (Int.toNat i_1) aM).Args))) (lr eY (ac.aGExpr ((e_1.Args.getD (Int.toNat i_1) aM).Args))) fun L1_=>.bd (Ql.F (ay.mk (e_1.Args.getD (Int.toNat i_1) aM).Op (aF.mk ((e_1.Args.getD (Int.toNat i_1) aM).Value).Num ((e_1.Args.getD (Int.toNat i_1) aM).Value).Den) (e_1.Args.getD (Int.toNat i_1) aM).Dim (e_1.Args.getD (Int.toNat i_1) aM).Name L1_)) 0 fun r_2=>.lf (some (Sum.inl ((ai (n+r_2)),(ai (i_1+1))))) .normal _<|hh fun _=>l0) (.lf (some (Sum.inr n)) (.exit 0) (BW e_1 (n,i_1))<|hh fun _=>lg (.cn [3]))
theorem acn {n i_1 e_1}:Ax tP 21 Zj 0 iK (o5 n i_1 e_1) (ahH n i_1 e_1):=.tE mixed [amo] [1,3,4] 4
def tj (e_1:ay) (s:(Int × Int)):Option ((Int × Int) ⊕ ((Int))):=match s with | (n,i_1)=>(o5 n i_1 e_1).opt
theorem adT (e_1 s):Pp tP 21 (List.drop 0 Zj) (BW e_1 s) (tj e_1 s) (cl (BW e_1) (BT e_1)):=fun K h=>match s,h with | (n,i_1),h=>(acn h)
theorem TQ (e_1):∀ r J K,BT e_1 r K→BT e_1 r (aH J K)
  | s,_,_,h=>h
def Ux (n_2:Int):St:=⟨[sv 3 (i64 n_2)],[],0⟩
def CO (n_2:Int):PT _ (rE OT) iK:=.lf (some n_2) .ret _<|hh fun _=>l0
theorem ae6 {n_2}:Ax tP 21 uj 4 iK (CO n_2) (Ux n_2):=.tE mixed [] [2] 2
def aiM (e_1:ay):St:=⟨[sv 1 (.ptr 0 6 0 0),sv 3 (i64 1),sv 4 (i64 0)],[(0,some (.box [(i64 e_1.Op),(i64 e_1.Value.Num),(i64 e_1.Value.Den),(i64 e_1.Dim),(aX e_1.Name),(bm e_1.Args)]))],1⟩
abbrev x7 (e_1:ay) (r:((Int))):Option (Int):=match r with | n_1=>((CO n_1).opt)
def tt (e_1:ay):Option (Int):=(fixL (tj e_1) (1,0)).bind (x7 e_1)
theorem aan:List.drop 3 uj = .block 0 (.loop (ah (ah (aQ uj 3)))) :: List.drop 4 uj:=by kernel_rfl
theorem ag8 (e_1 K):∀ r,W (x7 e_1 r) (rE OT K)→BT e_1 r (wK (bj 0 (aH (ar tP 21 (List.drop 4 uj) K) K)))
  | n_1,h=>⟨(Ux n_1),(.refl _),(ae6 h)⟩
theorem aa1 {e_1 K} (h:W (tt e_1) (rE OT K)):ar tP 21 (List.drop 3 uj) K (aiM e_1) :=
  ar.at_ aan (ar.cons_loop (aC.weak (aC.ent (.refl _) (aC.loopF (x:=ah (ah (aQ uj 3))) (f:=tj e_1) (emb:=BW e_1) (E:=BT e_1) (adT e_1) (TQ e_1) (bT h (ag8 e_1 K))))))
def alU (e_1:ay):St:=⟨[sv 0 (.agg [(i64 e_1.Op),(i64 e_1.Value.Num),(i64 e_1.Value.Den),(i64 e_1.Dim),(aX e_1.Name),(bm e_1.Args)])],[],0⟩
def tT (e_1:ay):PT _ (rE OT) (dK tP 21 uj 3 iK):=.lf (tt e_1) .normal _<|hh fun _ h=>l0 (aa1 h)
theorem adl {e_1}:Ax tP 21 uj 0 iK (tT e_1) (alU e_1):=.tD mixed [] [1,3,4] 3
def uk (e_1:ay):Option (Int):=(tT e_1).opt
theorem LD:bc tP 86 (pL p9 mJ (0:Int) (fun a=>uk a)):=by
  refine Od (fn:=Tryz.f86) (c:=an Tryz.f86) (by kernel_rfl) (by kernel_rfl) (by kernel_rfl) (rs:=[.tmp 2]) (by kernel_rfl) (nt:=21) (by kernel_rfl) fun vs a ps h hp y hy=>?_
  unfold p9 at h
  split at h
  · next a1 a2 a3 a4 a5 k6 n7 e8 =>
    cases hb:(true) with
    | false=>rw [hb] at h; cases h
    | true =>
      rw [hb] at h
      cases h
      obtain ⟨g0,hp⟩:=ce hp
      exact ⟨[(.agg [(i64 (ay.mk a1 (aF.mk a2 a3) a4 a5 (lst dGExpr n7 e8)).Op),(i64 ((ay.mk a1 (aF.mk a2 a3) a4 a5 (lst dGExpr n7 e8)).Value).Num),(i64 ((ay.mk a1 (aF.mk a2 a3) a4 a5 (lst dGExpr n7 e8)).Value).Den),(i64 (ay.mk a1 (aF.mk a2 a3) a4 a5 (lst dGExpr n7 e8)).Dim),(aX ((ay.mk a1 (aF.mk a2 a3) a4 a5 (lst dGExpr n7 e8)).Name)),(bm ((ay.mk a1 (aF.mk a2 a3) a4 a5 (lst dGExpr n7 e8)).Args))])],(VLes.cons (VLe.agg (VLes.cons (VLe.rfl' _) (VLes.cons (VLe.rfl' _) (VLes.cons (VLe.rfl' _) (VLes.cons (VLe.rfl' _) (VLes.cons (VLe.rfl' _) (VLes.cons (VLe.slk g0.1 (ac.of_ok g0)) VLes.nil))))))) VLes.nil),rfl, @adl _ (ay.mk a1 (aF.mk a2 a3) a4 a5 (lst dGExpr n7 e8)) _ (bn.2 ⟨y,hy,agW y⟩)⟩
  · cases h
end
abbrev vR:Nat→Ql
  | 0=>⟨fun _=>none,AU⟩
  | n+1=>⟨@uk (vR n), @LD (vR n)⟩
def ry (e_1:ay):Option (Int):=t7 fun n=>(vR n).F e_1
def HY:=(pL p9 mJ (0:Int) (fun a=>ry a))
theorem NB:bc tP 86 HY:=DR (F:=fun n (a:ay)=>(vR n).F  a) fun n=>(vR n).ok
abbrev e86:FE tP:=⟨86, .pure HY,NB⟩
noncomputable def ajq:List Code:=aA (an Tryz.f108)
def No (x_1:Int):bK:=.data (i64 x_1)
def amQ (x_1:Int):St:=⟨[sv 2 (i64 x_1)],[],0⟩
def af7 (op:Int):St:=⟨[sv 0 (i64 op)],[],0⟩
def xW (op:Int):PT _ (rE amQ) iK:=.bf (bif (decide (1≤op)) then (decide (op≤3)) else false) (.lf (some 0) .ret _<|hh fun _=>l0) (.bf (bif (decide (4≤op)) then (decide (op≤6)) else false) (.lf (some 1) .ret _<|hh fun _=>l0) (.bf (bif (decide (7≤op)) then (decide (op≤20)) else false) (.lf (some 2) .ret _<|hh fun _=>l0) (.bf (op == 21) (.lf (some 3) .ret _<|hh fun _=>l0) (.lf (some (-1)) .ret _<|hh fun _=>l0))))
theorem Xf {op}:Ax tP 27 ajq 0 iK (xW op) (af7 op):=.tE mixed [] [2] 4
def zA (op:Int):Option (Int):=(xW op).opt
def IC:bU:=dI (aI .i64) zA (0:Int) No
theorem Pa:bc tP 108 IC:=cD Tryz.f108 (an Tryz.f108) [.tmp 2] 27 fun u0 y h=>@Xf u0 _ (bn.2 ⟨y,h,(cz (i64 y) (VLe.rfl' _))⟩)
abbrev aoA:FE tP:=⟨108, .pure IC,Pa⟩
noncomputable def alG:List Code:=aA (an Tryz.f134)
def AQ (x_1:Bool):bK:=.data (bl x_1)
def ank (x_1:Bool):St:=⟨[sv 2 (bl x_1)],[],0⟩
def afD (f:aF):St:=⟨[sv 0 (.ag (mj f))],[],0⟩
def fZ (f:aF):PT _ (rE ank) iK:=.g1 (((bif (bif (bif (decide (1≤f.Den)) then (decide (f.Den≤1000000000)) else false) then (decide ((-1000000000000000)≤f.Num)) else false) then (decide (f.Num≤1000000000000000)) else false)&&true) = true→(lW f.Num).isSome = true)<|.g1 (((bif (bif (bif (decide (1≤f.Den)) then (decide (f.Den≤1000000000)) else false) then (decide ((-1000000000000000)≤f.Num)) else false) then (decide (f.Num≤1000000000000000)) else false)&&true) = true→(tV ((lW f.Num).getD 0) (IntKind.u64.wrap f.Den)).isSome = true)<|.lf (some (bif (bif (bif (bif (decide (1≤f.Den)) then (decide (f.Den≤1000000000)) else false) then (decide ((-1000000000000000)≤f.Num)) else false) then (decide (f.Num≤1000000000000000)) else false) then (((tV ((lW f.Num).getD 0) (IntKind.u64.wrap f.Den)).getD 0) == 1) else false)) .ret _<|hh fun _=>l0
theorem WS {f}:Ax tP 31 alG 0 iK (fZ f) (afD f):=.tE mixed [e63,e82] [2] 3
def eT (f:aF):Option (Bool):=(fZ f).opt
def sr:bU:=dI Du eT false AQ
theorem Be:bc tP 134 sr:=cD Tryz.f134 (an Tryz.f134) [.tmp 2] 31 fun u0 y h=>@WS u0 _ (bn.2 ⟨y,h,(cz (bl y) (VLe.rfl' _))⟩)
abbrev ak2:FE tP:=⟨134, .pure sr,Be⟩
noncomputable def pU:List Code:=aA (an Tryz.f144)
noncomputable def U8:List Code:=aA (ah (ah (aQ pU 2)))
def KX (x_1:ByteArray):bK:=.data (aX x_1)
def N8 (x_1:ByteArray):St:=⟨[sv 4 (aX x_1)],[],0⟩
def B3 (n least:Int) (s:(Int × ByteArray)):St:=match s with | (n_1,s_1)=>⟨[sv 0 (i64 n_1),sv 1 (i64 least),sv 5 (aX s_1)],[],0⟩
def W5 (n least:Int) (s:ByteArray):St:=match s with | s_2=>⟨[sv 5 (aX s_2)],[],0⟩
def xH (n least:Int) (r:((ByteArray))) (K:KT):Prop:=match r with | s=>K (.exit 0) (W5 n least s)
def aeQ (n_1 least:Int) (s_1:ByteArray):St:=B3 (0:Int) least (n_1,s_1)
def pf (n_1 least:Int) (s_1:ByteArray):PT _ (nE (B3 (0:Int) least) (xH (0:Int) least)) iK:=.bf (bif (decide (0 < n_1)) then true else (decide ((s_1.size:Int) < least))) (.tv ((10:Int)≠0) (by decide)<|.tv ((10:Int)≠0) (by decide)<|.g3 (0≤(Int.tmod n_1 10)) ((Int.tmod n_1 10)≤(ai ((Int.tmod n_1 10)+1))) ((ai ((Int.tmod n_1 10)+1))≤((10:Nat):Int))<|.g1 (((ak [48,49,50,51,52,53,54,55,56,57]).extract (Int.toNat (Int.tmod n_1 10)) (Int.toNat (ai ((Int.tmod n_1 10)+1)))).size+s_1.size≤9223372036854775807)<|.tv ((10:Int)≠0) (by decide)<|.lf (some (Sum.inl ((ai (Int.tdiv n_1 10)),(((ak [48,49,50,51,52,53,54,55,56,57]).extract (Int.toNat (Int.tmod n_1 10)) (Int.toNat (ai ((Int.tmod n_1 10)+1))))++s_1)))) .normal _<|hh fun _=>lx [0,1,5] [9,10,11,12] []) (.lf (some (Sum.inr s_1)) (.exit 0) _<|hh fun _=>lx [5] [9,10,11,12] [sv 0 (i64 n_1),sv 1 (i64 least)])
theorem W9 {n_1 least s_1}:Ax tP 25 U8 0 iK (pf n_1 least s_1) (aeQ n_1 least s_1):=.tE mixed [] [0,1,5,9,10,11,12] 3
def tz (n least:Int) (s:(Int × ByteArray)):Option ((Int × ByteArray) ⊕ ((ByteArray))):=match s with | (n_1,s_1)=>(pf n_1 least s_1).opt
theorem XL (n least s):Pp tP 25 (List.drop 0 U8) (B3 n least s) (tz n least s) (cl (B3 n least) (xH n least)):=fun K h=>match s,h with | (n_1,s_1),h=>(W9 h)
theorem Qt (n least):∀ r J K,xH n least r K→xH n least r (aH J K)
  | s,_,_,h=>h
def Rx (s_3:ByteArray):St:=⟨[sv 5 (aX s_3)],[],0⟩
def CZ (s_3:ByteArray):PT _ (rE N8) iK:=.lf (some s_3) .ret _<|hh fun _=>l0
theorem W7 {s_3}:Ax tP 25 pU 3 iK (CZ s_3) (Rx s_3):=.tE mixed [] [4] 2
def ae3 (n least:Int):St:=⟨[sv 0 (i64 n),sv 1 (i64 least),sv 5 (aX (ak []))],[],0⟩
abbrev yn (n least:Int) (r:((ByteArray))):Option (ByteArray):=match r with | s_2=>((CZ s_2).opt)
def ue (n least:Int):Option (ByteArray):=(fixL (tz n least) (n,(ak []))).bind (yn n least)
theorem XQ:List.drop 2 pU = .block 0 (.loop (ah (ah (aQ pU 2)))) :: List.drop 3 pU:=by kernel_rfl
theorem afU (n least K):∀ r,W (yn n least r) (rE N8 K)→xH n least r (wK (bj 0 (aH (ar tP 25 (List.drop 3 pU) K) K)))
  | s_2,h=>⟨(Rx s_2),(.refl _),(W7 h)⟩
theorem X9 {n least K} (h:W (ue n least) (rE N8 K)):ar tP 25 (List.drop 2 pU) K (ae3 n least) :=
  ar.at_ XQ (ar.cons_loop (aC.weak (aC.ent (.refl _) (aC.loopF (x:=ah (ah (aQ pU 2))) (f:=tz n least) (emb:=B3 n least) (E:=xH n least) (XL n least) (Qt n least) (bT h (afU n least K))))))
def adk (n least:Int):St:=⟨[sv 0 (i64 n),sv 1 (i64 least)],[],0⟩
def tJ (n least:Int):PT _ (rE N8) (dK tP 25 pU 2 iK):=.lf (ue n least) .normal _<|hh fun _ h=>l0 (X9 h)
theorem YU {n least}:Ax tP 25 pU 0 iK (tJ n least) (adk n least):=.tD mixed [] [0,1,5,9,10,11,12] 2
def p6 (n least:Int):Option (ByteArray):=(tJ n least).opt
def E3:bU:=fH (aI .i64) (aI .i64) p6 (ak []) KX
theorem Lp:bc tP 144 E3:=dA Tryz.f144 (an Tryz.f144) [.tmp 4] 25 fun u0 u1 y h=>@YU u0 u1 _ (bn.2 ⟨y,h,(cz (aX y) (VLe.rfl' _))⟩)
abbrev akt:FE tP:=⟨144, .pure E3,Lp⟩
noncomputable def Pg:List Code:=aA (an Tryz.f135)
def zc (x_1:ByteArray):bK:=.data (aX x_1)
def Zc (x_1:ByteArray):St:=⟨[sv 2 (aX x_1)],[],0⟩
def acv (s_1:ByteArray) (a:aF):St:=⟨[sv 1 (.ptr 0 2 0 0),sv 3 (aX s_1)],[(0,some (.bx (mj a)))],1⟩
def iC (s_1:ByteArray) (a:aF):PT _ (rE Zc) iK:=.bf (a.Den != 1) (.g1 (s_1.size+(ak [47]).size≤9223372036854775807)<|.bd (p6 a.Den 1) (ak []) fun r_5=>.g1 ((s_1++(ak [47])).size+r_5.size≤9223372036854775807)<|.lf (some ((s_1++(ak [47]))++r_5)) .ret _<|hh fun _=>l0) (.lf (some s_1) .ret _<|hh fun _=>l0)
theorem Ps {s_1 a}:Ax tP 27 Pg 6 iK (iC s_1 a) (acv s_1 a):=.tE mixed [akt] [2] 4
def aal (a:aF):St:=⟨[sv 0 (.ag (mj a))],[],0⟩
def kN (a:aF):PT _ (rE Zc) (dK tP 27 Pg 6 iK):=.bd (eT a) false fun r_6=>.bf (!r_6) (.lf (some (ak [])) .ret (⟨[sv 1 (.ptr 0 2 0 0),sv 2 (aX (ak []))],[(0,some (.bx (mj a)))],1⟩)<|hh fun _=>lg (.cn [2])) (.bd (lW a.Num) 0 fun r_7=>.bd (p6 (ai r_7) 1) (ak []) fun r_8=>.bf (decide (a.Num < 0)) (.g1 ((ak [45]).size+r_8.size≤9223372036854775807)<|.lf ((iC ((ak [45])++r_8) a).opt) .normal _<|hh fun _ h=>lz (Ps h) [1,3] [] [sv 2 (aX (ak []))]) (.lf ((iC r_8 a).opt) .normal _<|hh fun _ h=>lz (Ps h) [1,3] [] [sv 2 (aX (ak []))]))
theorem Xr {a}:Ax tP 27 Pg 0 iK (kN a) (aal a):=.tD mixed [e63,ak2,akt] [1,2,3] 6
def jS (a:aF):Option (ByteArray):=(kN a).opt
def rD:bU:=dI Du jS (ak []) zc
theorem Ao:bc tP 135 rD:=cD Tryz.f135 (an Tryz.f135) [.tmp 2] 27 fun u0 y h=>@Xr u0 _ (bn.2 ⟨y,h,(cz (aX y) (VLe.rfl' _))⟩)
abbrev anT:FE tP:=⟨135, .pure rD,Ao⟩
end
end Go.Ax
