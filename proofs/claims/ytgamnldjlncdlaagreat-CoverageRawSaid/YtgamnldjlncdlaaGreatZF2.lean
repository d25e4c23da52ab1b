import Derived.Test.YtgamnldjlncdlaaGreatZF1
import Derived.Test.YtgamnldjlncdlaaGreatRows
/- Types of the program, and functions of it: printed by a program, checked by the kernel. -/
set_option linter.all false
set_option maxRecDepth 100000
namespace Go.Ax
open Go.Proofs Go.Proofs.YtgamnldjlncdlaaGreat
noncomputable section
attribute [local irreducible] PT.opt
noncomputable def vR:List Code:=aA (ao Tryz.f24)
noncomputable def jT:List Code:=aA (ah (ah (aP vR 3)))
noncomputable def qO:List Code:=aA (ah (aP jT 2))
noncomputable def aaH:List Code:=aA (ah (ah (aP qO 6)))
def LG (x_1:(List ac)):bN:=.own true 70 14 (x_1).length (aV aX aW x_1)
def Vl (x_1:(List ac)):St:=⟨[sv 4 (.row 0 14 0 x_1.length)],[(bZ 0 70 x_1)],1⟩
def lH (a b:(List ac)) (s:((List ac) × Int)):St:=match s with | (out_2,i_1)=>⟨[sv 0 (aU a),sv 1 (aU b),sv 5 (.row 0 14 0 out_2.length),sv 6 (i64 i_1)],[(bZ 0 70 out_2)],1⟩
def acb (a b:(List ac)) (s:(List ac)):St:=match s with | out_4=>⟨[sv 5 (.row 0 14 0 out_4.length)],[(bZ 0 70 out_4)],1⟩
def lI (a b:(List ac)) (r:(((List ac)))) (K:KT):Prop:=match r with | s=>K (.exit 0) (acb a b s)
def amA (a b out_1:(List ac)) (i_5:Int):St:=⟨[sv 0 (aU a),sv 1 (aU b),sv 5 (.row 0 14 0 out_1.length),sv 6 (i64 i_5)],[(bZ 0 70 out_1)],1⟩
def ij (a b out_1:(List ac)) (i_5:Int):PT _ (nE (lH a b) (lI a b)) iK:=.lf (some (Sum.inl (out_1,(ai (i_5+1))))) .normal _<|hh fun _=>l0
theorem Iy {a b out_1 i_5}:Ax tP 88 jT 3 iK (ij a b out_1 i_5) (amA a b out_1 i_5):=.tE mixed [] [0,1,5,6,41,42,43,44,45,46,47,48,55,56,57,58,59,60,61,62] 1
def Hs (a b out_8:(List ac)) (i_6 at_1:Int) (f:ac) (s:((List ac) × Int × Int)):St:=match s with | (out_9,i_7,at_2)=>⟨[sv 0 (aU a),sv 1 (aU b),sv 5 (.row 0 14 0 out_9.length),sv 6 (i64 i_7),sv 7 (.ptr 1 14 0 0),sv 8 (i64 at_2)],[(bZ 0 70 out_9),(1,some (.bx (aX f)))],2⟩
def acn (a b out_8:(List ac)) (i_6 at_1:Int) (f:ac) (s:(List ac) × Int × Int):St:=match s with | (out_10,i_8,at_3)=>⟨[sv 0 (aU a),sv 1 (aU b),sv 5 (.row 0 14 0 out_10.length),sv 6 (i64 i_8),sv 7 (.ptr 1 14 0 0),sv 8 (i64 at_3)],[(bZ 0 70 out_10),(1,some (.bx (aX f)))],2⟩
def DO (a b out_8:(List ac)) (i_6 at_1:Int) (f:ac) (r:(((List ac) × Int × Int))) (K:KT):Prop:=match r with | s=>K (.exit 2) (acn a b out_8 i_6 at_1 f s)
def aob (a b out_9:(List ac)) (i_7 at_2:Int) (f:ac):St:=Hs a b ([]:List ac) (0:Int) (0:Int) f (out_9,i_7,at_2)
def o6 (a b out_9:(List ac)) (i_7 at_2:Int) (f:ac):PT _ (nE (Hs a b ([]:List ac) (0:Int) (0:Int) f) (DO a b ([]:List ac) (0:Int) (0:Int) f)) iK:=.g1 (((decide (0 < at_2))&&true) = true→0≤(ai (at_2 - 1)))<|.g1 (((decide (0 < at_2))&&true) = true→(ai (at_2 - 1)) < (out_9.length:Int))<|.g1 (((decide (0 < at_2))&&true) = true→(jC (out_9.getD (0+(Int.toNat (ai (at_2 - 1)))) aW) f).isSome = true)<|.bf (bif (decide (0 < at_2)) then (decide (0 < ((jC (out_9.getD (0+(Int.toNat (ai (at_2 - 1)))) aW) f).getD 0))) else false) (.lf (some (Sum.inl (out_9,i_7,(ai (at_2 - 1))))) .normal _<|hh fun _=>lx [0,1,5,6,7,8] [41,42,43,44,45,46,47,48] []) (.lf (some (Sum.inr (out_9,i_7,at_2))) (.exit 2) _<|hh fun _=>lx [0,1,5,6,7,8] [41,42,43,44,45,46,47,48] [])
theorem ahL {a b out_9 i_7 at_2 f}:Ax tP 88 aaH 0 iK (o6 a b out_9 i_7 at_2 f) (aob a b out_9 i_7 at_2 f):=.tE mixed [e52] [0,1,5,6,7,8,41,42,43,44,45,46,47,48,55,56,57,58,59,60,61,62] 3
def pA (a b out_8:(List ac)) (i_6 at_1:Int) (f:ac) (s:((List ac) × Int × Int)):Option (((List ac) × Int × Int) ⊕ (((List ac) × Int × Int))):=match s with | (out_9,i_7,at_2)=>(o6 a b out_9 i_7 at_2 f).opt
theorem acK (a b out_8 i_6 at_1 f s):Pp tP 88 (List.drop 0 aaH) (Hs a b out_8 i_6 at_1 f s) (pA a b out_8 i_6 at_1 f s) (cd (Hs a b out_8 i_6 at_1 f) (DO a b out_8 i_6 at_1 f)):=fun K h=>match s,h with | (out_9,i_7,at_2),h=>(ahL h)
theorem UA (a b out_8 i_6 at_1 f):∀ r J K,DO a b out_8 i_6 at_1 f r K→DO a b out_8 i_6 at_1 f r (aE J K)
  | s,_,_,h=>h
def W4 (a b out_11:(List ac)) (i_9 at_4:Int) (f:ac):St:=⟨[sv 0 (aU a),sv 1 (aU b),sv 5 (.row 0 14 0 out_11.length),sv 6 (i64 i_9),sv 7 (.ptr 1 14 0 0),sv 8 (i64 at_4)],[(bZ 0 70 out_11),(1,some (.bx (aX f)))],2⟩
def lF (a b out_11:(List ac)) (i_9 at_4:Int) (f:ac):PT _ (nE (lH a b) (lI a b)) (fun K=>(aZ 1 (aE (au tP 88 (List.drop 3 jT) K) K))):=.g1 (((decide (0 < at_4))&&true) = true→0≤(ai (at_4 - 1)))<|.g1 (((decide (0 < at_4))&&true) = true→(ai (at_4 - 1)) < (out_11.length:Int))<|.g1 (((decide (0 < at_4))&&true) = true→(jC (out_11.getD (0+(Int.toNat (ai (at_4 - 1)))) aW) f).isSome = true)<|.bf (bif (decide (0 < at_4)) then (((jC (out_11.getD (0+(Int.toNat (ai (at_4 - 1)))) aW) f).getD 0) == 0) else false) (.g2 (0≤(ai (at_4 - 1))) ((ai (at_4 - 1)) < (out_11.length:Int))<|.bd (EF (out_11.getD (0+(Int.toNat (ai (at_4 - 1)))) aW) f) false fun r_3=>.bf r_3 (.g2 (0≤(ai (at_4 - 1))) ((ai (at_4 - 1)) < (out_11.length:Int))<|.lf ((ij a b (out_11.set (0+(Int.toNat (ai (at_4 - 1)))) f) i_9).opt) (.exit 1) (⟨[sv 0 (aU a),sv 1 (aU b),sv 5 (.row 0 14 0 out_11.length),sv 6 (i64 i_9),un 55,un 56,un 57,un 58,un 59,un 60,un 61,un 62],[(0,some (.row 70 14 out_11.length (fun q=>bif Nat.beq q (0+(Int.toNat (ai (at_4 - 1)))) then (aX f) else (fH out_11) q)))],1⟩)<|hh fun _ h=>lf (Iy h) (.of (.q rfl (.q rfl (.cons rfl (.rown (lJ rfl)) (.q rfl .nil)))) (.row rfl (ae.set .b (0+(Int.toNat (ai (at_4 - 1)))) f rfl) .nil rfl) rfl)) (.lf ((ij a b out_11 i_9).opt) (.exit 1) _<|hh fun _ h=>lz (Iy h) [0,1,5,6] [55,56,57,58,59,60,61,62] [])) (.g3 (0≤(0:Int)) ((0:Int)≤at_4) (at_4≤(out_11.length:Int))<|.gc (Int.toNat (at_4 - 0)) 112<|.tv ((Int.toNat (at_4 - 0)) = (Int.toNat (at_4 - 0))) rfl<|.gc ((Int.toNat (at_4 - 0))+1) 112<|.g3 (0≤at_4) (at_4≤(out_11.length:Int)) ((out_11.length:Int)≤(out_11.length:Int))<|.tv (((Int.toNat (at_4 - 0))+1) = ((Int.toNat (at_4 - 0))+1)) rfl<|.gc (((Int.toNat (at_4 - 0))+1)+(Int.toNat ((out_11.length:Int) - at_4))) 112<|.lf ((ij a b (((nz aW out_11 0 (Int.toNat (at_4 - 0)))++([f]:List ac))++(nz aW out_11 (0+(Int.toNat at_4)) (Int.toNat ((out_11.length:Int) - at_4)))) i_9).opt) .normal (⟨[sv 0 (aU a),sv 1 (aU b),sv 5 (.row 0 14 0 (((Int.toNat (at_4 - 0))+1)+(Int.toNat ((out_11.length:Int) - at_4)))),sv 6 (i64 i_9),un 55,un 56,un 57,un 58,un 59,un 60,un 61,un 62],[(0,some (.row 70 14 (((Int.toNat (at_4 - 0))+1)+(Int.toNat ((out_11.length:Int) - at_4))) (fun i=>bif Nat.blt i ((Int.toNat (at_4 - 0))+1) then (fun i=>bif Nat.blt i (Int.toNat (at_4 - 0)) then (fun i=>(fH out_11) (0+i)) i else (fun i=>(dj 14 (aX f)) (0+i)) (i - (Int.toNat (at_4 - 0)))) i else (fun i=>(fH out_11) ((0+(Int.toNat at_4))+i)) (i - ((Int.toNat (at_4 - 0))+1)))))],1⟩)<|hh fun _ h=>lf (Iy h) (.of (.q rfl (.q rfl (.cons rfl (.rown (bS (bS EU rfl) EU)) (.q rfl .nil)))) (.row rfl (ae.app (ae.app (ae.sub aX aW out_11 0 (Int.toNat (at_4 - 0))) (ae.zero (ae.l1 (enc:=aX) (z:=aW) 14 f rfl))) (ae.sub aX aW out_11 (0+(Int.toNat at_4)) (Int.toNat ((out_11.length:Int) - at_4)))) .nil rfl) rfl))
theorem ahJ {a b out_11 i_9 at_4 f}:Ax tP 88 qO 7 (fun K=>(aZ 1 (aE (au tP 88 (List.drop 3 jT) K) K))) (lF a b out_11 i_9 at_4 f) (W4 a b out_11 i_9 at_4 f):=.tE mixed [e52,SM] [0,1,5,6,41,42,43,44,45,46,47,48,55,56,57,58,59,60,61,62] 3
def akE (a b out_8:(List ac)) (i_6 at_1:Int) (f:ac):St:=⟨[sv 0 (aU a),sv 1 (aU b),sv 5 (.row 0 14 0 out_8.length),sv 6 (i64 i_6),sv 7 (.ptr 1 14 0 0),sv 8 (i64 at_1)],[(bZ 0 70 out_8),(1,some (.bx (aX f)))],2⟩
abbrev yV (a b out_8:(List ac)) (i_6 at_1:Int) (f:ac) (r:(((List ac) × Int × Int))):Option (((List ac) × Int) ⊕ (((List ac)))):=match r with | (out_10,i_8,at_3)=>((lF a b out_10 i_8 at_3 f).opt)
def ua (a b out_8:(List ac)) (i_6 at_1:Int) (f:ac):Option (((List ac) × Int) ⊕ (((List ac)))):=(fixL (pA a b out_8 i_6 at_1 f) (out_8,i_6,at_1)).bind (yV a b out_8 i_6 at_1 f)
theorem ac9:List.drop 6 qO = .block 2 (.loop (ah (ah (aP qO 6)))) :: List.drop 7 qO:=by kernel_rfl
theorem anw (a b out_8 i_6 at_1 f K):∀ r,W (yV a b out_8 i_6 at_1 f r) (nE (lH a b) (lI a b) K)→DO a b out_8 i_6 at_1 f r (wK (aZ 2 (aE (au tP 88 (List.drop 7 qO) (aZ 1 (aE (au tP 88 (List.drop 3 jT) K) K))) (aZ 1 (aE (au tP 88 (List.drop 3 jT) K) K)))))
  | (out_10,i_8,at_3),h=>⟨(W4 a b out_10 i_8 at_3 f),(.refl _),(ahJ h)⟩
theorem abL {a b out_8 i_6 at_1 f K} (h:W (ua a b out_8 i_6 at_1 f) (nE (lH a b) (lI a b) K)):au tP 88 (List.drop 6 qO) (aZ 1 (aE (au tP 88 (List.drop 3 jT) K) K)) (akE a b out_8 i_6 at_1 f) :=
  au.at_ ac9 (au.cons_loop (aC.weak (aC.ent (.refl _) (aC.loopF (x:=ah (ah (aP qO 6))) (f:=pA a b out_8 i_6 at_1 f) (emb:=Hs a b out_8 i_6 at_1 f) (E:=DO a b out_8 i_6 at_1 f) (acK a b out_8 i_6 at_1 f) (UA a b out_8 i_6 at_1 f) (bM h (anw a b out_8 i_6 at_1 f K))))))
def WZ (a b out_7:(List ac)) (i_4:Int) (f:ac):St:=⟨[sv 0 (aU a),sv 1 (aU b),sv 5 (.row 0 14 0 out_7.length),sv 6 (i64 i_4),sv 7 (.ptr 1 14 0 0)],[(bZ 0 70 out_7),(1,some (.bx (aX f)))],2⟩
def o4 (a b out_7:(List ac)) (i_4:Int) (f:ac):PT _ (nE (lH a b) (lI a b)) (dK tP 88 qO 6 (fun K=>(aZ 1 (aE (au tP 88 (List.drop 3 jT) K) K)))):=.bd (eW f) false fun r_4=>.bf (!r_4) (.lf ((ij a b out_7 i_4).opt) (.exit 1) (WZ a b out_7 i_4 f)<|hh fun _ h=>lf (Iy h) (.cn [0,1,5,6])) (.lf (ua a b out_7 i_4 (out_7.length:Int) f) .normal _<|hh fun _ h=>l0 (abL h))
theorem S0 {a b out_7 i_4 f}:Ax tP 88 qO 3 (fun K=>(aZ 1 (aE (au tP 88 (List.drop 3 jT) K) K))) (o4 a b out_7 i_4 f) (WZ a b out_7 i_4 f):=.tD mixed [e51] [0,1,5,6,7,8,41,42,43,44,45,46,47,48,55,56,57,58,59,60,61,62] 3
def am0 (a b out_5:(List ac)) (i_3:Int):St:=⟨[sv 0 (aU a),sv 1 (aU b),sv 5 (.row 0 14 0 out_5.length),sv 6 (i64 i_3)],[(bZ 0 70 out_5)],1⟩
def pn (a b out_5:(List ac)) (i_3:Int):PT _ (nE (lH a b) (lI a b)) (dK tP 88 qO 3 (fun K=>(aZ 1 (aE (au tP 88 (List.drop 3 jT) K) K)))):=.bf (decide (i_3 < (a.length:Int))) (.g2 (0≤i_3) (i_3 < (a.length:Int))<|.lf ((o4 a b out_5 i_3 (a.getD (Int.toNat i_3) aW)).opt) .normal _<|hh fun _ h=>l0 (S0 h)) (.g2 (0≤(ai (i_3 - (a.length:Int)))) ((ai (i_3 - (a.length:Int))) < (b.length:Int))<|.lf ((o4 a b out_5 i_3 (b.getD (Int.toNat (ai (i_3 - (a.length:Int)))) aW)).opt) .normal _<|hh fun _ h=>l0 (S0 h))
theorem afW {a b out_5 i_3}:Ax tP 88 qO 0 (fun K=>(aZ 1 (aE (au tP 88 (List.drop 3 jT) K) K))) (pn a b out_5 i_3) (am0 a b out_5 i_3):=.tD mixed [] [0,1,5,6,7,41,42,43,44,45,46,47,48,55,56,57,58,59,60,61,62] 3
def amV (a b out_3:(List ac)) (i_2:Int):St:=⟨[sv 0 (aU a),sv 1 (aU b),sv 5 (.row 0 14 0 out_3.length),sv 6 (i64 i_2)],[(bZ 0 70 out_3)],1⟩
def BR (a b out_3:(List ac)) (i_2:Int):Option (((List ac) × Int) ⊕ (((List ac)))):=((pn a b out_3 i_2).opt)
theorem ahx:List.drop 2 jT = .block 1 (ah (aP jT 2)) :: List.drop 3 jT:=by kernel_rfl
theorem agB {a b out_3 i_2 K} (h:W (BR a b out_3 i_2) (nE (lH a b) (lI a b) K)):au tP 88 (List.drop 2 jT) K (amV a b out_3 i_2) :=
  au.at_ ahx (au.cons_block (au.en (afW h) (.refl _)))
def akL (a b out_2:(List ac)) (i_1:Int):St:=lH a b (out_2,i_1)
def pb (a b out_2:(List ac)) (i_1:Int):PT _ (nE (lH a b) (lI a b)) (dK tP 88 jT 2 iK):=.bf (decide (i_1 < (ai ((a.length:Int)+(b.length:Int))))) (.lf (BR a b out_2 i_1) .normal _<|hh fun _ h=>l0 (agB h)) (.lf (some (Sum.inr out_2)) (.exit 0) (lH a b (out_2,i_1))<|hh fun _=>lg (.cn [5]))
theorem aeq {a b out_2 i_1}:Ax tP 88 jT 0 iK (pb a b out_2 i_1) (akL a b out_2 i_1):=.tD mixed [] [0,1,5,6,41,42,43,44,45,46,47,48,55,56,57,58,59,60,61,62] 2
def pq (a b:(List ac)) (s:((List ac) × Int)):Option (((List ac) × Int) ⊕ (((List ac)))):=match s with | (out_2,i_1)=>(pb a b out_2 i_1).opt
theorem adx (a b s):Pp tP 88 (List.drop 0 jT) (lH a b s) (pq a b s) (cd (lH a b) (lI a b)):=fun K h=>match s,h with | (out_2,i_1),h=>(aeq h)
theorem Ur (a b):∀ r J K,lI a b r K→lI a b r (aE J K)
  | s,_,_,h=>h
def Xf (out_6:(List ac)):St:=⟨[sv 5 (.row 0 14 0 out_6.length)],[(bZ 0 70 out_6)],1⟩
def pd (out_6:(List ac)):PT _ (rE Vl) iK:=.lf (some out_6) .ret _<|hh fun _=>l0
theorem abr {out_6}:Ax tP 88 vR 4 iK (pd out_6) (Xf out_6):=.tE mixed [] [4] 2
def amH (a b:(List ac)):St:=⟨[sv 0 (aU a),sv 1 (aU b),sv 5 (.c .nil),sv 6 (i64 0)],[],0⟩
abbrev yG (a b:(List ac)) (r:(((List ac)))):Option ((List ac)):=match r with | out_4=>((pd out_4).opt)
def D4 (a b:(List ac)):Option ((List ac)):=(fixL (pq a b) (([]:List ac),0)).bind (yG a b)
theorem acv:List.drop 3 vR = .block 0 (.loop (ah (ah (aP vR 3)))) :: List.drop 4 vR:=by kernel_rfl
theorem an9 (a b K):∀ r,W (yG a b r) (rE Vl K)→lI a b r (wK (aZ 0 (aE (au tP 88 (List.drop 4 vR) K) K)))
  | out_4,h=>⟨(Xf out_4),(.refl _),(abr h)⟩
theorem ag2 {a b K} (h:W (D4 a b) (rE Vl K)):au tP 88 (List.drop 3 vR) K (amH a b) :=
  au.at_ acv (au.cons_loop (aC.weak (aC.ent (.trans (.nilrow 5 0 70 14 (aV aX aW []) (Nat.le_of_ble_eq_true rfl) rfl) (.cn [0,1,5,6])) (aC.loopF (x:=ah (ah (aP vR 3))) (f:=pq a b) (emb:=lH a b) (E:=lI a b) (adx a b) (Ur a b) (bM h (an9 a b K))))))
def adb (a b:(List ac)):St:=⟨[sv 0 (aU a),sv 1 (aU b)],[],0⟩
def Az (a b:(List ac)):PT _ (rE Vl) (dK tP 88 vR 3 iK):=.lf (D4 a b) .normal _<|hh fun _ h=>l0 (ag2 h)
theorem Yy {a b}:Ax tP 88 vR 0 iK (Az a b) (adb a b):=.tD mixed [] [0,1,5,6,41,42,43,44,45,46,47,48,55,56,57,58,59,60,61,62] 3
def vw (a b:(List ac)):Option ((List ac)):=(Az a b).opt
def Gs:bW:=fj gn gn vw ([]:List ac) LG
theorem NM:bg tP 24 Gs:=dv Tryz.f24 (ao Tryz.f24) [.tmp 4] 88 fun u0 u1 y h=>@Yy u0 u1 _ (bn.2 ⟨y,h,(cx (.row 0 14 0 y.length) (⟨_,_,_,rfl,rfl,rfl,fun _ _=>rfl,fun _ i hi d hd=>mt _ d hd⟩))⟩)
abbrev e24:FE tP:=⟨24, .pure Gs,NM⟩
noncomputable def BE:List Code:=aA (ao Tryz.f5)
noncomputable def anL:List Code:=aA (ah (ah (aP BE 3)))
def J6 (x_1:(List ac)):bN:=.own true 70 14 (x_1).length (aV aX aW x_1)
def z5R (x_1:(List ac)):St:=⟨[sv 4 (.row 0 14 0 x_1.length)],[(bZ 0 70 x_1)],1⟩
def L6 (l:(List aQ)) (n:(List Int)) (s:((List ac) × Int)):St:=match s with | (out_1,i_1)=>⟨[sv 0 (eN l),sv 1 (fC n),sv 5 (.row 0 14 0 out_1.length),sv 6 (i64 i_1)],[(bZ 0 70 out_1)],1⟩
def anO (l:(List aQ)) (n:(List Int)) (s:(List ac)):St:=match s with | out_2=>⟨[sv 1 (fC n),sv 5 (.row 0 14 0 out_2.length)],[(bZ 0 70 out_2)],1⟩
def IB (l:(List aQ)) (n:(List Int)) (r:(((List ac)))) (K:KT):Prop:=match r with | s=>K (.exit 0) (anO l n s)
def apt (l:(List aQ)) (n:(List Int)) (out_1:(List ac)) (i_1:Int):St:=L6 l n (out_1,i_1)
def nU (l:(List aQ)) (n:(List Int)) (out_1:(List ac)) (i_1:Int):PT _ (nE (L6 l n) (IB l n)) iK:=.bf (bif (decide (i_1 < (l.length:Int))) then (decide (i_1 < 12)) else false) (.g2 (0≤i_1) (i_1 < (l.length:Int))<|.tv ((2:Int)≠0) (by decide)<|.bf ((Int.tmod i_1 2) == 0) (.bd (fU ((l.getD (Int.toNat i_1) bq).Kind) 6) 0 fun r_4=>.bd (AU (aQ.mk (l.getD (Int.toNat i_1) bq).Issuer (l.getD (Int.toNat i_1) bq).Number (l.getD (Int.toNat i_1) bq).Version (l.getD (Int.toNat i_1) bq).Withdrawn 0 (ai (4+r_4)) (l.getD (Int.toNat i_1) bq).State (l.getD (Int.toNat i_1) bq).Seat (l.getD (Int.toNat i_1) bq).From (l.getD (Int.toNat i_1) bq).Length (l.getD (Int.toNat i_1) bq).Share (l.getD (Int.toNat i_1) bq).Amount (l.getD (Int.toNat i_1) bq).Ref)) aW fun r_5=>.tv (out_1.length = out_1.length) rfl<|.gc (out_1.length+1) 112<|.lf (some (Sum.inl ((out_1++([r_5]:List ac)),(ai (i_1+1))))) .normal (⟨[sv 0 (eN l),sv 1 (fC n),sv 5 (.row 0 14 0 (out_1.length+1)),sv 6 (i64 (ai (i_1+1))),un 13,un 14],[(0,some (.row 70 14 (out_1.length+1) (fun i=>bif Nat.blt i out_1.length then (fH out_1) i else (fun i=>(dj 14 (aX r_5)) (0+i)) (i - out_1.length))))],1⟩)<|hh fun _=>lg (.of (.q rfl (.q rfl (.cons rfl (.rown (bS rfl rfl)) (.q rfl .nil)))) (.row rfl (ae.app .b (ae.zero (ae.l1 (enc:=aX) (z:=aW) 14 r_5 rfl))) .nil rfl) rfl)) (.bd (AU (aQ.mk (l.getD (Int.toNat i_1) bq).Issuer (l.getD (Int.toNat i_1) bq).Number (l.getD (Int.toNat i_1) bq).Version (l.getD (Int.toNat i_1) bq).Withdrawn 0 (l.getD (Int.toNat i_1) bq).Kind (l.getD (Int.toNat i_1) bq).State (l.getD (Int.toNat i_1) bq).Seat (l.getD (Int.toNat i_1) bq).From (l.getD (Int.toNat i_1) bq).Length (l.getD (Int.toNat i_1) bq).Share (l.getD (Int.toNat i_1) bq).Amount (l.getD (Int.toNat i_1) bq).Ref)) aW fun r_6=>.tv (out_1.length = out_1.length) rfl<|.gc (out_1.length+1) 112<|.lf (some (Sum.inl ((out_1++([r_6]:List ac)),(ai (i_1+1))))) .normal (⟨[sv 0 (eN l),sv 1 (fC n),sv 5 (.row 0 14 0 (out_1.length+1)),sv 6 (i64 (ai (i_1+1))),un 13,un 14],[(0,some (.row 70 14 (out_1.length+1) (fun i=>bif Nat.blt i out_1.length then (fH out_1) i else (fun i=>(dj 14 (aX r_6)) (0+i)) (i - out_1.length))))],1⟩)<|hh fun _=>lg (.of (.q rfl (.q rfl (.cons rfl (.rown (bS rfl rfl)) (.q rfl .nil)))) (.row rfl (ae.app .b (ae.zero (ae.l1 (enc:=aX) (z:=aW) 14 r_6 rfl))) .nil rfl) rfl))) (.lf (some (Sum.inr out_1)) (.exit 0) _<|hh fun _=>lx [1,5] [13,14] [sv 0 (eN l),sv 6 (i64 i_1)])
theorem al4 {l n out_1 i_1}:Ax tP 46 anL 0 iK (nU l n out_1 i_1) (apt l n out_1 i_1):=.tE mixed [eH,e21] [0,1,5,6,13,14] 4
def nM (l:(List aQ)) (n:(List Int)) (s:((List ac) × Int)):Option (((List ac) × Int) ⊕ (((List ac)))):=match s with | (out_1,i_1)=>(nU l n out_1 i_1).opt
theorem akU (l n s):Pp tP 46 (List.drop 0 anL) (L6 l n s) (nM l n s) (cd (L6 l n) (IB l n)):=fun K h=>match s,h with | (out_1,i_1),h=>(al4 h)
theorem WY (l n):∀ r J K,IB l n r K→IB l n r (aE J K)
  | s,_,_,h=>h
def aao (n:(List Int)) (out_3:(List ac)):St:=⟨[sv 1 (fC n),sv 5 (.row 0 14 0 out_3.length)],[(bZ 0 70 out_3)],1⟩
def nY (n:(List Int)) (out_3:(List ac)):PT _ (rE z5R) iK:=.bf (decide (0 < (n.length:Int))) (.lk bC n fun L1_=>.bd (LP L1_) [] fun r_11=>.tv (aK aX dR 14 14 r_11.length (fun i=>(fH r_11) (0+i))) (ae.ok cE (ae.zero .b))<|.ls (a:=lst dR r_11.length (fun i=>(fH r_11) (0+i))) (lr cE (ae.zero .b)) fun L2_=>.bd (P6 L2_ 1) [] fun r_12=>.tv (out_3.length = out_3.length) rfl<|.gc (out_3.length+r_12.length) 112<|.tv (aK aX dR 14 14 (out_3.length+r_12.length) (fun i=>(fun i=>bif Nat.blt i out_3.length then (fH out_3) i else (fun i=>(fH r_12) (0+i)) (i - out_3.length)) (0+i))) (ae.ok cE (ae.zero (ae.app .b (ae.zero .b))))<|.tv (aK aX dR 14 0 0 (fun _=>[])) (ae.okN cE (ae.nil aX aW _))<|.ls (a:=lst dR (out_3.length+r_12.length) (fun i=>(fun i=>bif Nat.blt i out_3.length then (fH out_3) i else (fun i=>(fH r_12) (0+i)) (i - out_3.length)) (0+i))) (lr cE (ae.zero (ae.app .b (ae.zero .b)))) fun L3_=>.ls (a:=lst dR 0 (fun _=>[])) (lr cE (ae.nil aX aW _)) fun L4_=>.bd (vw L3_ L4_) [] fun r_13=>.lf (some r_13) .ret _<|hh fun _=>l0) (.tv (aK aX dR 14 14 out_3.length (fun i=>(fH out_3) (0+i))) (ae.ok cE (ae.zero .b))<|.tv (aK aX dR 14 0 0 (fun _=>[])) (ae.okN cE (ae.nil aX aW _))<|.ls (a:=lst dR out_3.length (fun i=>(fH out_3) (0+i))) (lr cE (ae.zero .b)) fun L5_=>.ls (a:=lst dR 0 (fun _=>[])) (lr cE (ae.nil aX aW _)) fun L6_=>.bd (vw L5_ L6_) [] fun r_14=>.lf (some r_14) .ret _<|hh fun _=>l0)
theorem anz {n out_3}:Ax tP 46 BE 4 iK (nY n out_3) (aao n out_3):=.tE mixed [Om,fK,e24] [4] 4
def apm (l:(List aQ)) (n:(List Int)):St:=⟨[sv 0 (eN l),sv 1 (fC n),sv 5 (.c .nil),sv 6 (i64 0)],[],0⟩
abbrev xG (l:(List aQ)) (n:(List Int)) (r:(((List ac)))):Option ((List ac)):=match r with | out_2=>((nY n out_2).opt)
def Af (l:(List aQ)) (n:(List Int)):Option ((List ac)):=(fixL (nM l n) (([]:List ac),0)).bind (xG l n)
theorem amy:List.drop 3 BE = .block 0 (.loop (ah (ah (aP BE 3)))) :: List.drop 4 BE:=by kernel_rfl
theorem apd (l n K):∀ r,W (xG l n r) (rE z5R K)→IB l n r (wK (aZ 0 (aE (au tP 46 (List.drop 4 BE) K) K)))
  | out_2,h=>⟨(aao n out_2),(.refl _),(anz h)⟩
theorem aiO {l n K} (h:W (Af l n) (rE z5R K)):au tP 46 (List.drop 3 BE) K (apm l n) :=
  au.at_ amy (au.cons_loop (aC.weak (aC.ent (.trans (.nilrow 5 0 70 14 (aV aX aW []) (Nat.le_of_ble_eq_true rfl) rfl) (.cn [0,1,5,6])) (aC.loopF (x:=ah (ah (aP BE 3))) (f:=nM l n) (emb:=L6 l n) (E:=IB l n) (akU l n) (WY l n) (bM h (apd l n K))))))
def aoA (l:(List aQ)) (n:(List Int)):St:=⟨[sv 0 (eN l),sv 1 (fC n)],[],0⟩
def AK (l:(List aQ)) (n:(List Int)):PT _ (rE z5R) (dK tP 46 BE 3 iK):=.lf (Af l n) .normal _<|hh fun _ h=>l0 (aiO h)
theorem alN {l n}:Ax tP 46 BE 0 iK (AK l n) (aoA l n):=.tD mixed [] [0,1,5,6,13,14] 3
def yO (l:(List aQ)) (n:(List Int)):Option ((List ac)):=(AK l n).opt
def Ch:bW:=fj wr ZL yO ([]:List ac) J6
theorem Lo:bg tP 5 Ch:=dv Tryz.f5 (ao Tryz.f5) [.tmp 4] 46 fun u0 u1 y h=>@alN u0 u1 _ (bn.2 ⟨y,h,(cx (.row 0 14 0 y.length) (⟨_,_,_,rfl,rfl,rfl,fun _ _=>rfl,fun _ i hi d hd=>mt _ d hd⟩))⟩)
abbrev e5:FE tP:=⟨5, .pure Ch,Lo⟩
noncomputable def aov:List Code:=aA (ao Tryz.f63)
def O0 (x_1:Int):bN:=.data (.c (.lit (.int .u64 x_1)))
def aqi (x_1:Int):St:=⟨[sv 2 (.c (.lit (.int .u64 x_1)))],[],0⟩
def aix (n:Int):St:=⟨[sv 0 (i64 n)],[],0⟩
def sa (n:Int):PT _ (rE aqi) iK:=.bf (decide (n < 0)) (.lf (some (IntKind.u64.wrap ((IntKind.u64.wrap (ai (0 - (ai (n+1)))))+1))) .ret _<|hh fun _=>l0) (.lf (some (IntKind.u64.wrap n)) .ret _<|hh fun _=>l0)
theorem ac8 {n}:Ax tP 12 aov 0 iK (sa n) (aix n):=.tE mixed [] [2] 5
def l9 (n:Int):Option (Int):=(sa n).opt
def Jj:bW:=dH (aI .i64) l9 (0:Int) O0
theorem PR:bg tP 63 Jj:=cJ Tryz.f63 (ao Tryz.f63) [.tmp 2] 12 fun u0 y h=>@ac8 u0 _ (bn.2 ⟨y,h,(cx (.c (.lit (.int .u64 y))) (VLe.rfl' _))⟩)
abbrev e63:FE tP:=⟨63, .pure Jj,PR⟩
noncomputable def zO:List Code:=aA (ao Tryz.f123)
def GI (x_5:Int):bN:=.data (i64 x_5)
def Pv (x_5:Int):St:=⟨[sv 2 (i64 x_5)],[],0⟩
def agQ (x_4 n_2:Int):St:=⟨[sv 0 (.c (.lit (.int .u64 x_4))),sv 2 (i64 n_2)],[],0⟩
def oh (x_4 n_2:Int):PT _ (rE Pv) iK:=.g2 (0≤(IntKind.u8.wrap x_4)) ((IntKind.u8.wrap x_4) < ((am [0,1,2,2,3,3,3,3,4,4,4,4,4,4,4,4,5,5,5,5,5,5,5,5,5,5,5,5,5,5,5,5,6,6,6,6,6,6,6,6,6,6,6,6,6,6,6,6,6,6,6,6,6,6,6,6,6,6,6,6,6,6,6,6,7,7,7,7,7,7,7,7,7,7,7,7,7,7,7,7,7,7,7,7,7,7,7,7,7,7,7,7,7,7,7,7,7,7,7,7,7,7,7,7,7,7,7,7,7,7,7,7,7,7,7,7,7,7,7,7,7,7,7,7,7,7,7,7,8,8,8,8,8,8,8,8,8,8,8,8,8,8,8,8,8,8,8,8,8,8,8,8,8,8,8,8,8,8,8,8,8,8,8,8,8,8,8,8,8,8,8,8,8,8,8,8,8,8,8,8,8,8,8,8,8,8,8,8,8,8,8,8,8,8,8,8,8,8,8,8,8,8,8,8,8,8,8,8,8,8,8,8,8,8,8,8,8,8,8,8,8,8,8,8,8,8,8,8,8,8,8,8,8,8,8,8,8,8,8,8,8,8,8,8,8,8,8,8,8,8,8,8,8,8,8,8]).size:Int))<|.lf (some (ai (n_2+(ai (((am [0,1,2,2,3,3,3,3,4,4,4,4,4,4,4,4,5,5,5,5,5,5,5,5,5,5,5,5,5,5,5,5,6,6,6,6,6,6,6,6,6,6,6,6,6,6,6,6,6,6,6,6,6,6,6,6,6,6,6,6,6,6,6,6,7,7,7,7,7,7,7,7,7,7,7,7,7,7,7,7,7,7,7,7,7,7,7,7,7,7,7,7,7,7,7,7,7,7,7,7,7,7,7,7,7,7,7,7,7,7,7,7,7,7,7,7,7,7,7,7,7,7,7,7,7,7,7,7,8,8,8,8,8,8,8,8,8,8,8,8,8,8,8,8,8,8,8,8,8,8,8,8,8,8,8,8,8,8,8,8,8,8,8,8,8,8,8,8,8,8,8,8,8,8,8,8,8,8,8,8,8,8,8,8,8,8,8,8,8,8,8,8,8,8,8,8,8,8,8,8,8,8,8,8,8,8,8,8,8,8,8,8,8,8,8,8,8,8,8,8,8,8,8,8,8,8,8,8,8,8,8,8,8,8,8,8,8,8,8,8,8,8,8,8,8,8,8,8,8,8,8,8,8,8,8,8]).data.getD (Int.toNat (IntKind.u8.wrap x_4)) 0).toNat:Int))))) .ret _<|hh fun _=>l0
theorem PV {x_4 n_2}:Ax tP 25 zO 7 iK (oh x_4 n_2) (agQ x_4 n_2):=.tE mixed [] [2] 2
def ae6 (x_3 n_1:Int):St:=⟨[sv 0 (.c (.lit (.int .u64 x_3))),sv 2 (i64 n_1)],[],0⟩
def oP (x_3 n_1:Int):PT _ (rE Pv) (dK tP 25 zO 7 iK):=.bf (decide (256≤x_3)) (.tv (0≤(8:Int)) (by decide)<|.lf ((oh (Int.fdiv x_3 (2 ^ min (Int.toNat (8:Int)) 64)) (ai (n_1+8))).opt) .normal _<|hh fun _ h=>l0 (PV h)) (.lf ((oh x_3 n_1).opt) .normal _<|hh fun _ h=>l0 (PV h))
theorem PH {x_3 n_1}:Ax tP 25 zO 5 iK (oP x_3 n_1) (ae6 x_3 n_1):=.tD mixed [] [0,2] 2
def ahy (x_2 n:Int):St:=⟨[sv 0 (.c (.lit (.int .u64 x_2))),sv 2 (i64 n)],[],0⟩
def ow (x_2 n:Int):PT _ (rE Pv) (dK tP 25 zO 5 iK):=.bf (decide (65536≤x_2)) (.tv (0≤(16:Int)) (by decide)<|.lf ((oP (Int.fdiv x_2 (2 ^ min (Int.toNat (16:Int)) 64)) (ai (n+16))).opt) .normal _<|hh fun _ h=>l0 (PH h)) (.lf ((oP x_2 n).opt) .normal _<|hh fun _ h=>l0 (PH h))
theorem Rh {x_2 n}:Ax tP 25 zO 3 iK (ow x_2 n) (ahy x_2 n):=.tD mixed [] [0,2] 2
def agr (x_1:Int):St:=⟨[sv 0 (.c (.lit (.int .u64 x_1)))],[],0⟩
def wi (x_1:Int):PT _ (rE Pv) (dK tP 25 zO 3 iK):=.bf (decide (4294967296≤x_1)) (.tv (0≤(32:Int)) (by decide)<|.lf ((ow (Int.fdiv x_1 (2 ^ min (Int.toNat (32:Int)) 64)) 32).opt) .normal _<|hh fun _ h=>l0 (Rh h)) (.lf ((ow x_1 0).opt) .normal _<|hh fun _ h=>l0 (Rh h))
theorem ZY {x_1}:Ax tP 25 zO 0 iK (wi x_1) (agr x_1):=.tD mixed [] [0,2] 3
def zV (x_1:Int):Option (Int):=(wi x_1).opt
def xr:bW:=dH (aI .u64) zV (0:Int) GI
theorem HN:bg tP 123 xr:=cJ Tryz.f123 (ao Tryz.f123) [.tmp 2] 25 fun u0 y h=>@ZY u0 _ (bn.2 ⟨y,h,(cx (i64 y) (VLe.rfl' _))⟩)
abbrev aqI:FE tP:=⟨123, .pure xr,HN⟩
noncomputable def aje:List Code:=aA (ao Tryz.f133)
def uj (x_2:Int):bN:=.data (i64 x_2)
def apX (x_2:Int):St:=⟨[sv 2 (i64 x_2)],[],0⟩
def adX (x_1:Int):St:=⟨[sv 0 (.c (.lit (.int .u64 x_1)))],[],0⟩
def l7 (x_1:Int):PT _ (rE apX) iK:=.bd (zV x_1) 0 fun r_2=>.lf (some (ai (64 - r_2))) .ret _<|hh fun _=>l0
theorem Z3 {x_1}:Ax tP 6 aje 0 iK (l7 x_1) (adX x_1):=.tE mixed [aqI] [2] 3
def oS (x_1:Int):Option (Int):=(l7 x_1).opt
def m9:bW:=dH (aI .u64) oS (0:Int) uj
theorem wM:bg tP 133 m9:=cJ Tryz.f133 (ao Tryz.f133) [.tmp 2] 6 fun u0 y h=>@Z3 u0 _ (bn.2 ⟨y,h,(cx (i64 y) (VLe.rfl' _))⟩)
abbrev aqW:FE tP:=⟨133, .pure m9,wM⟩
noncomputable def gi:List Code:=aA (ao Tryz.f107)
noncomputable def WR:List Code:=aA (ah (ah (aP gi 17)))
noncomputable def VC:List Code:=aA (ah (ah (aP gi 21)))
def GB (x_1:(Int × Int)):bN:=.data (.tup [(.c (.lit (.int .u64 x_1.1))),(.c (.lit (.int .u64 x_1.2)))])
def EK (x_1:(Int × Int)):St:=⟨[sv 6 (.c (.lit (.int .u64 x_1.1))),sv 7 (.c (.lit (.int .u64 x_1.2)))],[],0⟩
def Dr (y_1 s_1 yn1 yn0 un32 un1 un0 q1 rhat:Int) (s:(Int × Int)):St:=match s with | (q1_2,rhat_1)=>⟨[sv 2 (.c (.lit (.int .u64 y_1))),sv 8 (.c (.lit (.int .u64 s_1))),sv 9 (.c (.lit (.int .u64 yn1))),sv 10 (.c (.lit (.int .u64 yn0))),sv 11 (.c (.lit (.int .u64 un32))),sv 13 (.c (.lit (.int .u64 un1))),sv 14 (.c (.lit (.int .u64 un0))),sv 15 (.c (.lit (.int .u64 q1_2))),sv 16 (.c (.lit (.int .u64 rhat_1)))],[],0⟩
def P3 (y_1 s_1 yn1 yn0 un32 un1 un0 q1 rhat:Int) (s:Int):St:=match s with | q1_1=>⟨[sv 2 (.c (.lit (.int .u64 y_1))),sv 8 (.c (.lit (.int .u64 s_1))),sv 9 (.c (.lit (.int .u64 yn1))),sv 10 (.c (.lit (.int .u64 yn0))),sv 11 (.c (.lit (.int .u64 un32))),sv 13 (.c (.lit (.int .u64 un1))),sv 14 (.c (.lit (.int .u64 un0))),sv 15 (.c (.lit (.int .u64 q1_1)))],[],0⟩
def yi (y_1 s_1 yn1 yn0 un32 un1 un0 q1 rhat:Int) (r:((Int))) (K:KT):Prop:=match r with | s=>K (.exit 0) (P3 y_1 s_1 yn1 yn0 un32 un1 un0 q1 rhat s)
def aeO (y_1 s_1 yn1 yn0 un32 un1 un0 q1_2 rhat_1:Int):St:=Dr y_1 s_1 yn1 yn0 un32 un1 un0 (0:Int) (0:Int) (q1_2,rhat_1)
def wP (y_1 s_1 yn1 yn0 un32 un1 un0 q1_2 rhat_1:Int):PT _ (nE (Dr y_1 s_1 yn1 yn0 un32 un1 un0 (0:Int) (0:Int)) (yi y_1 s_1 yn1 yn0 un32 un1 un0 (0:Int) (0:Int))) iK:=.bf (bif (decide (4294967296≤q1_2)) then true else (decide ((IntKind.u64.wrap ((IntKind.u64.wrap (4294967296*rhat_1))+un1)) < (IntKind.u64.wrap (q1_2*yn0))))) (.bf (decide (4294967296≤(IntKind.u64.wrap (rhat_1+yn1)))) (.lf (some (Sum.inr (IntKind.u64.wrap (q1_2 - 1)))) (.exit 0) _<|hh fun _=>lx [2,8,9,10,11,13,14,15] [70,71,72,73,74,75,76,77] [sv 16 (.c (.lit (.int .u64 (IntKind.u64.wrap (rhat_1+yn1)))))]) (.lf (some (Sum.inl ((IntKind.u64.wrap (q1_2 - 1)),(IntKind.u64.wrap (rhat_1+yn1))))) .normal _<|hh fun _=>lx [2,8,9,10,11,13,14,15,16] [70,71,72,73,74,75,76,77] [])) (.lf (some (Sum.inr q1_2)) (.exit 0) _<|hh fun _=>lx [2,8,9,10,11,13,14,15] [70,71,72,73,74,75,76,77] [sv 16 (.c (.lit (.int .u64 rhat_1)))])
theorem Yj {y_1 s_1 yn1 yn0 un32 un1 un0 q1_2 rhat_1}:Ax tP 135 WR 0 iK (wP y_1 s_1 yn1 yn0 un32 un1 un0 q1_2 rhat_1) (aeO y_1 s_1 yn1 yn0 un32 un1 un0 q1_2 rhat_1):=.tE mixed [] [2,8,9,10,11,13,14,15,16,70,71,72,73,74,75,76,77,105,106,107,108,109,110,111,112] 3
def ox (y_1 s_1 yn1 yn0 un32 un1 un0 q1 rhat:Int) (s:(Int × Int)):Option ((Int × Int) ⊕ ((Int))):=match s with | (q1_2,rhat_1)=>(wP y_1 s_1 yn1 yn0 un32 un1 un0 q1_2 rhat_1).opt
theorem YK (y_1 s_1 yn1 yn0 un32 un1 un0 q1 rhat s):Pp tP 135 (List.drop 0 WR) (Dr y_1 s_1 yn1 yn0 un32 un1 un0 q1 rhat s) (ox y_1 s_1 yn1 yn0 un32 un1 un0 q1 rhat s) (cd (Dr y_1 s_1 yn1 yn0 un32 un1 un0 q1 rhat) (yi y_1 s_1 yn1 yn0 un32 un1 un0 q1 rhat)):=fun K h=>match s,h with | (q1_2,rhat_1),h=>(Yj h)
theorem R7 (y_1 s_1 yn1 yn0 un32 un1 un0 q1 rhat):∀ r J K,yi y_1 s_1 yn1 yn0 un32 un1 un0 q1 rhat r K→yi y_1 s_1 yn1 yn0 un32 un1 un0 q1 rhat r (aE J K)
  | s,_,_,h=>h
def B2 (y_1 s_1 yn1 yn0 un0 q1_1 rhat_2 un21 q0:Int) (s:(Int × Int)):St:=match s with | (rhat_3,q0_2)=>⟨[sv 2 (.c (.lit (.int .u64 y_1))),sv 8 (.c (.lit (.int .u64 s_1))),sv 9 (.c (.lit (.int .u64 yn1))),sv 10 (.c (.lit (.int .u64 yn0))),sv 14 (.c (.lit (.int .u64 un0))),sv 15 (.c (.lit (.int .u64 q1_1))),sv 16 (.c (.lit (.int .u64 rhat_3))),sv 17 (.c (.lit (.int .u64 un21))),sv 18 (.c (.lit (.int .u64 q0_2)))],[],0⟩
def Ro (y_1 s_1 yn1 yn0 un0 q1_1 rhat_2 un21 q0:Int) (s:Int):St:=match s with | q0_1=>⟨[sv 2 (.c (.lit (.int .u64 y_1))),sv 8 (.c (.lit (.int .u64 s_1))),sv 14 (.c (.lit (.int .u64 un0))),sv 15 (.c (.lit (.int .u64 q1_1))),sv 17 (.c (.lit (.int .u64 un21))),sv 18 (.c (.lit (.int .u64 q0_1)))],[],0⟩
def ye (y_1 s_1 yn1 yn0 un0 q1_1 rhat_2 un21 q0:Int) (r:((Int))) (K:KT):Prop:=match r with | s=>K (.exit 2) (Ro y_1 s_1 yn1 yn0 un0 q1_1 rhat_2 un21 q0 s)
def adS (y_1 s_1 yn1 yn0 un0 q1_1 rhat_3 un21 q0_2:Int):St:=B2 y_1 s_1 yn1 yn0 un0 q1_1 (0:Int) un21 (0:Int) (rhat_3,q0_2)
def wh (y_1 s_1 yn1 yn0 un0 q1_1 rhat_3 un21 q0_2:Int):PT _ (nE (B2 y_1 s_1 yn1 yn0 un0 q1_1 (0:Int) un21 (0:Int)) (ye y_1 s_1 yn1 yn0 un0 q1_1 (0:Int) un21 (0:Int))) iK:=.bf (bif (decide (4294967296≤q0_2)) then true else (decide ((IntKind.u64.wrap ((IntKind.u64.wrap (4294967296*rhat_3))+un0)) < (IntKind.u64.wrap (q0_2*yn0))))) (.bf (decide (4294967296≤(IntKind.u64.wrap (rhat_3+yn1)))) (.lf (some (Sum.inr (IntKind.u64.wrap (q0_2 - 1)))) (.exit 2) _<|hh fun _=>lx [2,8,14,15,17,18] [105,106,107,108,109,110,111,112] [sv 9 (.c (.lit (.int .u64 yn1))),sv 10 (.c (.lit (.int .u64 yn0))),sv 16 (.c (.lit (.int .u64 (IntKind.u64.wrap (rhat_3+yn1)))))]) (.lf (some (Sum.inl ((IntKind.u64.wrap (rhat_3+yn1)),(IntKind.u64.wrap (q0_2 - 1))))) .normal _<|hh fun _=>lx [2,8,9,10,14,15,16,17,18] [105,106,107,108,109,110,111,112] [])) (.lf (some (Sum.inr q0_2)) (.exit 2) _<|hh fun _=>lx [2,8,14,15,17,18] [105,106,107,108,109,110,111,112] [sv 9 (.c (.lit (.int .u64 yn1))),sv 10 (.c (.lit (.int .u64 yn0))),sv 16 (.c (.lit (.int .u64 rhat_3)))])
theorem aaf {y_1 s_1 yn1 yn0 un0 q1_1 rhat_3 un21 q0_2}:Ax tP 135 VC 0 iK (wh y_1 s_1 yn1 yn0 un0 q1_1 rhat_3 un21 q0_2) (adS y_1 s_1 yn1 yn0 un0 q1_1 rhat_3 un21 q0_2):=.tE mixed [] [2,8,9,10,14,15,16,17,18,105,106,107,108,109,110,111,112] 3
def oB (y_1 s_1 yn1 yn0 un0 q1_1 rhat_2 un21 q0:Int) (s:(Int × Int)):Option ((Int × Int) ⊕ ((Int))):=match s with | (rhat_3,q0_2)=>(wh y_1 s_1 yn1 yn0 un0 q1_1 rhat_3 un21 q0_2).opt
theorem Yz (y_1 s_1 yn1 yn0 un0 q1_1 rhat_2 un21 q0 s):Pp tP 135 (List.drop 0 VC) (B2 y_1 s_1 yn1 yn0 un0 q1_1 rhat_2 un21 q0 s) (oB y_1 s_1 yn1 yn0 un0 q1_1 rhat_2 un21 q0 s) (cd (B2 y_1 s_1 yn1 yn0 un0 q1_1 rhat_2 un21 q0) (ye y_1 s_1 yn1 yn0 un0 q1_1 rhat_2 un21 q0)):=fun K h=>match s,h with | (rhat_3,q0_2),h=>(aaf h)
theorem Sj (y_1 s_1 yn1 yn0 un0 q1_1 rhat_2 un21 q0):∀ r J K,ye y_1 s_1 yn1 yn0 un0 q1_1 rhat_2 un21 q0 r K→ye y_1 s_1 yn1 yn0 un0 q1_1 rhat_2 un21 q0 r (aE J K)
  | s,_,_,h=>h
def S7 (y_1 s_1 un0 q1_1 un21 q0_1:Int):St:=Ro y_1 s_1 (0:Int) (0:Int) un0 q1_1 (0:Int) un21 (0:Int) q0_1
def wD (y_1 s_1 un0 q1_1 un21 q0_1:Int):PT _ (rE EK) iK:=.g1 (0≤s_1)<|.lf (some ((IntKind.u64.wrap ((IntKind.u64.wrap (q1_1*4294967296))+q0_1)),(Int.fdiv (IntKind.u64.wrap ((IntKind.u64.wrap ((IntKind.u64.wrap (un21*4294967296))+un0)) - (IntKind.u64.wrap (q0_1*y_1)))) (2 ^ min (Int.toNat s_1) 64)))) .ret _<|hh fun _=>l0
theorem YR {y_1 s_1 un0 q1_1 un21 q0_1}:Ax tP 135 gi 22 iK (wD y_1 s_1 un0 q1_1 un21 q0_1) (S7 y_1 s_1 un0 q1_1 un21 q0_1):=.tE mixed [] [6,7] 2
def adG (y_1 s_1 yn1 yn0 un0 q1_1 rhat_2 un21 q0:Int):St:=⟨[sv 2 (.c (.lit (.int .u64 y_1))),sv 8 (.c (.lit (.int .u64 s_1))),sv 9 (.c (.lit (.int .u64 yn1))),sv 10 (.c (.lit (.int .u64 yn0))),sv 14 (.c (.lit (.int .u64 un0))),sv 15 (.c (.lit (.int .u64 q1_1))),sv 16 (.c (.lit (.int .u64 rhat_2))),sv 17 (.c (.lit (.int .u64 un21))),sv 18 (.c (.lit (.int .u64 q0)))],[],0⟩
abbrev rZ (y_1 s_1 yn1 yn0 un0 q1_1 rhat_2 un21 q0:Int) (r:((Int))):Option ((Int × Int)):=match r with | q0_1=>((wD y_1 s_1 un0 q1_1 un21 q0_1).opt)
def wU (y_1 s_1 yn1 yn0 un0 q1_1 rhat_2 un21 q0:Int):Option ((Int × Int)):=(fixL (oB y_1 s_1 yn1 yn0 un0 q1_1 rhat_2 un21 q0) (rhat_2,q0)).bind (rZ y_1 s_1 yn1 yn0 un0 q1_1 rhat_2 un21 q0)
theorem Zq:List.drop 21 gi = .block 2 (.loop (ah (ah (aP gi 21)))) :: List.drop 22 gi:=by kernel_rfl
theorem adC (y_1 s_1 yn1 yn0 un0 q1_1 rhat_2 un21 q0 K):∀ r,W (rZ y_1 s_1 yn1 yn0 un0 q1_1 rhat_2 un21 q0 r) (rE EK K)→ye y_1 s_1 yn1 yn0 un0 q1_1 rhat_2 un21 q0 r (wK (aZ 2 (aE (au tP 135 (List.drop 22 gi) K) K)))
  | q0_1,h=>⟨(S7 y_1 s_1 un0 q1_1 un21 q0_1),(.refl _),(YR h)⟩
theorem Zz {y_1 s_1 yn1 yn0 un0 q1_1 rhat_2 un21 q0 K} (h:W (wU y_1 s_1 yn1 yn0 un0 q1_1 rhat_2 un21 q0) (rE EK K)):au tP 135 (List.drop 21 gi) K (adG y_1 s_1 yn1 yn0 un0 q1_1 rhat_2 un21 q0) :=
  au.at_ Zq (au.cons_loop (aC.weak (aC.ent (.refl _) (aC.loopF (x:=ah (ah (aP gi 21))) (f:=oB y_1 s_1 yn1 yn0 un0 q1_1 rhat_2 un21 q0) (emb:=B2 y_1 s_1 yn1 yn0 un0 q1_1 rhat_2 un21 q0) (E:=ye y_1 s_1 yn1 yn0 un0 q1_1 rhat_2 un21 q0) (Yz y_1 s_1 yn1 yn0 un0 q1_1 rhat_2 un21 q0) (Sj y_1 s_1 yn1 yn0 un0 q1_1 rhat_2 un21 q0) (bM h (adC y_1 s_1 yn1 yn0 un0 q1_1 rhat_2 un21 q0 K))))))
def SN (y_1 s_1 yn1 yn0 un32 un1 un0 q1_1:Int):St:=P3 y_1 s_1 yn1 yn0 un32 un1 un0 (0:Int) (0:Int) q1_1
def wl (y_1 s_1 yn1 yn0 un32 un1 un0 q1_1:Int):PT _ (rE EK) (dK tP 135 gi 21 iK):=.g1 (yn1≠0)<|.lf (wU y_1 s_1 yn1 yn0 un0 q1_1 (IntKind.u64.wrap ((IntKind.u64.wrap ((IntKind.u64.wrap ((IntKind.u64.wrap (un32*4294967296))+un1)) - (IntKind.u64.wrap (q1_1*y_1)))) - (IntKind.u64.wrap ((IntKind.u64.wrap (Int.tdiv (IntKind.u64.wrap ((IntKind.u64.wrap ((IntKind.u64.wrap (un32*4294967296))+un1)) - (IntKind.u64.wrap (q1_1*y_1)))) yn1))*yn1)))) (IntKind.u64.wrap ((IntKind.u64.wrap ((IntKind.u64.wrap (un32*4294967296))+un1)) - (IntKind.u64.wrap (q1_1*y_1)))) (IntKind.u64.wrap (Int.tdiv (IntKind.u64.wrap ((IntKind.u64.wrap ((IntKind.u64.wrap (un32*4294967296))+un1)) - (IntKind.u64.wrap (q1_1*y_1)))) yn1))) .normal _<|hh fun _ h=>l0 (Zz h)
theorem YF {y_1 s_1 yn1 yn0 un32 un1 un0 q1_1}:Ax tP 135 gi 18 iK (wl y_1 s_1 yn1 yn0 un32 un1 un0 q1_1) (SN y_1 s_1 yn1 yn0 un32 un1 un0 q1_1):=.tD mixed [] [2,8,9,10,14,15,16,17,18,105,106,107,108,109,110,111,112] 3
def ahK (y_1 s_1 yn1 yn0 un32 un1 un0 q1 rhat:Int):St:=⟨[sv 2 (.c (.lit (.int .u64 y_1))),sv 8 (.c (.lit (.int .u64 s_1))),sv 9 (.c (.lit (.int .u64 yn1))),sv 10 (.c (.lit (.int .u64 yn0))),sv 11 (.c (.lit (.int .u64 un32))),sv 13 (.c (.lit (.int .u64 un1))),sv 14 (.c (.lit (.int .u64 un0))),sv 15 (.c (.lit (.int .u64 q1))),sv 16 (.c (.lit (.int .u64 rhat)))],[],0⟩
abbrev tc (y_1 s_1 yn1 yn0 un32 un1 un0 q1 rhat:Int) (r:((Int))):Option ((Int × Int)):=match r with | q1_1=>((wl y_1 s_1 yn1 yn0 un32 un1 un0 q1_1).opt)
def we (y_1 s_1 yn1 yn0 un32 un1 un0 q1 rhat:Int):Option ((Int × Int)):=(fixL (ox y_1 s_1 yn1 yn0 un32 un1 un0 q1 rhat) (q1,rhat)).bind (tc y_1 s_1 yn1 yn0 un32 un1 un0 q1 rhat)
theorem ZU:List.drop 17 gi = .block 0 (.loop (ah (ah (aP gi 17)))) :: List.drop 18 gi:=by kernel_rfl
theorem afv (y_1 s_1 yn1 yn0 un32 un1 un0 q1 rhat K):∀ r,W (tc y_1 s_1 yn1 yn0 un32 un1 un0 q1 rhat r) (rE EK K)→yi y_1 s_1 yn1 yn0 un32 un1 un0 q1 rhat r (wK (aZ 0 (aE (au tP 135 (List.drop 18 gi) K) K)))
  | q1_1,h=>⟨(SN y_1 s_1 yn1 yn0 un32 un1 un0 q1_1),(.refl _),(YF h)⟩
theorem Z5 {y_1 s_1 yn1 yn0 un32 un1 un0 q1 rhat K} (h:W (we y_1 s_1 yn1 yn0 un32 un1 un0 q1 rhat) (rE EK K)):au tP 135 (List.drop 17 gi) K (ahK y_1 s_1 yn1 yn0 un32 un1 un0 q1 rhat) :=
  au.at_ ZU (au.cons_loop (aC.weak (aC.ent (.refl _) (aC.loopF (x:=ah (ah (aP gi 17))) (f:=ox y_1 s_1 yn1 yn0 un32 un1 un0 q1 rhat) (emb:=Dr y_1 s_1 yn1 yn0 un32 un1 un0 q1 rhat) (E:=yi y_1 s_1 yn1 yn0 un32 un1 un0 q1 rhat) (YK y_1 s_1 yn1 yn0 un32 un1 un0 q1 rhat) (R7 y_1 s_1 yn1 yn0 un32 un1 un0 q1 rhat) (bM h (afv y_1 s_1 yn1 yn0 un32 un1 un0 q1 rhat K))))))
def aio (hi lo y:Int):St:=⟨[sv 0 (.c (.lit (.int .u64 hi))),sv 1 (.c (.lit (.int .u64 lo))),sv 2 (.c (.lit (.int .u64 y)))],[],0⟩
def kt (hi lo y:Int):PT _ (rE EK) (dK tP 135 gi 17 iK):=.bf (y == 0) (.no) (.bf (decide (y≤hi)) (.no) (.bf (hi == 0) (.g1 (y≠0)<|.g1 (y≠0)<|.lf (some ((IntKind.u64.wrap (Int.tdiv lo y)),(Int.tmod lo y))) .ret _<|hh fun _=>lx [6,7] [] [sv 2 (.c (.lit (.int .u64 y)))]) (.bd (oS y) 0 fun r_2=>.g1 (0≤(IntKind.u64.wrap r_2))<|.tv (0≤(32:Int)) (by decide)<|.g1 (0≤(IntKind.u64.wrap r_2))<|.g1 (0≤(IntKind.u64.wrap (64 - (IntKind.u64.wrap r_2))))<|.g1 (0≤(IntKind.u64.wrap r_2))<|.tv (0≤(32:Int)) (by decide)<|.g1 ((Int.fdiv (IntKind.u64.wrap (y*2 ^ min (Int.toNat (IntKind.u64.wrap r_2)) 64)) (2 ^ min (Int.toNat (32:Int)) 64))≠0)<|.lf (we (IntKind.u64.wrap (y*2 ^ min (Int.toNat (IntKind.u64.wrap r_2)) 64)) (IntKind.u64.wrap r_2) (Int.fdiv (IntKind.u64.wrap (y*2 ^ min (Int.toNat (IntKind.u64.wrap r_2)) 64)) (2 ^ min (Int.toNat (32:Int)) 64)) (IntKind.u64.wrap (BitVec.ofInt 64 (IntKind.u64.wrap (y*2 ^ min (Int.toNat (IntKind.u64.wrap r_2)) 64)) &&& BitVec.ofInt 64 (4294967295:Int)).toNat) (IntKind.u64.wrap (BitVec.ofInt 64 (IntKind.u64.wrap (hi*2 ^ min (Int.toNat (IntKind.u64.wrap r_2)) 64)) ||| BitVec.ofInt 64 (Int.fdiv lo (2 ^ min (Int.toNat (IntKind.u64.wrap (64 - (IntKind.u64.wrap r_2)))) 64))).toNat) (Int.fdiv (IntKind.u64.wrap (lo*2 ^ min (Int.toNat (IntKind.u64.wrap r_2)) 64)) (2 ^ min (Int.toNat (32:Int)) 64)) (IntKind.u64.wrap (BitVec.ofInt 64 (IntKind.u64.wrap (lo*2 ^ min (Int.toNat (IntKind.u64.wrap r_2)) 64)) &&& BitVec.ofInt 64 (4294967295:Int)).toNat) (IntKind.u64.wrap (Int.tdiv (IntKind.u64.wrap (BitVec.ofInt 64 (IntKind.u64.wrap (hi*2 ^ min (Int.toNat (IntKind.u64.wrap r_2)) 64)) ||| BitVec.ofInt 64 (Int.fdiv lo (2 ^ min (Int.toNat (IntKind.u64.wrap (64 - (IntKind.u64.wrap r_2)))) 64))).toNat) (Int.fdiv (IntKind.u64.wrap (y*2 ^ min (Int.toNat (IntKind.u64.wrap r_2)) 64)) (2 ^ min (Int.toNat (32:Int)) 64)))) (IntKind.u64.wrap ((IntKind.u64.wrap (BitVec.ofInt 64 (IntKind.u64.wrap (hi*2 ^ min (Int.toNat (IntKind.u64.wrap r_2)) 64)) ||| BitVec.ofInt 64 (Int.fdiv lo (2 ^ min (Int.toNat (IntKind.u64.wrap (64 - (IntKind.u64.wrap r_2)))) 64))).toNat) - (IntKind.u64.wrap ((IntKind.u64.wrap (Int.tdiv (IntKind.u64.wrap (BitVec.ofInt 64 (IntKind.u64.wrap (hi*2 ^ min (Int.toNat (IntKind.u64.wrap r_2)) 64)) ||| BitVec.ofInt 64 (Int.fdiv lo (2 ^ min (Int.toNat (IntKind.u64.wrap (64 - (IntKind.u64.wrap r_2)))) 64))).toNat) (Int.fdiv (IntKind.u64.wrap (y*2 ^ min (Int.toNat (IntKind.u64.wrap r_2)) 64)) (2 ^ min (Int.toNat (32:Int)) 64))))*(Int.fdiv (IntKind.u64.wrap (y*2 ^ min (Int.toNat (IntKind.u64.wrap r_2)) 64)) (2 ^ min (Int.toNat (32:Int)) 64))))))) .normal _<|hh fun _ h=>lz (Z5 h) [2,8,9,10,11,13,14,15,16] [] [sv 6 (.c (.lit (.int .u64 0))),sv 7 (.c (.lit (.int .u64 0)))])))
theorem ZV {hi lo y}:Ax tP 135 gi 0 iK (kt hi lo y) (aio hi lo y):=.tD mixed [aqW] [2,6,7,8,9,10,11,13,14,15,16,70,71,72,73,74,75,76,77,105,106,107,108,109,110,111,112] 17
def nL (hi lo y:Int):Option ((Int × Int)):=(kt hi lo y).opt
def xk:bW:=yE (aI .u64) (aI .u64) (aI .u64) nL ((0:Int),(0:Int)) GB
theorem Hd:bg tP 107 xk:=ta Tryz.f107 (ao Tryz.f107) [.tmp 6, .tmp 7] 135 fun u0 u1 u2 y h=>@ZV u0 u1 u2 _ (bn.2 ⟨y,h,(cx (.tup [(.c (.lit (.int .u64 y.1))),(.c (.lit (.int .u64 y.2)))]) (VLe.tup (VLes.cons (VLe.rfl' _) (VLes.cons (VLe.rfl' _) (VLes.nil)))))⟩)
abbrev aqb:FE tP:=⟨107, .pure xk,Hd⟩
noncomputable def aoJ:List Code:=aA (ao Tryz.f81)
def HI (x_1:(ct × Int)):bN:=.data (.tup [(.agg [(.c (.lit (.int .u64 x_1.1.hi))),(.c (.lit (.int .u64 x_1.1.lo)))]),(.c (.lit (.int .u64 x_1.2)))])
def aqy (x_1:(ct × Int)):St:=⟨[sv 4 (.ptr 0 2 0 0),sv 5 (.c (.lit (.int .u64 x_1.2)))],[(0,some (.box [(.c (.lit (.int .u64 x_1.1.hi))),(.c (.lit (.int .u64 x_1.1.lo)))]))],1⟩
def anb (w:ct) (d_1:Int):St:=⟨[sv 0 (.ag (km w)),sv 1 (.c (.lit (.int .u64 d_1)))],[],0⟩
def lh (w:ct) (d_1:Int):PT _ (rE aqy) iK:=.g1 (d_1≠0)<|.bd (nL (Int.tmod w.hi d_1) w.lo d_1) (0,0) fun r_2=>.g1 (d_1≠0)<|.lf (some ((ct.mk (IntKind.u64.wrap (Int.tdiv w.hi d_1)) r_2.1),r_2.2)) .ret _<|hh fun _=>l0
theorem aed {w d_1}:Ax tP 26 aoJ 0 iK (lh w d_1) (anb w d_1):=.tE mixed [aqb] [4,5] 4
def pp (w:ct) (d_1:Int):Option ((ct × Int)):=(lh w d_1).opt
def zu:bW:=fj wS (aI .u64) pp (kh,(0:Int)) HI
theorem IQ:bg tP 81 zu:=dv Tryz.f81 (ao Tryz.f81) [.cell 4 127, .tmp 5] 26 fun u0 u1 y h=>@aed u0 u1 _ (bn.2 ⟨y,h,(cx (.tup [(.agg [(.c (.lit (.int .u64 y.1.hi))),(.c (.lit (.int .u64 y.1.lo)))]),(.c (.lit (.int .u64 y.2)))]) (VLe.tup (VLes.cons (VLe.rfl' _) (VLes.cons (VLe.rfl' _) (VLes.nil)))))⟩)
abbrev e81:FE tP:=⟨81, .pure zu,IQ⟩
noncomputable def vL:List Code:=aA (ao Tryz.f82)
noncomputable def abe:List Code:=aA (ah (ah (aP vL 1)))
def PS (x_1:Int):bN:=.data (.c (.lit (.int .u64 x_1)))
def Vi (x_1:Int):St:=⟨[sv 4 (.c (.lit (.int .u64 x_1)))],[],0⟩
def Cf (a b:Int) (s:(Int × Int)):St:=match s with | (a_1,b_1)=>⟨[sv 0 (.c (.lit (.int .u64 a_1))),sv 1 (.c (.lit (.int .u64 b_1)))],[],0⟩
def agx (a b:Int) (s:Int):St:=match s with | a_2=>⟨[sv 0 (.c (.lit (.int .u64 a_2)))],[],0⟩
def Cw (a b:Int) (r:((Int))) (K:KT):Prop:=match r with | s=>K (.exit 0) (agx a b s)
def akP (a_1 b_1:Int):St:=Cf (0:Int) (0:Int) (a_1,b_1)
def JG (a_1 b_1:Int):PT _ (nE (Cf (0:Int) (0:Int)) (Cw (0:Int) (0:Int))) iK:=.bf (b_1 != 0) (.g1 (b_1≠0)<|.lf (some (Sum.inl (b_1,(Int.tmod a_1 b_1)))) .normal _<|hh fun _=>l0) (.lf (some (Sum.inr a_1)) (.exit 0) (Cf (0:Int) (0:Int) (a_1,b_1))<|hh fun _=>lg (.cn [0]))
theorem ahj {a_1 b_1}:Ax tP 12 abe 0 iK (JG a_1 b_1) (akP a_1 b_1):=.tE mixed [] [0,1] 3
def qk (a b:Int) (s:(Int × Int)):Option ((Int × Int) ⊕ ((Int))):=match s with | (a_1,b_1)=>(JG a_1 b_1).opt
theorem agm (a b s):Pp tP 12 (List.drop 0 abe) (Cf a b s) (qk a b s) (cd (Cf a b) (Cw a b)):=fun K h=>match s,h with | (a_1,b_1),h=>(ahj h)
theorem TO (a b):∀ r J K,Cw a b r K→Cw a b r (aE J K)
  | s,_,_,h=>h
def Xh (a_3:Int):St:=⟨[sv 0 (.c (.lit (.int .u64 a_3)))],[],0⟩
def JO (a_3:Int):PT _ (rE Vi) iK:=.lf (some a_3) .ret _<|hh fun _=>l0
theorem agZ {a_3}:Ax tP 12 vL 2 iK (JO a_3) (Xh a_3):=.tE mixed [] [4] 2
def Xd (a b:Int):St:=⟨[sv 0 (.c (.lit (.int .u64 a))),sv 1 (.c (.lit (.int .u64 b)))],[],0⟩
abbrev xh (a b:Int) (r:((Int))):Option (Int):=match r with | a_2=>((JO a_2).opt)
def I6 (a b:Int):Option (Int):=(fixL (qk a b) (a,b)).bind (xh a b)
theorem ack:List.drop 1 vL = .block 0 (.loop (ah (ah (aP vL 1)))) :: List.drop 2 vL:=by kernel_rfl
theorem aiJ (a b K):∀ r,W (xh a b r) (rE Vi K)→Cw a b r (wK (aZ 0 (aE (au tP 12 (List.drop 2 vL) K) K)))
  | a_2,h=>⟨(Xh a_2),(.refl _),(agZ h)⟩
theorem ae1 {a b K} (h:W (I6 a b) (rE Vi K)):au tP 12 (List.drop 1 vL) K (Xd a b) :=
  au.at_ ack (au.cons_loop (aC.weak (aC.ent (.refl _) (aC.loopF (x:=ah (ah (aP vL 1))) (f:=qk a b) (emb:=Cf a b) (E:=Cw a b) (agm a b) (TO a b) (bM h (aiJ a b K))))))
def am5 (a b:Int):St:=Xd a b
def Jp (a b:Int):PT _ (rE Vi) (dK tP 12 vL 1 iK):=.lf (I6 a b) .normal _<|hh fun _ h=>l0 (ae1 h)
theorem ag3 {a b}:Ax tP 12 vL 0 iK (Jp a b) (am5 a b):=.tD mixed [] [0,1] 1
def uc (a b:Int):Option (Int):=(Jp a b).opt
def KI:bW:=fj (aI .u64) (aI .u64) uc (0:Int) PS
theorem RE:bg tP 82 KI:=dv Tryz.f82 (ao Tryz.f82) [.tmp 4] 12 fun u0 u1 y h=>@ag3 u0 u1 _ (bn.2 ⟨y,h,(cx (.c (.lit (.int .u64 y))) (VLe.rfl' _))⟩)
abbrev e82:FE tP:=⟨82, .pure KI,RE⟩
noncomputable def apc:List Code:=aA (ao Tryz.f62)
def L7 (x_1:(aH × Int)):bN:=.data (.tup [(.agg [(i64 x_1.1.Num),(i64 x_1.1.Den)]),(i64 x_1.2)])
def aqj (x_1:(aH × Int)):St:=⟨[sv 6 (.ptr 0 2 0 0),sv 7 (i64 x_1.2)],[(0,some (.box [(i64 x_1.1.Num),(i64 x_1.1.Den)]))],1⟩
def akQ (negative:Bool) (n:ct) (d_1:Int):St:=⟨[sv 0 (bl negative),sv 1 (.ag (km n)),sv 2 (.c (.lit (.int .u64 d_1)))],[],0⟩
def pw (negative:Bool) (n:ct) (d_1:Int):PT _ (rE aqj) iK:=.bd (pp n d_1) (kh,0) fun r_4=>.bd (uc d_1 r_4.2) 0 fun r_5=>.bd (pp n r_5) (kh,0) fun r_6=>.g1 (r_5≠0)<|.bf (bif (bif (r_6.1.hi != 0) then true else (decide (1000000000000000 < r_6.1.lo))) then true else (decide (1000000000 < (IntKind.u64.wrap (Int.tdiv d_1 r_5))))) (.lf (some ((aH.mk 0 0),2)) .ret _<|hh fun _=>l0) (.bf negative (.lf (some ((aH.mk (ai (0 - (ai r_6.1.lo))) (ai (IntKind.u64.wrap (Int.tdiv d_1 r_5)))),0)) .ret _<|hh fun _=>l0) (.lf (some ((aH.mk (ai r_6.1.lo) (ai (IntKind.u64.wrap (Int.tdiv d_1 r_5)))),0)) .ret _<|hh fun _=>l0))
theorem afU {negative n d_1}:Ax tP 55 apc 0 iK (pw negative n d_1) (akQ negative n d_1):=.tE mixed [e81,e82] [6,7] 12
def Bg (negative:Bool) (n:ct) (d_1:Int):Option ((aH × Int)):=(pw negative n d_1).opt
def Gc:bW:=yE aB wS (aI .u64) Bg (gA,(0:Int)) L7
theorem Na:bg tP 62 Gc:=ta Tryz.f62 (ao Tryz.f62) [.cell 6 89, .tmp 7] 55 fun u0 u1 u2 y h=>@afU u0 u1 u2 _ (bn.2 ⟨y,h,(cx (.tup [(.agg [(i64 y.1.Num),(i64 y.1.Den)]),(i64 y.2)]) (VLe.tup (VLes.cons (VLe.rfl' _) (VLes.cons (VLe.rfl' _) (VLes.nil)))))⟩)
abbrev e62:FE tP:=⟨62, .pure Gc,Na⟩
noncomputable def aoC:List Code:=aA (ao Tryz.f38)
def C9 (x_1:(aH × Int)):bN:=.data (.tup [(.agg [(i64 x_1.1.Num),(i64 x_1.1.Den)]),(i64 x_1.2)])
def arc (x_1:(aH × Int)):St:=⟨[sv 4 (.ptr 0 2 0 0),sv 5 (i64 x_1.2)],[(0,some (.box [(i64 x_1.1.Num),(i64 x_1.1.Den)]))],1⟩
def ai2 (num den:Int):St:=⟨[sv 0 (i64 num),sv 1 (i64 den)],[],0⟩
def jo (num den:Int):PT _ (rE arc) iK:=.bf (den == 0) (.lf (some ((aH.mk 0 0),3)) .ret _<|hh fun _=>l0) (.bd (l9 num) 0 fun r_4=>.bd (l9 den) 0 fun r_5=>.bd (Bg (!((decide (num < 0)) == (decide (den < 0)))) (ct.mk 0 r_4) r_5) (gA,0) fun r_6=>.lf (some (r_6.1,r_6.2)) .ret _<|hh fun _=>l0)
theorem acT {num den}:Ax tP 22 aoC 0 iK (jo num den) (ai2 num den):=.tE mixed [e62,e63] [4,5] 5
def fk (num den:Int):Option ((aH × Int)):=(jo num den).opt
def tJ:bW:=fj (aI .i64) (aI .i64) fk (gA,(0:Int)) C9
theorem EJ:bg tP 38 tJ:=dv Tryz.f38 (ao Tryz.f38) [.cell 4 89, .tmp 5] 22 fun u0 u1 y h=>@acT u0 u1 _ (bn.2 ⟨y,h,(cx (.tup [(.agg [(i64 y.1.Num),(i64 y.1.Den)]),(i64 y.2)]) (VLe.tup (VLes.cons (VLe.rfl' _) (VLes.cons (VLe.rfl' _) (VLes.nil)))))⟩)
abbrev e38:FE tP:=⟨38, .pure tJ,EJ⟩
noncomputable def aoD:List Code:=aA (ao Tryz.f39)
def JQ (x_1:ByteArray):bN:=.data (bc x_1)
def aiD (x_1:ByteArray):St:=⟨[sv 2 (bc x_1)],[],0⟩
def amf (i_1:Int):St:=⟨[sv 0 (i64 i_1)],[],0⟩
def sw (i_1:Int):Option (ByteArray):=(some (ol ([(IntKind.u8.wrap (ai (112+(Int.tmod i_1 8)))),95,(IntKind.u8.wrap (ai (48+(ai (Int.tdiv i_1 8)))))]:List Int)))
theorem abF {i_1 K} (h:W (sw i_1) (rE aiD K)):au tP 13 (List.drop 0 aoD) K (amf i_1) :=
  let b1_:=IntKind.u8.wrap (ai (48+(ai (Int.tdiv i_1 8)))); let b2_:=IntKind.u8.wrap (ai (112+(Int.tmod i_1 8))); au.qE mixed [] [2] 0 3 (.nx1 (a1:=lst nP 3 (fun i=>(fun i=>(List.take 1 (List.drop (i*1) [(.lit (.int .u8 (IntKind.u8.wrap (ai (112+(Int.tmod i_1 8)))))),(.lit (.int .u8 95)),(.lit (.int .u8 (IntKind.u8.wrap (ai (48+(ai (Int.tdiv i_1 8)))))))]))) (0+i))) (lr nb (ae.zero (ae.lits (el:=(fun i=>(List.take 1 (List.drop (i*1) [(.lit (.int .u8 (IntKind.u8.wrap (ai (112+(Int.tmod i_1 8)))))),(.lit (.int .u8 95)),(.lit (.int .u8 (IntKind.u8.wrap (ai (48+(ai (Int.tdiv i_1 8)))))))])))) (z:=(0:Int)) (l:=([(IntKind.u8.wrap (ai (112+(Int.tmod i_1 8)))),95,(IntKind.u8.wrap (ai (48+(ai (Int.tdiv i_1 8)))))]:List Int)) ⟨.refl _, .refl _, .refl _,trivial⟩))) (fun L1_ K=>let a1_:=IntKind.u8.wrap (ai (48+(ai (Int.tdiv i_1 8)))); let a2_:=IntKind.u8.wrap (ai (112+(Int.tmod i_1 8))); ((8:Int)≠0)∧((8:Int)≠0)∧((0 < 3→1 = 1))∧((∀ i,i < 3→(fun i=>(fun i=>(List.take 1 (List.drop (i*1) [(.lit (.int .u8 a2_)),(.lit (.int .u8 95)),(.lit (.int .u8 a1_))]))) (0+i)) i = l6 (nP ((fun i=>(fun i=>(List.take 1 (List.drop (i*1) [(.lit (.int .u8 a2_)),(.lit (.int .u8 95)),(.lit (.int .u8 a1_))]))) (0+i)) i))))∧(wK K .ret (aiD (ol L1_)))) (⟨(by decide),⟨(by decide),⟨(ae.ok (k:=1) nb (ae.zero (ae.lits (el:=(fun i=>(List.take 1 (List.drop (i*1) [(.lit (.int .u8 b2_)),(.lit (.int .u8 95)),(.lit (.int .u8 b1_))])))) (z:=(0:Int)) (l:=([b2_,95,b1_]:List Int)) ⟨.refl _, .refl _, .refl _,trivial⟩))).1,⟨(aK.eq (ae.ok (k:=1) nb (ae.zero (ae.lits (el:=(fun i=>(List.take 1 (List.drop (i*1) [(.lit (.int .u8 b2_)),(.lit (.int .u8 95)),(.lit (.int .u8 b1_))])))) (z:=(0:Int)) (l:=([b2_,95,b1_]:List Int)) ⟨.refl _, .refl _, .refl _,trivial⟩))) fun _=>rfl),(l0 h)⟩⟩⟩⟩))
def oo (i_1:Int):Option (ByteArray):=sw i_1
def DW:bW:=dH (aI .i64) oo (am []) JQ
theorem L8:bg tP 39 DW:=cJ Tryz.f39 (ao Tryz.f39) [.tmp 2] 13 fun u0 y h=>@abF u0 _ (bn.2 ⟨y,h,(cx (bc y) (VLe.rfl' _))⟩)
abbrev e39:FE tP:=⟨39, .pure DW,L8⟩
def oN:List V→List Ob→Option ((aa × Int) × List Prop)
  | [(.ptr p1 k2 i3 j4),(.c (.lit (.int .i64 a5)))],[.box [(.c (.sl k6 n7 e8)),(.c (.lit (.int .i64 a9))),(.c (.lit (.int .i64 a10)))]]=>bif Nat.beq p1 0&&Nat.beq k2 3&&Nat.beq i3 0&&Nat.beq j4 0 then some (((aa.mk (lst bm n7 e8) a9 a10),a5),[aK aT bm 1 k6 n7 e8]) else none
  | _,_=>none
def mu (x_1:(Int × aa)):V:=(i64 x_1.1)
def mJ (os:List Ob) (x_1:(Int × aa)):List Ob:=[(.box [(fC x_1.2.l),(i64 x_1.2.at_),(i64 x_1.2.left)])]
noncomputable def Vv:List Code:=aA (ao Tryz.f83)
def Zr (x_1:(Int × aa)):St:=⟨[sv 4 (i64 x_1.1),sv 1000000 (.ptr 0 3 0 0)],[(0,some (.box [(fC x_1.2.l),(i64 x_1.2.at_),(i64 x_1.2.left)]))],1⟩
theorem ajx (x_1:(Int × aa)) {ps:List Prop} {c0:List V} (h0:c0.length = 3):ep tP [.tmp 4] (fun σ v=>∃ qs,qo true [.box c0] ⟨ps,mu x_1,mJ [.box c0] x_1,[false]⟩ qs σ v) .ret (Zr x_1) :=
  ep.intro (v:=(i64 x_1.1)) (by kernel_rfl) ⟨[0],rfl,rfl,VLe.rfl' _,(.inl rfl),⟨⟨_,rfl,show VLes _ _ from VLes.rfl' _,rfl,rfl,(.inl rfl), .inr ⟨trivial,by rw [dl,h0]; rfl⟩⟩,trivial⟩⟩
def anD (k n:Int) (s_1:aa):St:=⟨[sv 0 (.ptr 0 3 0 0),sv 1 (i64 k),sv 5 (i64 n),sv 1000000 (.ptr 0 3 0 0)],[(0,some (.bx (ak s_1)))],1⟩
def gW (k n:Int) (s_1:aa):PT _ (rE Zr) iK:=.bd (fU n k) 0 fun r_2=>.lf (some (r_2,(aa.mk s_1.l (ai (s_1.at_+1)) s_1.left))) .ret _<|hh fun _=>l0
theorem SG {k n s_1}:Ax tP 36 Vv 4 iK (gW k n s_1) (anD k n s_1):=.tE mixed [eH] [4,1000000] 3
def aiN (k:Int) (s_1:aa):St:=⟨[sv 0 (.ptr 0 3 0 0),sv 1 (i64 k),sv 1000000 (.ptr 0 3 0 0)],[(0,some (.bx (ak s_1)))],1⟩
def nC (k:Int) (s_1:aa):PT _ (rE Zr) (dK tP 36 Vv 4 iK):=.bf (decide (s_1.at_ < (s_1.l.length:Int))) (.g2 (0≤s_1.at_) (s_1.at_ < (s_1.l.length:Int))<|.lf ((gW k (s_1.l.getD (Int.toNat s_1.at_) (0:Int)) s_1).opt) .normal _<|hh fun _ h=>l0 (SG h)) (.lf ((gW k 0 s_1).opt) .normal _<|hh fun _ h=>l0 (SG h))
theorem afi {k s_1}:Ax tP 36 Vv 0 iK (nC k s_1) (aiN k s_1):=.tD mixed [] [0,1,5,1000000] 4
def bk (s_1:aa) (k:Int):Option ((Int × aa)):=(nC k s_1).opt
theorem GA:bV tP 83 (.mut (lP true [true,false] (ly oN mu mJ [false] ((0:Int),af) (fun a=>bk a.1 a.2)))):=by
  refine mM (fn:=Tryz.f83) (c:=ao Tryz.f83) (by kernel_rfl) (by kernel_rfl) (by kernel_rfl) (rs:=[.tmp 4]) (by kernel_rfl) (nt:=36) (by kernel_rfl) fun vs os a ps h hp y hy qs=>?_
  unfold oN at h
  split at h
  · next p1 k2 i3 j4 a5 k6 n7 e8 a9 a10 =>
    cases hb:(Nat.beq p1 0&&Nat.beq k2 3&&Nat.beq i3 0&&Nat.beq j4 0) with
    | false=>rw [hb] at h; cases h
    | true =>
      rw [hb] at h
      simp only [Bool.and_eq_true,Nat.beq_eq] at hb
      obtain ⟨⟨⟨rfl,rfl⟩,rfl⟩,rfl⟩:=hb
      cases h
      obtain ⟨g0,hp⟩:=co hp
      exact ⟨[.ptr 0 3 0 0,(i64 a5)],(VLes.cons (VLe.rfl' _) (VLes.cons (VLe.rfl' _) VLes.nil)),rfl,au.ent (du.of (bQ.cons rfl (VLe.rfl' _) (bQ.cons rfl (VLe.rfl' _) (bQ.cons rfl (VLe.rfl' _) bQ.nil))) (cI.box rfl (VLes.cons (VLe.slk g0.1 (ae.of_ok g0)) (VLes.cons (VLe.rfl' _) (VLes.cons (VLe.rfl' _) VLes.nil))) cI.nil) rfl) (@afi a5 (aa.mk (lst bm n7 e8) a9 a10) _ (bn.2 ⟨y,hy,ajx y rfl⟩))⟩
  · cases h
def wH:=(lP true [true,false] (ly oN mu mJ [false] ((0:Int),af) (fun a=>bk a.1 a.2)))
theorem EO:bV tP 83 (.mut wH):=GA
abbrev SH:FE tP:=⟨83, .mut wH,EO⟩
noncomputable def ajQ:List Code:=aA (ao Tryz.f111)
def NN (x_1:(List ByteArray)):bN:=.own true 9 1 (x_1).length (aV Fw (am []) x_1)
def apB (x_1:(List ByteArray)):St:=⟨[sv 0 (.row 0 1 0 x_1.length)],[(xf 0 9 x_1)],1⟩
def aeP:St:=⟨[],[],0⟩
def Gf:PT _ (rE apB) iK:=.lf (some ([(am [97,103,101]),(am [121,101,97,114]),(am [99,104,105,108,100,114,101,110]),(am [105,110,115,117,114,101,100]),(am [119,111,114,107,101,100]),(am [118,111,108,117,110,116,97,114,121]),(am [115,101,114,118,105,99,101]),(am [101,113,117,97,116,101,100]),(am [114,97,105,115,105,110,103]),(am [114,101,115,105,100,101,110,116]),(am [98,97,115,101])]:List ByteArray)) .ret _<|hh fun _=>l0
theorem Zn:Ax tP 2 ajQ 0 iK Gf aeP:=.tE mixed [] [0] 3
def xW:Option ((List ByteArray)):=Gf.opt
def HT:bW:=Rn xW ([]:List ByteArray) NN
theorem OI:bg tP 111 HT:=PU Tryz.f111 (ao Tryz.f111) [.tmp 0] 2 fun y h=>@Zn _ (bn.2 ⟨y,h,(cx (.row 0 1 0 y.length) (⟨_,_,_,rfl,rfl,rfl,fun _ _=>rfl,fun _ i hi d hd=>Qv _ d hd⟩))⟩)
abbrev aqO:FE tP:=⟨111, .pure HT,OI⟩
noncomputable def Q7:List Code:=aA (ao Tryz.f112)
def NK (x_1:(Int × Bool)):bN:=.data (.tup [(i64 x_1.1),(bl x_1.2)])
def aaF (x_1:(Int × Bool)):St:=⟨[sv 2 (i64 x_1.1),sv 3 (bl x_1.2)],[],0⟩
def ab5:St:=⟨[],[],0⟩
def cf:PT _ (rE aaF) iK:=.lf (some (0,false)) .ret _<|hh fun _=>l0
theorem dG:Ax tP 19 Q7 3 iK cf ab5:=.tE mixed [] [2,3] 2
def ahk (name:ByteArray):St:=⟨[sv 0 (bc name)],[],0⟩
def xe (name:ByteArray):PT _ (rE aaF) (dK tP 19 Q7 3 iK):=.bf (name.toList == (am [97,103,101]).toList) (.bf (name.toList == (am [97,103,101]).toList) (.lf (some (2,true)) .ret _<|hh fun _=>l0) (.bf (name.toList == (am [105,110,115,117,114,101,100]).toList) (.bf (name.toList == (am [105,110,115,117,114,101,100]).toList) (.lf (some (3,true)) .ret _<|hh fun _=>l0) (.bf (name.toList == (am [98,97,115,101]).toList) (.lf (some (4,true)) .ret _<|hh fun _=>l0) (.lf cf.opt .normal _<|hh fun _ h=>lz (dG h) [] [] [sv 2 (i64 0),sv 3 (bl false)]))) (.bf (name.toList == (am [119,111,114,107,101,100]).toList) (.bf (name.toList == (am [119,111,114,107,101,100]).toList) (.lf (some (3,true)) .ret _<|hh fun _=>l0) (.bf (name.toList == (am [98,97,115,101]).toList) (.lf (some (4,true)) .ret _<|hh fun _=>l0) (.lf cf.opt .normal _<|hh fun _ h=>lz (dG h) [] [] [sv 2 (i64 0),sv 3 (bl false)]))) (.bf (name.toList == (am [118,111,108,117,110,116,97,114,121]).toList) (.bf (name.toList == (am [118,111,108,117,110,116,97,114,121]).toList) (.lf (some (3,true)) .ret _<|hh fun _=>l0) (.bf (name.toList == (am [98,97,115,101]).toList) (.lf (some (4,true)) .ret _<|hh fun _=>l0) (.lf cf.opt .normal _<|hh fun _ h=>lz (dG h) [] [] [sv 2 (i64 0),sv 3 (bl false)]))) (.bf (name.toList == (am [115,101,114,118,105,99,101]).toList) (.bf (name.toList == (am [115,101,114,118,105,99,101]).toList) (.lf (some (3,true)) .ret _<|hh fun _=>l0) (.bf (name.toList == (am [98,97,115,101]).toList) (.lf (some (4,true)) .ret _<|hh fun _=>l0) (.lf cf.opt .normal _<|hh fun _ h=>lz (dG h) [] [] [sv 2 (i64 0),sv 3 (bl false)]))) (.bf (name.toList == (am [101,113,117,97,116,101,100]).toList) (.bf (name.toList == (am [101,113,117,97,116,101,100]).toList) (.lf (some (3,true)) .ret _<|hh fun _=>l0) (.bf (name.toList == (am [98,97,115,101]).toList) (.lf (some (4,true)) .ret _<|hh fun _=>l0) (.lf cf.opt .normal _<|hh fun _ h=>lz (dG h) [] [] [sv 2 (i64 0),sv 3 (bl false)]))) (.bf (name.toList == (am [114,97,105,115,105,110,103]).toList) (.bf (name.toList == (am [114,97,105,115,105,110,103]).toList) (.lf (some (3,true)) .ret _<|hh fun _=>l0) (.bf (name.toList == (am [98,97,115,101]).toList) (.lf (some (4,true)) .ret _<|hh fun _=>l0) (.lf cf.opt .normal _<|hh fun _ h=>lz (dG h) [] [] [sv 2 (i64 0),sv 3 (bl false)]))) (.bf (name.toList == (am [114,101,115,105,100,101,110,116]).toList) (.lf (some (3,true)) .ret _<|hh fun _=>l0) (.bf (name.toList == (am [98,97,115,101]).toList) (.lf (some (4,true)) .ret _<|hh fun _=>l0) (.lf cf.opt .normal _<|hh fun _ h=>lz (dG h) [] [] [sv 2 (i64 0),sv 3 (bl false)])))))))))) (.bf (name.toList == (am [121,101,97,114]).toList) (.bf (name.toList == (am [121,101,97,114]).toList) (.lf (some (2,true)) .ret _<|hh fun _=>l0) (.bf (name.toList == (am [105,110,115,117,114,101,100]).toList) (.bf (name.toList == (am [105,110,115,117,114,101,100]).toList) (.lf (some (3,true)) .ret _<|hh fun _=>l0) (.bf (name.toList == (am [98,97,115,101]).toList) (.lf (some (4,true)) .ret _<|hh fun _=>l0) (.lf cf.opt .normal _<|hh fun _ h=>lz (dG h) [] [] [sv 2 (i64 0),sv 3 (bl false)]))) (.bf (name.toList == (am [119,111,114,107,101,100]).toList) (.bf (name.toList == (am [119,111,114,107,101,100]).toList) (.lf (some (3,true)) .ret _<|hh fun _=>l0) (.bf (name.toList == (am [98,97,115,101]).toList) (.lf (some (4,true)) .ret _<|hh fun _=>l0) (.lf cf.opt .normal _<|hh fun _ h=>lz (dG h) [] [] [sv 2 (i64 0),sv 3 (bl false)]))) (.bf (name.toList == (am [118,111,108,117,110,116,97,114,121]).toList) (.bf (name.toList == (am [118,111,108,117,110,116,97,114,121]).toList) (.lf (some (3,true)) .ret _<|hh fun _=>l0) (.bf (name.toList == (am [98,97,115,101]).toList) (.lf (some (4,true)) .ret _<|hh fun _=>l0) (.lf cf.opt .normal _<|hh fun _ h=>lz (dG h) [] [] [sv 2 (i64 0),sv 3 (bl false)]))) (.bf (name.toList == (am [115,101,114,118,105,99,101]).toList) (.bf (name.toList == (am [115,101,114,118,105,99,101]).toList) (.lf (some (3,true)) .ret _<|hh fun _=>l0) (.bf (name.toList == (am [98,97,115,101]).toList) (.lf (some (4,true)) .ret _<|hh fun _=>l0) (.lf cf.opt .normal _<|hh fun _ h=>lz (dG h) [] [] [sv 2 (i64 0),sv 3 (bl false)]))) (.bf (name.toList == (am [101,113,117,97,116,101,100]).toList) (.bf (name.toList == (am [101,113,117,97,116,101,100]).toList) (.lf (some (3,true)) .ret _<|hh fun _=>l0) (.bf (name.toList == (am [98,97,115,101]).toList) (.lf (some (4,true)) .ret _<|hh fun _=>l0) (.lf cf.opt .normal _<|hh fun _ h=>lz (dG h) [] [] [sv 2 (i64 0),sv 3 (bl false)]))) (.bf (name.toList == (am [114,97,105,115,105,110,103]).toList) (.bf (name.toList == (am [114,97,105,115,105,110,103]).toList) (.lf (some (3,true)) .ret _<|hh fun _=>l0) (.bf (name.toList == (am [98,97,115,101]).toList) (.lf (some (4,true)) .ret _<|hh fun _=>l0) (.lf cf.opt .normal _<|hh fun _ h=>lz (dG h) [] [] [sv 2 (i64 0),sv 3 (bl false)]))) (.bf (name.toList == (am [114,101,115,105,100,101,110,116]).toList) (.lf (some (3,true)) .ret _<|hh fun _=>l0) (.bf (name.toList == (am [98,97,115,101]).toList) (.lf (some (4,true)) .ret _<|hh fun _=>l0) (.lf cf.opt .normal _<|hh fun _ h=>lz (dG h) [] [] [sv 2 (i64 0),sv 3 (bl false)])))))))))) (.bf (name.toList == (am [99,104,105,108,100,114,101,110]).toList) (.lf (some (2,true)) .ret _<|hh fun _=>l0) (.bf (name.toList == (am [105,110,115,117,114,101,100]).toList) (.bf (name.toList == (am [105,110,115,117,114,101,100]).toList) (.lf (some (3,true)) .ret _<|hh fun _=>l0) (.bf (name.toList == (am [98,97,115,101]).toList) (.lf (some (4,true)) .ret _<|hh fun _=>l0) (.lf cf.opt .normal _<|hh fun _ h=>lz (dG h) [] [] [sv 2 (i64 0),sv 3 (bl false)]))) (.bf (name.toList == (am [119,111,114,107,101,100]).toList) (.bf (name.toList == (am [119,111,114,107,101,100]).toList) (.lf (some (3,true)) .ret _<|hh fun _=>l0) (.bf (name.toList == (am [98,97,115,101]).toList) (.lf (some (4,true)) .ret _<|hh fun _=>l0) (.lf cf.opt .normal _<|hh fun _ h=>lz (dG h) [] [] [sv 2 (i64 0),sv 3 (bl false)]))) (.bf (name.toList == (am [118,111,108,117,110,116,97,114,121]).toList) (.bf (name.toList == (am [118,111,108,117,110,116,97,114,121]).toList) (.lf (some (3,true)) .ret _<|hh fun _=>l0) (.bf (name.toList == (am [98,97,115,101]).toList) (.lf (some (4,true)) .ret _<|hh fun _=>l0) (.lf cf.opt .normal _<|hh fun _ h=>lz (dG h) [] [] [sv 2 (i64 0),sv 3 (bl false)]))) (.bf (name.toList == (am [115,101,114,118,105,99,101]).toList) (.bf (name.toList == (am [115,101,114,118,105,99,101]).toList) (.lf (some (3,true)) .ret _<|hh fun _=>l0) (.bf (name.toList == (am [98,97,115,101]).toList) (.lf (some (4,true)) .ret _<|hh fun _=>l0) (.lf cf.opt .normal _<|hh fun _ h=>lz (dG h) [] [] [sv 2 (i64 0),sv 3 (bl false)]))) (.bf (name.toList == (am [101,113,117,97,116,101,100]).toList) (.bf (name.toList == (am [101,113,117,97,116,101,100]).toList) (.lf (some (3,true)) .ret _<|hh fun _=>l0) (.bf (name.toList == (am [98,97,115,101]).toList) (.lf (some (4,true)) .ret _<|hh fun _=>l0) (.lf cf.opt .normal _<|hh fun _ h=>lz (dG h) [] [] [sv 2 (i64 0),sv 3 (bl false)]))) (.bf (name.toList == (am [114,97,105,115,105,110,103]).toList) (.bf (name.toList == (am [114,97,105,115,105,110,103]).toList) (.lf (some (3,true)) .ret _<|hh fun _=>l0) (.bf (name.toList == (am [98,97,115,101]).toList) (.lf (some (4,true)) .ret _<|hh fun _=>l0) (.lf cf.opt .normal _<|hh fun _ h=>lz (dG h) [] [] [sv 2 (i64 0),sv 3 (bl false)]))) (.bf (name.toList == (am [114,101,115,105,100,101,110,116]).toList) (.lf (some (3,true)) .ret _<|hh fun _=>l0) (.bf (name.toList == (am [98,97,115,101]).toList) (.lf (some (4,true)) .ret _<|hh fun _=>l0) (.lf cf.opt .normal _<|hh fun _ h=>lz (dG h) [] [] [sv 2 (i64 0),sv 3 (bl false)])))))))))))
theorem Z4 {name}:Ax tP 19 Q7 0 iK (xe name) (ahk name):=.tD mixed [] [2,3] 3
def xS (name:ByteArray):Option ((Int × Bool)):=(xe name).opt
def Hb:bW:=dH aS xS ((0:Int),false) NK
theorem OX:bg tP 112 Hb:=cJ Tryz.f112 (ao Tryz.f112) [.tmp 2, .tmp 3] 19 fun u0 y h=>@Z4 u0 _ (bn.2 ⟨y,h,(cx (.tup [(i64 y.1),(bl y.2)]) (VLe.tup (VLes.cons (VLe.rfl' _) (VLes.cons (VLe.rfl' _) (VLes.nil)))))⟩)
abbrev aqC:FE tP:=⟨112, .pure Hb,OX⟩
noncomputable def vV:List Code:=aA (ao Tryz.f88)
noncomputable def aas:List Code:=aA (ah (ah (aP vV 4)))
def KC (x_1:(List ByteArray)):bN:=.own true 9 1 (x_1).length (aV Fw (am []) x_1)
def UY (x_1:(List ByteArray)):St:=⟨[sv 2 (.row 0 1 0 x_1.length)],[(xf 0 9 x_1)],1⟩
def B7 (dim:Int) (l:(List ByteArray)) (s:((List ByteArray) × Int)):St:=match s with | (out_1,i_1)=>⟨[sv 0 (i64 dim),sv 3 (.row 0 1 0 l.length),sv 4 (.row 1 1 0 out_1.length),sv 5 (i64 i_1)],[(xf 0 9 l),(xf 1 9 out_1)],2⟩
def aiv (dim:Int) (l:(List ByteArray)) (s:(List ByteArray)):St:=match s with | out_2=>⟨[sv 4 (.row 0 1 0 out_2.length)],[(xf 0 9 out_2)],1⟩
def B3 (dim:Int) (l:(List ByteArray)) (r:(((List ByteArray)))) (K:KT):Prop:=match r with | s=>K (.exit 0) (aiv dim l s)
def amQ (dim:Int) (l out_1:(List ByteArray)) (i_1:Int):St:=B7 dim l (out_1,i_1)
def pE (dim:Int) (l out_1:(List ByteArray)) (i_1:Int):PT _ (nE (B7 dim l) (B3 dim l)) iK:=.bf (decide (i_1 < (l.length:Int))) (.g2 (0≤i_1) (i_1 < (l.length:Int))<|.bd (xS (l.getD (0+(Int.toNat i_1)) (am []))) (0,false) fun r_3=>.bf (r_3.1 == dim) (.g2 (0≤i_1) (i_1 < (l.length:Int))<|.tv (out_1.length = out_1.length) rfl<|.gc (out_1.length+1) 16<|.lf (some (Sum.inl ((out_1++([(l.getD (0+(Int.toNat i_1)) (am []))]:List ByteArray)),(ai (i_1+1))))) .normal (⟨[sv 0 (i64 dim),sv 3 (.row 0 1 0 l.length),sv 4 (.row 1 1 0 (out_1.length+1)),sv 5 (i64 (ai (i_1+1)))],[(xf 0 9 l),(1,some (.row 9 1 (out_1.length+1) (fun i=>bif Nat.blt i out_1.length then (Vc out_1) i else (fun i=>(Vc ([(l.getD (0+(Int.toNat i_1)) (am []))]:List ByteArray)) (0+i)) (i - out_1.length))))],2⟩)<|hh fun _=>lg (.of (.q rfl (.q rfl (.cons rfl (.rown (bS rfl rfl)) (.q rfl .nil)))) (.same rfl (.row rfl (ae.app .b (ae.zero (ae.ls Fw (am []) ([(l.getD (0+(Int.toNat i_1)) (am []))]:List ByteArray)))) .nil rfl)) rfl)) (.lf (some (Sum.inl (out_1,(ai (i_1+1))))) .normal _<|hh fun _=>l0)) (.lf (some (Sum.inr out_1)) (.exit 0) (B7 dim l (out_1,i_1))<|hh fun _=>lg (.cn [4]))
theorem agi {dim l out_1 i_1}:Ax tP 34 aas 0 iK (pE dim l out_1 i_1) (amQ dim l out_1 i_1):=.tE mixed [aqC] [0,3,4,5] 4
def uE (dim:Int) (l:(List ByteArray)) (s:((List ByteArray) × Int)):Option (((List ByteArray) × Int) ⊕ (((List ByteArray)))):=match s with | (out_1,i_1)=>(pE dim l out_1 i_1).opt
theorem ahC (dim l s):Pp tP 34 (List.drop 0 aas) (B7 dim l s) (uE dim l s) (cd (B7 dim l) (B3 dim l)):=fun K h=>match s,h with | (out_1,i_1),h=>(agi h)
theorem TZ (dim l):∀ r J K,B3 dim l r K→B3 dim l r (aE J K)
  | s,_,_,h=>h
def WK (out_3:(List ByteArray)):St:=⟨[sv 4 (.row 0 1 0 out_3.length)],[(xf 0 9 out_3)],1⟩
def Cd (out_3:(List ByteArray)):PT _ (rE UY) iK:=.lf (some out_3) .ret _<|hh fun _=>l0
theorem ab4 {out_3}:Ax tP 34 vV 5 iK (Cd out_3) (WK out_3):=.tE mixed [] [2] 2
def akB (dim:Int) (l:(List ByteArray)):St:=⟨[sv 0 (i64 dim),sv 3 (.row 0 1 0 l.length),sv 4 (.c .nil),sv 5 (i64 0)],[(xf 0 9 l)],1⟩
abbrev zl (dim:Int) (l:(List ByteArray)) (r:(((List ByteArray)))):Option ((List ByteArray)):=match r with | out_2=>((Cd out_2).opt)
def t6 (dim:Int) (l:(List ByteArray)):Option ((List ByteArray)):=(fixL (uE dim l) (([]:List ByteArray),0)).bind (zl dim l)
theorem ah0:List.drop 4 vV = .block 0 (.loop (ah (ah (aP vV 4)))) :: List.drop 5 vV:=by kernel_rfl
theorem ajv (dim l K):∀ r,W (zl dim l r) (rE UY K)→B3 dim l r (wK (aZ 0 (aE (au tP 34 (List.drop 5 vV) K) K)))
  | out_2,h=>⟨(WK out_2),(.refl _),(ab4 h)⟩
theorem afC {dim l K} (h:W (t6 dim l) (rE UY K)):au tP 34 (List.drop 4 vV) K (akB dim l) :=
  au.at_ ah0 (au.cons_loop (aC.weak (aC.ent (.trans (.nilrow 4 1 9 1 (aV Fw (am []) []) (Nat.le_of_ble_eq_true rfl) rfl) (.cn [0,3,4,5])) (aC.loopF (x:=ah (ah (aP vV 4))) (f:=uE dim l) (emb:=B7 dim l) (E:=B3 dim l) (ahC dim l) (TZ dim l) (bM h (ajv dim l K))))))
def alq (dim:Int):St:=⟨[sv 0 (i64 dim)],[],0⟩
def ub (dim:Int):PT _ (rE UY) (dK tP 34 vV 4 iK):=.bd (xW) [] fun r_4=>.lf (t6 dim r_4) .normal _<|hh fun _ h=>l0 (afC h)
theorem adV {dim}:Ax tP 34 vV 0 iK (ub dim) (alq dim):=.tD mixed [aqO] [0,3,4,5] 4
def vO (dim:Int):Option ((List ByteArray)):=(ub dim).opt
def FT:bW:=dH (aI .i64) vO ([]:List ByteArray) KC
theorem Nn:bg tP 88 FT:=cJ Tryz.f88 (ao Tryz.f88) [.tmp 2] 34 fun u0 y h=>@adV u0 _ (bn.2 ⟨y,h,(cx (.row 0 1 0 y.length) (⟨_,_,_,rfl,rfl,rfl,fun _ _=>rfl,fun _ i hi d hd=>Qv _ d hd⟩))⟩)
abbrev e88:FE tP:=⟨88, .pure FT,Nn⟩
def mA:List V→List Ob→Option ((aa) × List Prop)
  | [(.ptr p1 k2 i3 j4)],[.box [(.c (.sl k5 n6 e7)),(.c (.lit (.int .i64 a8))),(.c (.lit (.int .i64 a9)))]]=>bif Nat.beq p1 0&&Nat.beq k2 3&&Nat.beq i3 0&&Nat.beq j4 0 then some (((aa.mk (lst bm n6 e7) a8 a9)),[aK aT bm 1 k5 n6 e7]) else none
  | _,_=>none
def kL (x_1:(aH × aa)):V:=(.agg [(i64 x_1.1.Num),(i64 x_1.1.Den)])
def kP (os:List Ob) (x_1:(aH × aa)):List Ob:=[(.box [(fC x_1.2.l),(i64 x_1.2.at_),(i64 x_1.2.left)])]
noncomputable def apy:List Code:=aA (ao Tryz.f89)
def aiz (x_1:(aH × aa)):St:=⟨[sv 2 (.ptr 0 2 0 0),sv 1000000 (.ptr 1 3 0 0)],[(0,some (.box [(i64 x_1.1.Num),(i64 x_1.1.Den)])),(1,some (.box [(fC x_1.2.l),(i64 x_1.2.at_),(i64 x_1.2.left)]))],2⟩
theorem aor (x_1:(aH × aa)) {ps:List Prop} {c0:List V} (h0:c0.length = 3):ep tP [.cell 2 89] (fun σ v=>∃ qs,qo true [.box c0] ⟨ps,kL x_1,kP [.box c0] x_1,[false]⟩ qs σ v) .ret (aiz x_1) :=
  ep.intro (v:=(.agg [(i64 x_1.1.Num),(i64 x_1.1.Den)])) (by kernel_rfl) ⟨[1],rfl,rfl,VLe.rfl' _,(.inl rfl),⟨⟨_,rfl,show VLes _ _ from VLes.rfl' _,rfl,rfl,(.inl rfl), .inr ⟨trivial,by rw [dl,h0]; rfl⟩⟩,trivial⟩⟩
def aiU (s_1:aa):St:=⟨[sv 0 (.ptr 0 3 0 0),sv 1000000 (.ptr 0 3 0 0)],[(0,some (.bx (ak s_1)))],1⟩
def lW (s_1:aa):PT _ (rE aiz) iK:=.lk bC s_1.l fun L1_=>.bd (bk (aa.mk L1_ s_1.at_ s_1.left) 4000) (0,af) fun r_4=>.lk bC r_4.2.l fun L2_=>.bd (bk (aa.mk L2_ r_4.2.at_ r_4.2.left) 7) (0,af) fun r_5=>.g2 (0≤r_5.1) (r_5.1 < ((7:Nat):Int))<|.bd (fk r_4.1 (([1,1,1,10,4,1000,10000]:List Int).getD (0+(Int.toNat r_5.1)) (0:Int))) (gA,0) fun r_6=>.lf (some (r_6.1,r_5.2)) .ret _<|hh fun _=>l0
theorem adr {s_1}:Ax tP 19 apy 0 iK (lW s_1) (aiU s_1):=.tE mixed [e38,SH] [2,1000000] 5
def iB (s_1:aa):Option ((aH × aa)):=(lW s_1).opt
theorem Ds:bV tP 89 (.mut (lP true [true] (ly mA kL kP [false] (gA,af) (fun a=>iB a)))):=by
  refine mM (fn:=Tryz.f89) (c:=ao Tryz.f89) (by kernel_rfl) (by kernel_rfl) (by kernel_rfl) (rs:=[.cell 2 89]) (by kernel_rfl) (nt:=19) (by kernel_rfl) fun vs os a ps h hp y hy qs=>?_
  unfold mA at h
  split at h
  · next p1 k2 i3 j4 k5 n6 e7 a8 a9 =>
    cases hb:(Nat.beq p1 0&&Nat.beq k2 3&&Nat.beq i3 0&&Nat.beq j4 0) with
    | false=>rw [hb] at h; cases h
    | true =>
      rw [hb] at h
      simp only [Bool.and_eq_true,Nat.beq_eq] at hb
      obtain ⟨⟨⟨rfl,rfl⟩,rfl⟩,rfl⟩:=hb
      cases h
      obtain ⟨g0,hp⟩:=co hp
      exact ⟨[.ptr 0 3 0 0],(VLes.cons (VLe.rfl' _) VLes.nil),rfl,au.ent (du.of (bQ.cons rfl (VLe.rfl' _) (bQ.cons rfl (VLe.rfl' _) bQ.nil)) (cI.box rfl (VLes.cons (VLe.slk g0.1 (ae.of_ok g0)) (VLes.cons (VLe.rfl' _) (VLes.cons (VLe.rfl' _) VLes.nil))) cI.nil) rfl) (@adr (aa.mk (lst bm n6 e7) a8 a9) _ (bn.2 ⟨y,hy,aor y rfl⟩))⟩
  · cases h
def s6:=(lP true [true] (ly mA kL kP [false] (gA,af) (fun a=>iB a)))
theorem Bp:bV tP 89 (.mut s6):=Ds
abbrev e89:FE tP:=⟨89, .mut s6,Bp⟩
def oG:List V→Option ((az) × List Prop)
  | [(.agg [(.c (.lit (.int .i64 a1))),(.c (.lit (.int .i64 a2))),(.c (.lit (.int .i64 a3))),(.c (.lit (.int .i64 a4))),(.c (.lit (.string a5))),(.c (.sl k6 n7 e8))])]=>bif true then some (((az.mk a1 (aH.mk a2 a3) a4 a5 (lst dGExpr n7 e8))),[aK ea dGExpr 6 k6 n7 e8]) else none
  | _=>none
def lO (x_1:Int):bN:=.data (i64 x_1)
class Q0 where
  F:az→Option (Int)
  ok:bg tP 85 (pY oG lO (0:Int) (fun a=>F a))
section
variable [Q0]
abbrev O2:=(pY oG lO (0:Int) (fun a=>Q0.F a))
abbrev apN:FE tP:=⟨85, .pure O2,Q0.ok⟩
noncomputable def vS:List Code:=aA (ao Tryz.f85)
noncomputable def aax:List Code:=aA (ah (ah (aP vS 3)))
def Qw (x_1:Int):St:=⟨[sv 2 (i64 x_1)],[],0⟩
theorem ajI (x_1:Int):ez tP [.tmp 2] (dI (lO x_1)) .ret (Qw x_1) :=
  ez.intro (v:=(i64 x_1)) (by kernel_rfl) ((VLe.rfl' _))
def D9 (e_1:az) (s:(Int × Int)):St:=match s with | (n,i_1)=>⟨[sv 1 (.ptr 0 6 0 0),sv 3 (i64 n),sv 4 (i64 i_1)],[(0,some (.box [(i64 e_1.Op),(i64 e_1.Value.Num),(i64 e_1.Value.Den),(i64 e_1.Dim),(bc e_1.Name),(bp e_1.Args)]))],1⟩
def agE (e_1:az) (s:Int):St:=match s with | n_1=>⟨[sv 3 (i64 n_1)],[],0⟩
def Dy (e_1:az) (r:((Int))) (K:KT):Prop:=match r with | s=>K (.exit 0) (agE e_1 s)
def alI (n i_1:Int) (e_1:az):St:=D9 e_1 (n,i_1)
def nO (n i_1:Int) (e_1:az):PT _ (nE (D9 e_1) (Dy e_1)) iK:=.bf (decide (i_1 < (e_1.Args.length:Int))) (.g2 (0≤i_1) (i_1 < (e_1.Args.length:Int))<|.tv (aK ea dGExpr 6 6 (((e_1.Args.getD (Int.toNat i_1) aO).Args).length) (aGExpr ((e_1.Args.getD (Int.toNat i_1) aO).Args))) (ae.ok eX (ae.aGExpr ((e_1.Args.getD (Int.toNat i_1) aO).Args)))<|.ls (a:=lst dGExpr (((e_1.Args.getD (Int.toNat i_1) aO).Args).length) (aGExpr ((e_1.Args.getD (Int.toNat i_1) aO).Args))) (lr eX (ae.aGExpr ((e_1.Args.getD (Int.toNat i_1) aO).Args))) fun L1_=>.bd (Q0.F (az.mk (e_1.Args.getD (Int.toNat i_1) aO).Op (aH.mk ((e_1.Args.getD (Int.toNat i_1) aO).Value).Num ((e_1.Args.getD (Int.toNat i_1) aO).Value).Den) (e_1.Args.getD (Int.toNat i_1) aO).Dim (e_1.Args.getD (Int.toNat i_1) aO).Name L1_)) 0 fun r_2=>.lf (some (Sum.inl ((if n < r_2 then r_2 else n),(ai (i_1+1))))) .normal _<|hh fun _=>l0) (.lf (some (Sum.inr n)) (.exit 0) (D9 e_1 (n,i_1))<|hh fun _=>lg (.cn [3]))
theorem ag7 {n i_1 e_1}:Ax tP 22 aax 0 iK (nO n i_1 e_1) (alI n i_1 e_1):=.tE mixed [apN] [1,3,4] 4
def sP (e_1:az) (s:(Int × Int)):Option ((Int × Int) ⊕ ((Int))):=match s with | (n,i_1)=>(nO n i_1 e_1).opt
theorem ahB (e_1 s):Pp tP 22 (List.drop 0 aax) (D9 e_1 s) (sP e_1 s) (cd (D9 e_1) (Dy e_1)):=fun K h=>match s,h with | (n,i_1),h=>(ag7 h)
theorem TP (e_1):∀ r J K,Dy e_1 r K→Dy e_1 r (aE J K)
  | s,_,_,h=>h
def Ws (n_2:Int):St:=⟨[sv 3 (i64 n_2)],[],0⟩
def A7 (n_2:Int):PT _ (rE Qw) iK:=.lf (some (ai (n_2+1))) .ret _<|hh fun _=>l0
theorem afQ {n_2}:Ax tP 22 vS 4 iK (A7 n_2) (Ws n_2):=.tE mixed [] [2] 2
def anW (e_1:az):St:=⟨[sv 1 (.ptr 0 6 0 0),sv 3 (i64 0),sv 4 (i64 0)],[(0,some (.box [(i64 e_1.Op),(i64 e_1.Value.Num),(i64 e_1.Value.Den),(i64 e_1.Dim),(bc e_1.Name),(bp e_1.Args)]))],1⟩
abbrev xq (e_1:az) (r:((Int))):Option (Int):=match r with | n_1=>((A7 n_1).opt)
def s8 (e_1:az):Option (Int):=(fixL (sP e_1) (0,0)).bind (xq e_1)
theorem aim:List.drop 3 vS = .block 0 (.loop (ah (ah (aP vS 3)))) :: List.drop 4 vS:=by kernel_rfl
theorem akW (e_1 K):∀ r,W (xq e_1 r) (rE Qw K)→Dy e_1 r (wK (aZ 0 (aE (au tP 22 (List.drop 4 vS) K) K)))
  | n_1,h=>⟨(Ws n_1),(.refl _),(afQ h)⟩
theorem af4 {e_1 K} (h:W (s8 e_1) (rE Qw K)):au tP 22 (List.drop 3 vS) K (anW e_1) :=
  au.at_ aim (au.cons_loop (aC.weak (aC.ent (.refl _) (aC.loopF (x:=ah (ah (aP vS 3))) (f:=sP e_1) (emb:=D9 e_1) (E:=Dy e_1) (ahB e_1) (TP e_1) (bM h (akW e_1 K))))))
def al0 (e_1:az):St:=⟨[sv 0 (.agg [(i64 e_1.Op),(i64 e_1.Value.Num),(i64 e_1.Value.Den),(i64 e_1.Dim),(bc e_1.Name),(bp e_1.Args)])],[],0⟩
def tp (e_1:az):PT _ (rE Qw) (dK tP 22 vS 3 iK):=.lf (s8 e_1) .normal _<|hh fun _ h=>l0 (af4 h)
theorem ahN {e_1}:Ax tP 22 vS 0 iK (tp e_1) (al0 e_1):=.tD mixed [] [1,3,4] 3
def tf (e_1:az):Option (Int):=(tp e_1).opt
theorem KL:bg tP 85 (pY oG lO (0:Int) (fun a=>tf a)):=by
  refine PY (fn:=Tryz.f85) (c:=ao Tryz.f85) (by kernel_rfl) (by kernel_rfl) (by kernel_rfl) (rs:=[.tmp 2]) (by kernel_rfl) (nt:=22) (by kernel_rfl) fun vs a ps h hp y hy=>?_
  unfold oG at h
  split at h
  · next a1 a2 a3 a4 a5 k6 n7 e8 =>
    cases hb:(true) with
    | false=>rw [hb] at h; cases h
    | true =>
      rw [hb] at h
      cases h
      obtain ⟨g0,hp⟩:=co hp
      exact ⟨[(.agg [(i64 (az.mk a1 (aH.mk a2 a3) a4 a5 (lst dGExpr n7 e8)).Op),(i64 ((az.mk a1 (aH.mk a2 a3) a4 a5 (lst dGExpr n7 e8)).Value).Num),(i64 ((az.mk a1 (aH.mk a2 a3) a4 a5 (lst dGExpr n7 e8)).Value).Den),(i64 (az.mk a1 (aH.mk a2 a3) a4 a5 (lst dGExpr n7 e8)).Dim),(bc ((az.mk a1 (aH.mk a2 a3) a4 a5 (lst dGExpr n7 e8)).Name)),(bp ((az.mk a1 (aH.mk a2 a3) a4 a5 (lst dGExpr n7 e8)).Args))])],(VLes.cons (VLe.agg (VLes.cons (VLe.rfl' _) (VLes.cons (VLe.rfl' _) (VLes.cons (VLe.rfl' _) (VLes.cons (VLe.rfl' _) (VLes.cons (VLe.rfl' _) (VLes.cons (VLe.slk g0.1 (ae.of_ok g0)) VLes.nil))))))) VLes.nil),rfl, @ahN _ (az.mk a1 (aH.mk a2 a3) a4 a5 (lst dGExpr n7 e8)) _ (bn.2 ⟨y,hy,ajI y⟩)⟩
  · cases h
end
abbrev wn:Nat→Q0
  | 0=>⟨fun _=>none,BK⟩
  | n+1=>⟨@tf (wn n), @KL (wn n)⟩
def Fe (e_1:az):Option (Int):=uK fun n=>(wn n).F e_1
def Hl:=(pY oG lO (0:Int) (fun a=>Fe a))
theorem Ny:bg tP 85 Hl:=Eo (F:=fun n (a:az)=>(wn n).F  a) fun n=>(wn n).ok
abbrev e85:FE tP:=⟨85, .pure Hl,Ny⟩
def qe:List V→Option ((az) × List Prop)
  | [(.agg [(.c (.lit (.int .i64 a1))),(.c (.lit (.int .i64 a2))),(.c (.lit (.int .i64 a3))),(.c (.lit (.int .i64 a4))),(.c (.lit (.string a5))),(.c (.sl k6 n7 e8))])]=>bif true then some (((az.mk a1 (aH.mk a2 a3) a4 a5 (lst dGExpr n7 e8))),[aK ea dGExpr 6 k6 n7 e8]) else none
  | _=>none
def m7 (x_1:Int):bN:=.data (i64 x_1)
class Px where
  F:az→Option (Int)
  ok:bg tP 86 (pY qe m7 (0:Int) (fun a=>F a))
section
variable [Px]
abbrev QW:=(pY qe m7 (0:Int) (fun a=>Px.F a))
abbrev aps:FE tP:=⟨86, .pure QW,Px.ok⟩
noncomputable def uX:List Code:=aA (ao Tryz.f86)
noncomputable def aat:List Code:=aA (ah (ah (aP uX 3)))
def Rg (x_1:Int):St:=⟨[sv 2 (i64 x_1)],[],0⟩
theorem ang (x_1:Int):ez tP [.tmp 2] (dI (m7 x_1)) .ret (Rg x_1) :=
  ez.intro (v:=(i64 x_1)) (by kernel_rfl) ((VLe.rfl' _))
def DP (e_1:az) (s:(Int × Int)):St:=match s with | (n,i_1)=>⟨[sv 1 (.ptr 0 6 0 0),sv 3 (i64 n),sv 4 (i64 i_1)],[(0,some (.box [(i64 e_1.Op),(i64 e_1.Value.Num),(i64 e_1.Value.Den),(i64 e_1.Dim),(bc e_1.Name),(bp e_1.Args)]))],1⟩
def ad3 (e_1:az) (s:Int):St:=match s with | n_1=>⟨[sv 3 (i64 n_1)],[],0⟩
def Cx (e_1:az) (r:((Int))) (K:KT):Prop:=match r with | s=>K (.exit 0) (ad3 e_1 s)
def ai9 (n i_1:Int) (e_1:az):St:=DP e_1 (n,i_1)
def pk (n i_1:Int) (e_1:az):PT _ (nE (DP e_1) (Cx e_1)) iK:=.bf (decide (i_1 < (e_1.Args.length:Int))) (.g2 (0≤i_1) (i_1 < (e_1.Args.length:Int))<|.tv (aK ea dGExpr 6 6 (((e_1.Args.getD (Int.toNat i_1) aO).Args).length) (aGExpr ((e_1.Args.getD (Int.toNat i_1) aO).Args))) (ae.ok eX (ae.aGExpr ((e_1.Args.getD (Int.toNat i_1) aO).Args)))<|.ls (a:=lst dGExpr (((e_1.Args.getD (Int.toNat i_1) aO).Args).length) (aGExpr ((e_1.Args.getD (Int.toNat i_1) aO).Args))) (lr eX (ae.aGExpr ((e_1.Args.getD (Int.toNat i_1) aO).Args))) fun L1_=>.bd (Px.F (az.mk (e_1.Args.getD (Int.toNat i_1) aO).Op (aH.mk ((e_1.Args.getD (Int.toNat i_1) aO).Value).Num ((e_1.Args.getD (Int.toNat i_1) aO).Value).Den) (e_1.Args.getD (Int.toNat i_1) aO).Dim (e_1.Args.getD (Int.toNat i_1) aO).Name L1_)) 0 fun r_2=>.lf (some (Sum.inl ((ai (n+r_2)),(ai (i_1+1))))) .normal _<|hh fun _=>l0) (.lf (some (Sum.inr n)) (.exit 0) (DP e_1 (n,i_1))<|hh fun _=>lg (.cn [3]))
theorem aeQ {n i_1 e_1}:Ax tP 21 aat 0 iK (pk n i_1 e_1) (ai9 n i_1 e_1):=.tE mixed [aps] [1,3,4] 4
def tX (e_1:az) (s:(Int × Int)):Option ((Int × Int) ⊕ ((Int))):=match s with | (n,i_1)=>(pk n i_1 e_1).opt
theorem acS (e_1 s):Pp tP 21 (List.drop 0 aat) (DP e_1 s) (tX e_1 s) (cd (DP e_1) (Cx e_1)):=fun K h=>match s,h with | (n,i_1),h=>(aeQ h)
theorem Vo (e_1):∀ r J K,Cx e_1 r K→Cx e_1 r (aE J K)
  | s,_,_,h=>h
def XU (n_2:Int):St:=⟨[sv 3 (i64 n_2)],[],0⟩
def DU (n_2:Int):PT _ (rE Rg) iK:=.lf (some n_2) .ret _<|hh fun _=>l0
theorem ag4 {n_2}:Ax tP 21 uX 4 iK (DU n_2) (XU n_2):=.tE mixed [] [2] 2
def aol (e_1:az):St:=⟨[sv 1 (.ptr 0 6 0 0),sv 3 (i64 1),sv 4 (i64 0)],[(0,some (.box [(i64 e_1.Op),(i64 e_1.Value.Num),(i64 e_1.Value.Den),(i64 e_1.Dim),(bc e_1.Name),(bp e_1.Args)]))],1⟩
abbrev zP (e_1:az) (r:((Int))):Option (Int):=match r with | n_1=>((DU n_1).opt)
def tZ (e_1:az):Option (Int):=(fixL (tX e_1) (1,0)).bind (zP e_1)
theorem afo:List.drop 3 uX = .block 0 (.loop (ah (ah (aP uX 3)))) :: List.drop 4 uX:=by kernel_rfl
theorem aku (e_1 K):∀ r,W (zP e_1 r) (rE Rg K)→Cx e_1 r (wK (aZ 0 (aE (au tP 21 (List.drop 4 uX) K) K)))
  | n_1,h=>⟨(XU n_1),(.refl _),(ag4 h)⟩
theorem afS {e_1 K} (h:W (tZ e_1) (rE Rg K)):au tP 21 (List.drop 3 uX) K (aol e_1) :=
  au.at_ afo (au.cons_loop (aC.weak (aC.ent (.refl _) (aC.loopF (x:=ah (ah (aP uX 3))) (f:=tX e_1) (emb:=DP e_1) (E:=Cx e_1) (acS e_1) (Vo e_1) (bM h (aku e_1 K))))))
def amw (e_1:az):St:=⟨[sv 0 (.agg [(i64 e_1.Op),(i64 e_1.Value.Num),(i64 e_1.Value.Den),(i64 e_1.Dim),(bc e_1.Name),(bp e_1.Args)])],[],0⟩
def uG (e_1:az):PT _ (rE Rg) (dK tP 21 uX 3 iK):=.lf (tZ e_1) .normal _<|hh fun _ h=>l0 (afS h)
theorem aca {e_1}:Ax tP 21 uX 0 iK (uG e_1) (amw e_1):=.tD mixed [] [1,3,4] 3
def vu (e_1:az):Option (Int):=(uG e_1).opt
theorem Nk:bg tP 86 (pY qe m7 (0:Int) (fun a=>vu a)):=by
  refine PY (fn:=Tryz.f86) (c:=ao Tryz.f86) (by kernel_rfl) (by kernel_rfl) (by kernel_rfl) (rs:=[.tmp 2]) (by kernel_rfl) (nt:=21) (by kernel_rfl) fun vs a ps h hp y hy=>?_
  unfold qe at h
  split at h
  · next a1 a2 a3 a4 a5 k6 n7 e8 =>
    cases hb:(true) with
    | false=>rw [hb] at h; cases h
    | true =>
      rw [hb] at h
      cases h
      obtain ⟨g0,hp⟩:=co hp
      exact ⟨[(.agg [(i64 (az.mk a1 (aH.mk a2 a3) a4 a5 (lst dGExpr n7 e8)).Op),(i64 ((az.mk a1 (aH.mk a2 a3) a4 a5 (lst dGExpr n7 e8)).Value).Num),(i64 ((az.mk a1 (aH.mk a2 a3) a4 a5 (lst dGExpr n7 e8)).Value).Den),(i64 (az.mk a1 (aH.mk a2 a3) a4 a5 (lst dGExpr n7 e8)).Dim),(bc ((az.mk a1 (aH.mk a2 a3) a4 a5 (lst dGExpr n7 e8)).Name)),(bp ((az.mk a1 (aH.mk a2 a3) a4 a5 (lst dGExpr n7 e8)).Args))])],(VLes.cons (VLe.agg (VLes.cons (VLe.rfl' _) (VLes.cons (VLe.rfl' _) (VLes.cons (VLe.rfl' _) (VLes.cons (VLe.rfl' _) (VLes.cons (VLe.rfl' _) (VLes.cons (VLe.slk g0.1 (ae.of_ok g0)) VLes.nil))))))) VLes.nil),rfl, @aca _ (az.mk a1 (aH.mk a2 a3) a4 a5 (lst dGExpr n7 e8)) _ (bn.2 ⟨y,hy,ang y⟩)⟩
  · cases h
end
abbrev wV:Nat→Px
  | 0=>⟨fun _=>none,BK⟩
  | n+1=>⟨@vu (wV n), @Nk (wV n)⟩
def rU (e_1:az):Option (Int):=uK fun n=>(wV n).F e_1
def Jl:=(pY qe m7 (0:Int) (fun a=>rU a))
theorem OH:bg tP 86 Jl:=Eo (F:=fun n (a:az)=>(wV n).F  a) fun n=>(wV n).ok
abbrev e86:FE tP:=⟨86, .pure Jl,OH⟩
noncomputable def amE:List Code:=aA (ao Tryz.f108)
def OS (x_1:Int):bN:=.data (i64 x_1)
def aoy (x_1:Int):St:=⟨[sv 2 (i64 x_1)],[],0⟩
def aep (op:Int):St:=⟨[sv 0 (i64 op)],[],0⟩
def zg (op:Int):PT _ (rE aoy) iK:=.bf (bif (decide (1≤op)) then (decide (op≤3)) else false) (.lf (some 0) .ret _<|hh fun _=>l0) (.bf (bif (decide (4≤op)) then (decide (op≤6)) else false) (.lf (some 1) .ret _<|hh fun _=>l0) (.bf (bif (decide (7≤op)) then (decide (op≤20)) else false) (.lf (some 2) .ret _<|hh fun _=>l0) (.bf (op == 21) (.lf (some 3) .ret _<|hh fun _=>l0) (.lf (some (-1)) .ret _<|hh fun _=>l0))))
theorem Yx {op}:Ax tP 27 amE 0 iK (zg op) (aep op):=.tE mixed [] [2] 4
def zY (op:Int):Option (Int):=(zg op).opt
def JE:bW:=dH (aI .i64) zY (0:Int) OS
theorem Rj:bg tP 108 JE:=cJ Tryz.f108 (ao Tryz.f108) [.tmp 2] 27 fun u0 y h=>@Yx u0 _ (bn.2 ⟨y,h,(cx (i64 y) (VLe.rfl' _))⟩)
abbrev aqv:FE tP:=⟨108, .pure JE,Rj⟩
noncomputable def aom:List Code:=aA (ao Tryz.f134)
def BJ (x_1:Bool):bN:=.data (bl x_1)
def ao8 (x_1:Bool):St:=⟨[sv 2 (bl x_1)],[],0⟩
def abG (f:aH):St:=⟨[sv 0 (.ag (mO f))],[],0⟩
def fW (f:aH):PT _ (rE ao8) iK:=.g1 (((bif (bif (bif (decide (1≤f.Den)) then (decide (f.Den≤1000000000)) else false) then (decide ((-1000000000000000)≤f.Num)) else false) then (decide (f.Num≤1000000000000000)) else false)&&true) = true→(l9 f.Num).isSome = true)<|.g1 (((bif (bif (bif (decide (1≤f.Den)) then (decide (f.Den≤1000000000)) else false) then (decide ((-1000000000000000)≤f.Num)) else false) then (decide (f.Num≤1000000000000000)) else false)&&true) = true→(uc ((l9 f.Num).getD 0) (IntKind.u64.wrap f.Den)).isSome = true)<|.lf (some (bif (bif (bif (bif (decide (1≤f.Den)) then (decide (f.Den≤1000000000)) else false) then (decide ((-1000000000000000)≤f.Num)) else false) then (decide (f.Num≤1000000000000000)) else false) then (((uc ((l9 f.Num).getD 0) (IntKind.u64.wrap f.Den)).getD 0) == 1) else false)) .ret _<|hh fun _=>l0
theorem ZD {f}:Ax tP 31 aom 0 iK (fW f) (abG f):=.tE mixed [e63,e82] [2] 3
def eT (f:aH):Option (Bool):=(fW f).opt
def sn:bW:=dH E3 eT false BJ
theorem CZ:bg tP 134 sn:=cJ Tryz.f134 (ao Tryz.f134) [.tmp 2] 31 fun u0 y h=>@ZD u0 _ (bn.2 ⟨y,h,(cx (bl y) (VLe.rfl' _))⟩)
abbrev am4:FE tP:=⟨134, .pure sn,CZ⟩
noncomputable def pX:List Code:=aA (ao Tryz.f144)
noncomputable def V1:List Code:=aA (ah (ah (aP pX 2)))
def LY (x_1:ByteArray):bN:=.data (bc x_1)
def Pc (x_1:ByteArray):St:=⟨[sv 4 (bc x_1)],[],0⟩
def D3 (n least:Int) (s:(Int × ByteArray)):St:=match s with | (n_1,s_1)=>⟨[sv 0 (i64 n_1),sv 1 (i64 least),sv 5 (bc s_1)],[],0⟩
def Yw (n least:Int) (s:ByteArray):St:=match s with | s_2=>⟨[sv 5 (bc s_2)],[],0⟩
def ym (n least:Int) (r:((ByteArray))) (K:KT):Prop:=match r with | s=>K (.exit 0) (Yw n least s)
def agz (n_1 least:Int) (s_1:ByteArray):St:=D3 (0:Int) least (n_1,s_1)
def pt (n_1 least:Int) (s_1:ByteArray):PT _ (nE (D3 (0:Int) least) (ym (0:Int) least)) iK:=.bf (bif (decide (0 < n_1)) then true else (decide ((s_1.size:Int) < least))) (.tv ((10:Int)≠0) (by decide)<|.tv ((10:Int)≠0) (by decide)<|.g3 (0≤(Int.tmod n_1 10)) ((Int.tmod n_1 10)≤(ai ((Int.tmod n_1 10)+1))) ((ai ((Int.tmod n_1 10)+1))≤((10:Nat):Int))<|.g1 (((am [48,49,50,51,52,53,54,55,56,57]).extract (Int.toNat (Int.tmod n_1 10)) (Int.toNat (ai ((Int.tmod n_1 10)+1)))).size+s_1.size≤9223372036854775807)<|.tv ((10:Int)≠0) (by decide)<|.lf (some (Sum.inl ((ai (Int.tdiv n_1 10)),(((am [48,49,50,51,52,53,54,55,56,57]).extract (Int.toNat (Int.tmod n_1 10)) (Int.toNat (ai ((Int.tmod n_1 10)+1))))++s_1)))) .normal _<|hh fun _=>lx [0,1,5] [9,10,11,12] []) (.lf (some (Sum.inr s_1)) (.exit 0) _<|hh fun _=>lx [5] [9,10,11,12] [sv 0 (i64 n_1),sv 1 (i64 least)])
theorem YB {n_1 least s_1}:Ax tP 25 V1 0 iK (pt n_1 least s_1) (agz n_1 least s_1):=.tE mixed [] [0,1,5,9,10,11,12] 3
def tY (n least:Int) (s:(Int × ByteArray)):Option ((Int × ByteArray) ⊕ ((ByteArray))):=match s with | (n_1,s_1)=>(pt n_1 least s_1).opt
theorem Zw (n least s):Pp tP 25 (List.drop 0 V1) (D3 n least s) (tY n least s) (cd (D3 n least) (ym n least)):=fun K h=>match s,h with | (n_1,s_1),h=>(YB h)
theorem RX (n least):∀ r J K,ym n least r K→ym n least r (aE J K)
  | s,_,_,h=>h
def Ss (s_3:ByteArray):St:=⟨[sv 5 (bc s_3)],[],0⟩
def Cg (s_3:ByteArray):PT _ (rE Pc) iK:=.lf (some s_3) .ret _<|hh fun _=>l0
theorem Z2 {s_3}:Ax tP 25 pX 3 iK (Cg s_3) (Ss s_3):=.tE mixed [] [4] 2
def afP (n least:Int):St:=⟨[sv 0 (i64 n),sv 1 (i64 least),sv 5 (bc (am []))],[],0⟩
abbrev yK (n least:Int) (r:((ByteArray))):Option (ByteArray):=match r with | s_2=>((Cg s_2).opt)
def uF (n least:Int):Option (ByteArray):=(fixL (tY n least) (n,(am []))).bind (yK n least)
theorem Yv:List.drop 2 pX = .block 0 (.loop (ah (ah (aP pX 2)))) :: List.drop 3 pX:=by kernel_rfl
theorem adi (n least K):∀ r,W (yK n least r) (rE Pc K)→ym n least r (wK (aZ 0 (aE (au tP 25 (List.drop 3 pX) K) K)))
  | s_2,h=>⟨(Ss s_2),(.refl _),(Z2 h)⟩
theorem YA {n least K} (h:W (uF n least) (rE Pc K)):au tP 25 (List.drop 2 pX) K (afP n least) :=
  au.at_ Yv (au.cons_loop (aC.weak (aC.ent (.refl _) (aC.loopF (x:=ah (ah (aP pX 2))) (f:=tY n least) (emb:=D3 n least) (E:=ym n least) (Zw n least) (RX n least) (bM h (adi n least K))))))
def aef (n least:Int):St:=⟨[sv 0 (i64 n),sv 1 (i64 least)],[],0⟩
def ui (n least:Int):PT _ (rE Pc) (dK tP 25 pX 2 iK):=.lf (uF n least) .normal _<|hh fun _ h=>l0 (YA h)
theorem Zh {n least}:Ax tP 25 pX 0 iK (ui n least) (aef n least):=.tD mixed [] [0,1,5,9,10,11,12] 2
def qa (n least:Int):Option (ByteArray):=(ui n least).opt
def FF:bW:=fj (aI .i64) (aI .i64) qa (am []) LY
theorem M7:bg tP 144 FF:=dv Tryz.f144 (ao Tryz.f144) [.tmp 4] 25 fun u0 u1 y h=>@Zh u0 u1 _ (bn.2 ⟨y,h,(cx (bc y) (VLe.rfl' _))⟩)
abbrev aj4:FE tP:=⟨144, .pure FF,M7⟩
noncomputable def P9:List Code:=aA (ao Tryz.f135)
def zS (x_1:ByteArray):bN:=.data (bc x_1)
def aal (x_1:ByteArray):St:=⟨[sv 2 (bc x_1)],[],0⟩
def abI (s_1:ByteArray) (a:aH):St:=⟨[sv 1 (.ptr 0 2 0 0),sv 3 (bc s_1)],[(0,some (.bx (mO a)))],1⟩
def iq (s_1:ByteArray) (a:aH):PT _ (rE aal) iK:=.bf (a.Den != 1) (.g1 (s_1.size+(am [47]).size≤9223372036854775807)<|.bd (qa a.Den 1) (am []) fun r_5=>.g1 ((s_1++(am [47])).size+r_5.size≤9223372036854775807)<|.lf (some ((s_1++(am [47]))++r_5)) .ret _<|hh fun _=>l0) (.lf (some s_1) .ret _<|hh fun _=>l0)
theorem QN {s_1 a}:Ax tP 27 P9 6 iK (iq s_1 a) (abI s_1 a):=.tE mixed [aj4] [2] 4
def abo (a:aH):St:=⟨[sv 0 (.ag (mO a))],[],0⟩
def kJ (a:aH):PT _ (rE aal) (dK tP 27 P9 6 iK):=.bd (eT a) false fun r_6=>.bf (!r_6) (.lf (some (am [])) .ret (⟨[sv 1 (.ptr 0 2 0 0),sv 2 (bc (am []))],[(0,some (.bx (mO a)))],1⟩)<|hh fun _=>lg (.cn [2])) (.bd (l9 a.Num) 0 fun r_7=>.bd (qa (ai r_7) 1) (am []) fun r_8=>.bf (decide (a.Num < 0)) (.g1 ((am [45]).size+r_8.size≤9223372036854775807)<|.lf ((iq ((am [45])++r_8) a).opt) .normal _<|hh fun _ h=>lz (QN h) [1,3] [] [sv 2 (bc (am []))]) (.lf ((iq r_8 a).opt) .normal _<|hh fun _ h=>lz (QN h) [1,3] [] [sv 2 (bc (am []))]))
theorem YO {a}:Ax tP 27 P9 0 iK (kJ a) (abo a):=.tD mixed [e63,am4,aj4] [1,2,3] 6
def jV (a:aH):Option (ByteArray):=(kJ a).opt
def rD:bW:=dH E3 jV (am []) zS
theorem Bq:bg tP 135 rD:=cJ Tryz.f135 (ao Tryz.f135) [.tmp 2] 27 fun u0 y h=>@YO u0 _ (bn.2 ⟨y,h,(cx (bc y) (VLe.rfl' _))⟩)
abbrev aql:FE tP:=⟨135, .pure rD,Bq⟩
end
end Go.Ax
