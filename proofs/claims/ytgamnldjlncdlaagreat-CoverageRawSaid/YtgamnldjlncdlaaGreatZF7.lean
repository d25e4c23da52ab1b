import Derived.Test.YtgamnldjlncdlaaGreatZF6
import Derived.Test.YtgamnldjlncdlaaGreatRows
/- Types of the program, and functions of it: printed by a program, checked by the kernel. -/
set_option linter.all false
set_option maxRecDepth 100000
namespace Go.Ax
open Go.Proofs Go.Proofs.YtgamnldjlncdlaaGreat
noncomputable section
attribute [local irreducible] PT.opt
noncomputable def mN:List Code:=aA (ao Tryz.f7)
noncomputable def ajt:List Code:=aA (ah (ah (aP mN 4)))
noncomputable def sb:List Code:=aA (ah (ah (aP mN 8)))
noncomputable def Bi:List Code:=aA (ah (aP sb 2))
noncomputable def Ui:List Code:=aA (ah (ah (aP Bi 4)))
def Gy (x_2:((List aj) × Int)):bN:=.new (.tup [(iQ x_2.1),(i64 x_2.2)])
def N4 (x_2:((List aj) × Int)):St:=⟨[sv 8 (.row 0 4 0 x_2.1.length),sv 9 (i64 x_2.2)],[(cw 0 76 x_2.1)],1⟩
def Ih (l:(List ac)) (law:(List ar)) (schemes:(List an)) (before:Int) (s:(Int)):St:=match s with | t30=>⟨[sv 0 (aU l),sv 1 (bE law),sv 2 (cc schemes),sv 3 (i64 before),sv 28 (cc schemes),sv 29 (i64 (schemes.length:Int)),sv 30 (i64 t30)],[],0⟩
def akR (l:(List ac)) (law:(List ar)) (schemes:(List an)) (before:Int) (s:Unit):St:=match s with | ()=>⟨[sv 8 (.c .nil),sv 9 (i64 1)],[],0⟩
def QL (l:(List ac)) (law:(List ar)) (schemes:(List an)) (before:Int) (s:Unit):St:=match s with | ()=>⟨[sv 0 (aU l),sv 1 (bE law),sv 2 (cc schemes),sv 3 (i64 before)],[],0⟩
def IG (l:(List ac)) (law:(List ar)) (schemes:(List an)) (before:Int) (r:((Unit) ⊕ (Unit))) (K:KT):Prop:=match r with | (.inl s)=>K .ret (akR l law schemes before s) | (.inr s)=>K (.exit 0) (QL l law schemes before s)
def apr (l:(List ac)) (law:(List ar)) (schemes:(List an)) (before t30:Int):St:=Ih l law schemes before t30
def fR (l:(List ac)) (law:(List ar)) (schemes:(List an)) (before t30:Int):PT _ (nE (Ih l law schemes before) (IG l law schemes before)) iK:=.bf (decide (t30 < (schemes.length:Int))) (.g2 (0≤t30) (t30 < (schemes.length:Int))<|.g1 (((decide (0 < t30))&&((!(bif (decide ((schemes.getD (Int.toNat t30) bz).State < 0)) then true else (decide (6≤(schemes.getD (Int.toNat t30) bz).State))))&&true)) = true→0≤(ai (t30 - 1)))<|.g1 (((decide (0 < t30))&&((!(bif (decide ((schemes.getD (Int.toNat t30) bz).State < 0)) then true else (decide (6≤(schemes.getD (Int.toNat t30) bz).State))))&&true)) = true→(ai (t30 - 1)) < (schemes.length:Int))<|.bf (bif (bif (decide ((schemes.getD (Int.toNat t30) bz).State < 0)) then true else (decide (6≤(schemes.getD (Int.toNat t30) bz).State))) then true else (bif (decide (0 < t30)) then (decide ((schemes.getD (Int.toNat t30) bz).State≤(schemes.getD (Int.toNat (ai (t30 - 1))) bz).State)) else false)) (.lf (some (Sum.inr (Sum.inl ()))) .ret _<|hh fun _=>lx [8,9] [39,40,41,44,45,46,47,48,49,50,51,52,53,54,55,56] [sv 0 (aU l),sv 1 (bE law),sv 2 (cc schemes),sv 3 (i64 before),sv 28 (cc schemes),sv 29 (i64 (schemes.length:Int)),sv 30 (i64 t30)]) (.lf (some (Sum.inl (ai (t30+1)))) .normal _<|hh fun _=>lx [0,1,2,3,28,29,30] [39,40,41,44,45,46,47,48,49,50,51,52,53,54,55,56] [])) (.lf (some (Sum.inr (Sum.inr ()))) (.exit 0) (Ih l law schemes before t30)<|hh fun _=>lg (.cn [0,1,2,3]))
theorem anJ {l law schemes before t30}:Ax tP 128 ajt 0 iK (fR l law schemes before t30) (apr l law schemes before t30):=.tE mixed [] [0,1,2,3,8,9,28,29,30,39,40,41,44,45,46,47,48,49,50,51,52,53,54,55,56,104,105,106] 4
def iz (l:(List ac)) (law:(List ar)) (schemes:(List an)) (before:Int) (s:(Int)):Option ((Int) ⊕ ((Unit) ⊕ (Unit))):=match s with | t30=>(fR l law schemes before t30).opt
theorem alu (l law schemes before s):Pp tP 128 (List.drop 0 ajt) (Ih l law schemes before s) (iz l law schemes before s) (cd (Ih l law schemes before) (IG l law schemes before)):=fun K h=>match s,h with | t30,h=>(anJ h)
theorem XX (l law schemes before):∀ r J K,IG l law schemes before r K→IG l law schemes before r (aE J K)
  | (.inl s),_,_,h=>h
  | (.inr s),_,_,h=>h
def sN (l:(List ac)) (law:(List ar)) (schemes:(List an)) (past:ab) (s:(Int × (List aj))):St:=match s with | (t63,out_4)=>⟨[sv 0 (aU l),sv 1 (bE law),sv 12 (.ptr 0 1 0 0),sv 13 (.ptr 1 2 0 0),sv 61 (cc schemes),sv 62 (i64 (schemes.length:Int)),sv 63 (i64 t63)],[(0,some (.box [(.row 2 4 0 out_4.length)])),(1,some (.bx (aN past))),(cw 2 76 out_4)],3⟩
def akK (l:(List ac)) (law:(List ar)) (schemes:(List an)) (past:ab) (s:(List aj)):St:=match s with | out_8=>⟨[sv 12 (.ptr 0 1 0 0)],[(0,some (.box [(.row 1 4 0 out_8.length)])),(cw 1 76 out_8)],2⟩
def tn (l:(List ac)) (law:(List ar)) (schemes:(List an)) (past:ab) (r:(((List aj)))) (K:KT):Prop:=match r with | s=>K (.exit 2) (akK l law schemes past s)
def Fn (l:(List ac)) (law:(List ar)) (schemes:(List an)) (t63_3:Int) (t76:(List ca)) (t77:Int) (out_1:(List aj)) (past:ab) (x_1:an) (s:(Int × Int × (List aj))):St:=match s with | (t63_4,t78,out_3)=>⟨[sv 0 (aU l),sv 1 (bE law),sv 12 (.ptr 0 1 0 0),sv 13 (.ptr 1 2 0 0),sv 15 (.ptr 2 9 0 0),sv 16 (.fn 25 [(.ptr 0 1 0 0),(.ptr 2 9 0 0)]),sv 61 (cc schemes),sv 62 (i64 (schemes.length:Int)),sv 63 (i64 t63_4),sv 76 (.row 3 2 0 t76.length),sv 77 (i64 t77),sv 78 (i64 t78)],[(0,some (.box [(.row 4 4 0 out_3.length)])),(1,some (.bx (aN past))),(2,some (.bx (eo x_1))),(Ft 3 81 t76),(cw 4 76 out_3)],5⟩
def alL (l:(List ac)) (law:(List ar)) (schemes:(List an)) (t63_3:Int) (t76:(List ca)) (t77:Int) (out_1:(List aj)) (past:ab) (x_1:an) (s:Int × (List aj)):St:=match s with | (t63_6,out_5)=>⟨[sv 0 (aU l),sv 1 (bE law),sv 12 (.ptr 0 1 0 0),sv 13 (.ptr 1 2 0 0),sv 61 (cc schemes),sv 62 (i64 (schemes.length:Int)),sv 63 (i64 t63_6)],[(0,some (.box [(.row 2 4 0 out_5.length)])),(1,some (.bx (aN past))),(cw 2 76 out_5)],3⟩
def Fb (l:(List ac)) (law:(List ar)) (schemes:(List an)) (t63_3:Int) (t76:(List ca)) (t77:Int) (out_1:(List aj)) (past:ab) (x_1:an) (r:((Int × (List aj)))) (K:KT):Prop:=match r with | s=>K (.exit 4) (alL l law schemes t63_3 t76 t77 out_1 past x_1 s)
def aoz (l:(List ac)) (law:(List ar)) (schemes:(List an)) (t63_5:Int) (t76:(List ca)) (t77 t78_1:Int) (out_2:(List aj)) (past:ab) (x_1:an):St:=⟨[sv 0 (aU l),sv 1 (bE law),sv 12 (.ptr 0 1 0 0),sv 13 (.ptr 1 2 0 0),sv 15 (.ptr 2 9 0 0),sv 16 (.fn 25 [(.ptr 0 1 0 0),(.ptr 2 9 0 0)]),sv 61 (cc schemes),sv 62 (i64 (schemes.length:Int)),sv 63 (i64 t63_5),sv 76 (.row 3 2 0 t76.length),sv 77 (i64 t77),sv 78 (i64 t78_1)],[(0,some (.box [(.row 4 4 0 out_2.length)])),(1,some (.bx (aN past))),(2,some (.bx (eo x_1))),(Ft 3 81 t76),(cw 4 76 out_2)],5⟩
def eL (l:(List ac)) (law:(List ar)) (schemes:(List an)) (t63_5:Int) (t76:(List ca)) (t77 t78_1:Int) (out_2:(List aj)) (past:ab) (x_1:an):PT _ (nE (Fn l law schemes (0:Int) t76 t77 ([]:List aj) past x_1) (Fb l law schemes (0:Int) t76 t77 ([]:List aj) past x_1)) iK:=.lf (some (Sum.inl (t63_5,(ai (t78_1+1)),out_2))) .normal _<|hh fun _=>l0
theorem KM {l law schemes t63_5 t76 t77 t78_1 out_2 past x_1}:Ax tP 128 Ui 3 iK (eL l law schemes t63_5 t76 t77 t78_1 out_2 past x_1) (aoz l law schemes t63_5 t76 t77 t78_1 out_2 past x_1):=.tE mixed [] [0,1,12,13,15,16,61,62,63,76,77,78,104,105,106] 1
def apA (l:(List ac)) (law:(List ar)) (schemes:(List an)) (t63_4:Int) (t76:(List ca)) (t77 t78:Int) (out_3:(List aj)) (past:ab) (x_1:an):St:=Fn l law schemes (0:Int) t76 t77 ([]:List aj) past x_1 (t63_4,t78,out_3)
def fP (l:(List ac)) (law:(List ar)) (schemes:(List an)) (t63_4:Int) (t76:(List ca)) (t77 t78:Int) (out_3:(List aj)) (past:ab) (x_1:an):PT _ (nE (Fn l law schemes (0:Int) t76 t77 ([]:List aj) past x_1) (Fb l law schemes (0:Int) t76 t77 ([]:List aj) past x_1)) (dK tP 128 Ui 3 iK):=.bf (decide (t78 < t77)) (.g2 (0≤t78) (t78 < (t76.length:Int))<|.lk zx x_1.Version.Credits fun L1_=>.lk It x_1.Version.Series fun L2_=>.lk Ps x_1.Version.Lets fun L3_=>.lk Ig x_1.Version.Grants fun L4_=>.lk EX x_1.Version.Reduces fun L5_=>.bd (uq (aJ.mk x_1.Version.From (bs.mk x_1.Version.Rounding.Mode x_1.Version.Rounding.Unit) L1_ L2_ L3_ L4_ L5_) ((t76.getD (0+(Int.toNat t78)) mD).kind)) (0,false) fun r_13=>.bf (!r_13.2) (.lf ((eL l law schemes t63_4 t76 t77 t78 out_3 past x_1).opt) .normal _<|hh fun _ h=>l0 (KM h)) (.lk gX l fun L6_=>.bd (yD L6_ ((t76.getD (0+(Int.toNat t78)) mD).kind) x_1.State) [] fun r_14=>.tv (aK aN bD 2 2 r_14.length (fun i=>(bB r_14) (0+i))) (ae.ok aY (ae.zero .b))<|.ls (a:=lst bD r_14.length (fun i=>(bB r_14) (0+i))) (lr aY (ae.zero .b)) fun L7_=>.bd (md L7_ past) [] fun r_15=>.bf (bif (r_13.1 != 0) then ((t76.getD (0+(Int.toNat t78)) mD).kind == 10) else false) (.tv (QK l) (kb cE)<|.bd (qS L6_ x_1.State past r_13.1) [] fun r_16=>.tv (aK aN bD 2 2 r_16.length (fun i=>(bB r_16) (0+i))) (ae.ok aY (ae.zero .b))<|.tv (out_3.length = out_3.length) (rfl)<|.lk Fa out_3 fun L8_=>.tv (JW x_1.Version.Credits) (kb iY)<|.tv (MS x_1.Version.Series) (kb kp)<|.tv (Tg x_1.Version.Lets) (kb qf)<|.tv (Ni x_1.Version.Grants) (kb kz)<|.tv (JS x_1.Version.Reduces) (kb iZ)<|.ls (a:=lst bD r_16.length (fun i=>(bB r_16) (0+i))) (lr aY (ae.zero .b)) fun L9_=>.bd (cO ((t76.getD (0+(Int.toNat t78)) mD).rank) L9_ L8_ (an.mk x_1.State (aJ.mk x_1.Version.From (bs.mk x_1.Version.Rounding.Mode x_1.Version.Rounding.Unit) L1_ L2_ L3_ L4_ L5_))) [] fun r_17=>.lf ((eL l law schemes t63_4 t76 t77 t78 r_17 past x_1).opt) .normal _<|hh fun _ h=>lz (KM h) [0,1,12,13,15,16,61,62,63,76,77,78] [104,105,106] []) (.bf (r_13.1 != 0) (.tv (aK aN bD 2 2 r_15.length (fun i=>(bB r_15) (0+i))) (ae.ok aY (ae.zero .b))<|.ls (a:=lst bD r_15.length (fun i=>(bB r_15) (0+i))) (lr aY (ae.zero .b)) fun L10_=>.bd (sd L10_ r_13.1) [] fun r_18=>.tv (aK aN bD 2 2 r_18.length (fun i=>(bB r_18) (0+i))) (ae.ok aY (ae.zero .b))<|.tv (out_3.length = out_3.length) (rfl)<|.lk Fa out_3 fun L11_=>.tv (JW x_1.Version.Credits) (kb iY)<|.tv (MS x_1.Version.Series) (kb kp)<|.tv (Tg x_1.Version.Lets) (kb qf)<|.tv (Ni x_1.Version.Grants) (kb kz)<|.tv (JS x_1.Version.Reduces) (kb iZ)<|.ls (a:=lst bD r_18.length (fun i=>(bB r_18) (0+i))) (lr aY (ae.zero .b)) fun L12_=>.bd (cO ((t76.getD (0+(Int.toNat t78)) mD).rank) L12_ L11_ (an.mk x_1.State (aJ.mk x_1.Version.From (bs.mk x_1.Version.Rounding.Mode x_1.Version.Rounding.Unit) L1_ L2_ L3_ L4_ L5_))) [] fun r_19=>.lf ((eL l law schemes t63_4 t76 t77 t78 r_19 past x_1).opt) .normal _<|hh fun _ h=>lz (KM h) [0,1,12,13,15,16,61,62,63,76,77,78] [104,105,106] []) (.tv (aK aN bD 2 2 r_15.length (fun i=>(bB r_15) (0+i))) (ae.ok aY (ae.zero .b))<|.tv (out_3.length = out_3.length) (rfl)<|.lk Fa out_3 fun L13_=>.tv (JW x_1.Version.Credits) (kb iY)<|.tv (MS x_1.Version.Series) (kb kp)<|.tv (Tg x_1.Version.Lets) (kb qf)<|.tv (Ni x_1.Version.Grants) (kb kz)<|.tv (JS x_1.Version.Reduces) (kb iZ)<|.ls (a:=lst bD r_15.length (fun i=>(bB r_15) (0+i))) (lr aY (ae.zero .b)) fun L14_=>.bd (cO ((t76.getD (0+(Int.toNat t78)) mD).rank) L14_ L13_ (an.mk x_1.State (aJ.mk x_1.Version.From (bs.mk x_1.Version.Rounding.Mode x_1.Version.Rounding.Unit) L1_ L2_ L3_ L4_ L5_))) [] fun r_20=>.lf ((eL l law schemes t63_4 t76 t77 t78 r_20 past x_1).opt) .normal _<|hh fun _ h=>lz (KM h) [0,1,12,13,15,16,61,62,63,76,77,78] [104,105,106] [])))) (.lf (some (Sum.inr (t63_4,out_3))) (.exit 4) (Fn l law schemes (0:Int) t76 t77 ([]:List aj) past x_1 (t63_4,t78,out_3))<|hh fun _=>lg (.cn [0,1,12,13,61,62,63]))
theorem ajC {l law schemes t63_4 t76 t77 t78 out_3 past x_1}:Ax tP 128 Ui 0 iK (fP l law schemes t63_4 t76 t77 t78 out_3 past x_1) (apA l law schemes t63_4 t76 t77 t78 out_3 past x_1):=.tD mixed [e25,e26,e29,e30,e31,e32] [0,1,12,13,15,16,61,62,63,76,77,78,104,105,106] 3
def eV (l:(List ac)) (law:(List ar)) (schemes:(List an)) (t63_3:Int) (t76:(List ca)) (t77:Int) (out_1:(List aj)) (past:ab) (x_1:an) (s:(Int × Int × (List aj))):Option ((Int × Int × (List aj)) ⊕ ((Int × (List aj)))):=match s with | (t63_4,t78,out_3)=>(fP l law schemes t63_4 t76 t77 t78 out_3 past x_1).opt
theorem ajP (l law schemes t63_3 t76 t77 out_1 past x_1 s):Pp tP 128 (List.drop 0 Ui) (Fn l law schemes t63_3 t76 t77 out_1 past x_1 s) (eV l law schemes t63_3 t76 t77 out_1 past x_1 s) (cd (Fn l law schemes t63_3 t76 t77 out_1 past x_1) (Fb l law schemes t63_3 t76 t77 out_1 past x_1)):=fun K h=>match s,h with | (t63_4,t78,out_3),h=>(ajC h)
theorem Wa (l law schemes t63_3 t76 t77 out_1 past x_1):∀ r J K,Fb l law schemes t63_3 t76 t77 out_1 past x_1 r K→Fb l law schemes t63_3 t76 t77 out_1 past x_1 r (aE J K)
  | s,_,_,h=>h
def aaj (l:(List ac)) (law:(List ar)) (schemes:(List an)) (t63_7:Int) (out_6:(List aj)) (past:ab):St:=⟨[sv 0 (aU l),sv 1 (bE law),sv 12 (.ptr 0 1 0 0),sv 13 (.ptr 1 2 0 0),sv 61 (cc schemes),sv 62 (i64 (schemes.length:Int)),sv 63 (i64 t63_7)],[(0,some (.box [(.row 2 4 0 out_6.length)])),(1,some (.bx (aN past))),(cw 2 76 out_6)],3⟩
def kC (l:(List ac)) (law:(List ar)) (schemes:(List an)) (t63_7:Int) (out_6:(List aj)) (past:ab):PT _ (nE (sN l law schemes past) (tn l law schemes past)) iK:=.lf (some (Sum.inl ((ai (t63_7+1)),out_6))) .normal _<|hh fun _=>l0
theorem amY {l law schemes t63_7 out_6 past}:Ax tP 128 sb 3 iK (kC l law schemes t63_7 out_6 past) (aaj l law schemes t63_7 out_6 past):=.tE mixed [] [0,1,12,13,61,62,63,104,105,106] 1
def apj (l:(List ac)) (law:(List ar)) (schemes:(List an)) (t63_3:Int) (t76:(List ca)) (t77:Int) (out_1:(List aj)) (past:ab) (x_1:an):St:=⟨[sv 0 (aU l),sv 1 (bE law),sv 12 (.ptr 0 1 0 0),sv 13 (.ptr 1 2 0 0),sv 15 (.ptr 2 9 0 0),sv 16 (.fn 25 [(.ptr 0 1 0 0),(.ptr 2 9 0 0)]),sv 61 (cc schemes),sv 62 (i64 (schemes.length:Int)),sv 63 (i64 t63_3),sv 76 (.row 3 2 0 t76.length),sv 77 (i64 t77),sv 78 (i64 0)],[(0,some (.box [(.row 4 4 0 out_1.length)])),(1,some (.bx (aN past))),(2,some (.bx (eo x_1))),(Ft 3 81 t76),(cw 4 76 out_1)],5⟩
abbrev sM (l:(List ac)) (law:(List ar)) (schemes:(List an)) (t63_3:Int) (t76:(List ca)) (t77:Int) (out_1:(List aj)) (past:ab) (x_1:an) (r:((Int × (List aj)))):Option ((Int × (List aj)) ⊕ (((List aj)))):=match r with | (t63_6,out_5)=>((kC l law schemes t63_6 out_5 past).opt)
def wj (l:(List ac)) (law:(List ar)) (schemes:(List an)) (t63_3:Int) (t76:(List ca)) (t77:Int) (out_1:(List aj)) (past:ab) (x_1:an):Option ((Int × (List aj)) ⊕ (((List aj)))):=(fixL (eV l law schemes t63_3 t76 t77 out_1 past x_1) (t63_3,0,out_1)).bind (sM l law schemes t63_3 t76 t77 out_1 past x_1)
theorem aou:List.drop 4 Bi = .block 4 (.loop (ah (ah (aP Bi 4)))) :: List.drop 5 Bi:=by kernel_rfl
theorem apo (l law schemes t63_3 t76 t77 out_1 past x_1 K):∀ r,W (sM l law schemes t63_3 t76 t77 out_1 past x_1 r) (nE (sN l law schemes past) (tn l law schemes past) K)→Fb l law schemes t63_3 t76 t77 out_1 past x_1 r (wK (aZ 4 (aE (au tP 128 (List.drop 5 Bi) (aZ 3 (aE (au tP 128 (List.drop 3 sb) K) K))) (aZ 3 (aE (au tP 128 (List.drop 3 sb) K) K)))))
  | (t63_6,out_5),h=>⟨(aaj l law schemes t63_6 out_5 past),(.refl _),(au.end_ (by kernel_rfl:List.drop 5 Bi = []) (amY h))⟩
theorem amL {l law schemes t63_3 t76 t77 out_1 past x_1 K} (h:W (wj l law schemes t63_3 t76 t77 out_1 past x_1) (nE (sN l law schemes past) (tn l law schemes past) K)):au tP 128 (List.drop 4 Bi) (aZ 3 (aE (au tP 128 (List.drop 3 sb) K) K)) (apj l law schemes t63_3 t76 t77 out_1 past x_1) :=
  au.at_ aou (au.cons_loop (aC.weak (aC.ent (.refl _) (aC.loopF (x:=ah (ah (aP Bi 4))) (f:=eV l law schemes t63_3 t76 t77 out_1 past x_1) (emb:=Fn l law schemes t63_3 t76 t77 out_1 past x_1) (E:=Fb l law schemes t63_3 t76 t77 out_1 past x_1) (ajP l law schemes t63_3 t76 t77 out_1 past x_1) (Wa l law schemes t63_3 t76 t77 out_1 past x_1) (bM h (apo l law schemes t63_3 t76 t77 out_1 past x_1 K))))))
def ao4 (l:(List ac)) (law:(List ar)) (schemes:(List an)) (t63_2:Int) (out_9:(List aj)) (past:ab):St:=⟨[sv 0 (aU l),sv 1 (bE law),sv 12 (.ptr 0 1 0 0),sv 13 (.ptr 1 2 0 0),sv 61 (cc schemes),sv 62 (i64 (schemes.length:Int)),sv 63 (i64 t63_2)],[(0,some (.box [(.row 2 4 0 out_9.length)])),(1,some (.bx (aN past))),(cw 2 76 out_9)],3⟩
def ku (l:(List ac)) (law:(List ar)) (schemes:(List an)) (t63_2:Int) (out_9:(List aj)) (past:ab):PT _ (nE (sN l law schemes past) (tn l law schemes past)) (dK tP 128 Bi 4 (fun K=>(aZ 3 (aE (au tP 128 (List.drop 3 sb) K) K)))):=.g2 (0≤t63_2) (t63_2 < (schemes.length:Int))<|.lk HR law fun L1_=>.bd (ro L1_ ((schemes.getD (Int.toNat t63_2) bz).State) 3) [] fun r_21=>.tv (aK aN bD 2 2 r_21.length (fun i=>(bB r_21) (0+i))) (ae.ok aY (ae.zero .b))<|.ls (a:=lst bD r_21.length (fun i=>(bB r_21) (0+i))) (lr aY (ae.zero .b)) fun L2_=>.bd (md L2_ past) [] fun r_22=>.tv (aK aN bD 2 2 r_22.length (fun i=>(bB r_22) (0+i))) (ae.ok aY (ae.zero .b))<|.tv (out_9.length = out_9.length) (rfl)<|.lk Fa out_9 fun L3_=>.lk zx (((schemes.getD (Int.toNat t63_2) bz).Version).Credits) fun L4_=>.lk It (((schemes.getD (Int.toNat t63_2) bz).Version).Series) fun L5_=>.lk Ps (((schemes.getD (Int.toNat t63_2) bz).Version).Lets) fun L6_=>.lk Ig (((schemes.getD (Int.toNat t63_2) bz).Version).Grants) fun L7_=>.lk EX (((schemes.getD (Int.toNat t63_2) bz).Version).Reduces) fun L8_=>.ls (a:=lst bD r_22.length (fun i=>(bB r_22) (0+i))) (lr aY (ae.zero .b)) fun L9_=>.bd (cO 1 L9_ L3_ (an.mk (schemes.getD (Int.toNat t63_2) bz).State (aJ.mk ((schemes.getD (Int.toNat t63_2) bz).Version).From (bs.mk (((schemes.getD (Int.toNat t63_2) bz).Version).Rounding).Mode (((schemes.getD (Int.toNat t63_2) bz).Version).Rounding).Unit) L4_ L5_ L6_ L7_ L8_))) [] fun r_23=>.bd (ld) [] fun r_24=>.lf (wj l law schemes t63_2 r_24 (r_24.length:Int) r_23 past (schemes.getD (Int.toNat t63_2) bz)) .normal _<|hh fun _ h=>l0 (amL h)
theorem alV {l law schemes t63_2 out_9 past}:Ax tP 128 Bi 0 (fun K=>(aZ 3 (aE (au tP 128 (List.drop 3 sb) K) K))) (ku l law schemes t63_2 out_9 past) (ao4 l law schemes t63_2 out_9 past):=.tD mixed [e25,e26,e27,e28] [0,1,12,13,15,16,61,62,63,76,77,78,104,105,106] 4
def ao9 (l:(List ac)) (law:(List ar)) (schemes:(List an)) (t63_1:Int) (out_7:(List aj)) (past:ab):St:=⟨[sv 0 (aU l),sv 1 (bE law),sv 12 (.ptr 0 1 0 0),sv 13 (.ptr 1 2 0 0),sv 61 (cc schemes),sv 62 (i64 (schemes.length:Int)),sv 63 (i64 t63_1)],[(0,some (.box [(.row 2 4 0 out_7.length)])),(1,some (.bx (aN past))),(cw 2 76 out_7)],3⟩
def v8 (l:(List ac)) (law:(List ar)) (schemes:(List an)) (t63_1:Int) (out_7:(List aj)) (past:ab):Option ((Int × (List aj)) ⊕ (((List aj)))):=((ku l law schemes t63_1 out_7 past).opt)
theorem akr:List.drop 2 sb = .block 3 (ah (aP sb 2)) :: List.drop 3 sb:=by kernel_rfl
theorem aoq {l law schemes t63_1 out_7 past K} (h:W (v8 l law schemes t63_1 out_7 past) (nE (sN l law schemes past) (tn l law schemes past) K)):au tP 128 (List.drop 2 sb) K (ao9 l law schemes t63_1 out_7 past) :=
  au.at_ akr (au.cons_block (au.en (alV h) (.refl _)))
def aoS (l:(List ac)) (law:(List ar)) (schemes:(List an)) (t63:Int) (out_4:(List aj)) (past:ab):St:=sN l law schemes past (t63,out_4)
def fV (l:(List ac)) (law:(List ar)) (schemes:(List an)) (t63:Int) (out_4:(List aj)) (past:ab):PT _ (nE (sN l law schemes past) (tn l law schemes past)) (dK tP 128 sb 2 iK):=.bf (decide (t63 < (schemes.length:Int))) (.lf (v8 l law schemes t63 out_4 past) .normal _<|hh fun _ h=>l0 (aoq h)) (.lf (some (Sum.inr out_4)) (.exit 2) (sN l law schemes past (t63,out_4))<|hh fun _=>lg (.cn [12]))
theorem ai3 {l law schemes t63 out_4 past}:Ax tP 128 sb 0 iK (fV l law schemes t63 out_4 past) (aoS l law schemes t63 out_4 past):=.tD mixed [] [0,1,12,13,61,62,63,104,105,106] 2
def eR (l:(List ac)) (law:(List ar)) (schemes:(List an)) (past:ab) (s:(Int × (List aj))):Option ((Int × (List aj)) ⊕ (((List aj)))):=match s with | (t63,out_4)=>(fV l law schemes t63 out_4 past).opt
theorem ake (l law schemes past s):Pp tP 128 (List.drop 0 sb) (sN l law schemes past s) (eR l law schemes past s) (cd (sN l law schemes past) (tn l law schemes past)):=fun K h=>match s,h with | (t63,out_4),h=>(ai3 h)
theorem V6 (l law schemes past):∀ r J K,tn l law schemes past r K→tn l law schemes past r (aE J K)
  | s,_,_,h=>h
def aa9 (out_10:(List aj)):St:=⟨[sv 12 (.ptr 0 1 0 0)],[(0,some (.box [(.row 1 4 0 out_10.length)])),(cw 1 76 out_10)],2⟩
def vX (out_10:(List aj)):PT _ (rE N4) iK:=.lf (some (out_10,0)) .ret _<|hh fun _=>l0
theorem aki {out_10}:Ax tP 128 mN 9 iK (vX out_10) (aa9 out_10):=.tE mixed [] [8,9] 2
def apE (l:(List ac)) (law:(List ar)) (schemes:(List an)) (past:ab):St:=⟨[sv 0 (aU l),sv 1 (bE law),sv 12 (.ptr 0 1 0 0),sv 13 (.ptr 1 2 0 0),sv 61 (cc schemes),sv 62 (i64 (schemes.length:Int)),sv 63 (i64 0)],[(0,some (.box [(.c .nil)])),(1,some (.bx (aN past)))],2⟩
abbrev rV (l:(List ac)) (law:(List ar)) (schemes:(List an)) (past:ab) (r:(((List aj)))):Option (((List aj) × Int)):=match r with | out_8=>((vX out_8).opt)
def wm (l:(List ac)) (law:(List ar)) (schemes:(List an)) (past:ab):Option (((List aj) × Int)):=(fixL (eR l law schemes past) (0,([]:List aj))).bind (rV l law schemes past)
theorem ajG:List.drop 8 mN = .block 2 (.loop (ah (ah (aP mN 8)))) :: List.drop 9 mN:=by kernel_rfl
theorem ao0 (l law schemes past K):∀ r,W (rV l law schemes past r) (rE N4 K)→tn l law schemes past r (wK (aZ 2 (aE (au tP 128 (List.drop 9 mN) K) K)))
  | out_8,h=>⟨(aa9 out_8),(.refl _),(aki h)⟩
theorem aoo {l law schemes past K} (h:W (wm l law schemes past) (rE N4 K)):au tP 128 (List.drop 8 mN) K (apE l law schemes past) :=
  au.at_ ajG (au.cons_loop (aC.weak (aC.ent (.trans (.nilbox 0 0 2 76 4 (aV cM cr []) [(.c .nil)] (Nat.le_of_ble_eq_true rfl) rfl rfl) (.cn [0,1,12,13,61,62,63])) (aC.loopF (x:=ah (ah (aP mN 8))) (f:=eR l law schemes past) (emb:=sN l law schemes past) (E:=tn l law schemes past) (ake l law schemes past) (V6 l law schemes past) (bM h (ao0 l law schemes past K))))))
def WP (l:(List ac)) (law:(List ar)) (schemes:(List an)) (before:Int):St:=QL l law schemes before ()
def tN (l:(List ac)) (law:(List ar)) (schemes:(List an)) (before:Int):PT _ (rE N4) (dK tP 128 mN 8 iK):=.lf (wm l law schemes (ab.mk 0 before)) .normal _<|hh fun _ h=>l0 (aoo h)
theorem abM {l law schemes before}:Ax tP 128 mN 5 iK (tN l law schemes before) (WP l law schemes before):=.tD mixed [] [0,1,12,13,61,62,63,104,105,106] 3
def ak9 (l:(List ac)) (law:(List ar)) (schemes:(List an)) (before:Int):St:=⟨[sv 0 (aU l),sv 1 (bE law),sv 2 (cc schemes),sv 3 (i64 before),sv 28 (cc schemes),sv 29 (i64 (schemes.length:Int)),sv 30 (i64 0)],[],0⟩
abbrev rR (l:(List ac)) (law:(List ar)) (schemes:(List an)) (before:Int) (r:((Unit) ⊕ (Unit))):Option (((List aj) × Int)):=match r with | (.inl ())=>(some (([]:List aj),1)) | (.inr ())=>((tN l law schemes before).opt)
def nv (l:(List ac)) (law:(List ar)) (schemes:(List an)) (before:Int):Option (((List aj) × Int)):=(fixL (iz l law schemes before) 0).bind (rR l law schemes before)
theorem aeF:List.drop 4 mN = .block 0 (.loop (ah (ah (aP mN 4)))) :: List.drop 5 mN:=by kernel_rfl
theorem ajY (l law schemes before K):∀ r,W (rR l law schemes before r) (rE N4 K)→IG l law schemes before r (wK (aZ 0 (aE (au tP 128 (List.drop 5 mN) K) K)))
  | (.inl ()),h=>⟨(N4 (([]:List aj),1)),(.trans (.nilrow 8 0 76 4 (aV cM cr []) (Nat.le_of_ble_eq_true rfl) rfl) (.cn [8,9])),h⟩
  | (.inr ()),h=>⟨(WP l law schemes before),(.refl _),(abM h)⟩
theorem afM {l law schemes before K} (h:W (nv l law schemes before) (rE N4 K)):au tP 128 (List.drop 4 mN) K (ak9 l law schemes before) :=
  au.at_ aeF (au.cons_loop (aC.weak (aC.ent (.refl _) (aC.loopF (x:=ah (ah (aP mN 4))) (f:=iz l law schemes before) (emb:=Ih l law schemes before) (E:=IG l law schemes before) (alu l law schemes before) (XX l law schemes before) (bM h (ajY l law schemes before K))))))
def amr (l:(List ac)) (law:(List ar)) (schemes:(List an)) (before:Int):St:=QL l law schemes before ()
def jP (l:(List ac)) (law:(List ar)) (schemes:(List an)) (before:Int):PT _ (rE N4) (dK tP 128 mN 4 iK):=.bf (bif (decide (before < 0)) then true else (decide (73049 < before))) (.lf (some (([]:List aj),1)) .ret (⟨[sv 0 (aU l),sv 1 (bE law),sv 2 (cc schemes),sv 3 (i64 before),sv 8 (.c .nil),sv 9 (i64 1)],[],0⟩)<|hh fun _=>lg (.trans (.nilrow 8 0 76 4 (aV cM cr []) (Nat.le_of_ble_eq_true rfl) rfl) (.cn [8,9]))) (.lf (nv l law schemes before) .normal _<|hh fun _ h=>lz (afM h) [0,1,2,3,28,29,30] [] [sv 8 (.c .nil),sv 9 (i64 0)])
theorem ahZ {l law schemes before}:Ax tP 128 mN 0 iK (jP l law schemes before) (amr l law schemes before):=.tD mixed [] [0,1,2,3,8,9,28,29,30,39,40,41,44,45,46,47,48,49,50,51,52,53,54,55,56,104,105,106] 4
def kw (l:(List ac)) (law:(List ar)) (schemes:(List an)) (before:Int):Option (((List aj) × Int)):=(jP l law schemes before).opt
def xA:bW:=JZ gn wq QQ (aI .i64) kw (([]:List aj),(0:Int)) Gy
theorem GQ:bg tP 7 xA:=GR Tryz.f7 (ao Tryz.f7) [.tmp 8, .tmp 9] 128 fun u0 u1 u2 u3 y h=>@ahZ u0 u1 u2 u3 _ (bn.2 ⟨y,h,(cx (.tup [(.row 0 4 0 y.1.length),(i64 y.2)]) (⟨VLe.tup (VLes.cons (VLe.sl (ae.ls0 cM cr y.1)) (VLes.cons (VLe.rfl' _) (VLes.nil))),⟨⟨_,_,_,rfl,fun i hi d hd=>sF _ d hd⟩,rfl,trivial⟩⟩))⟩)
abbrev e7:FE tP:=⟨7, .pure xA,GQ⟩
noncomputable def aoT:List Code:=aA (ao Tryz.f90)
def J5 (x_1:(ab × Bool)):bN:=.data (.tup [(.agg [(i64 x_1.1.From),(i64 x_1.1.To)]),(bl x_1.2)])
def aq0 (x_1:(ab × Bool)):St:=⟨[sv 2 (.ptr 0 2 0 0),sv 3 (bl x_1.2)],[(0,some (.box [(i64 x_1.1.From),(i64 x_1.1.To)]))],1⟩
def alC (s_1:ab):St:=⟨[sv 0 (.ag (aN s_1))],[],0⟩
def AA (s_1:ab):PT _ (rE aq0) iK:=.lf (some ((ab.mk (if s_1.From < 0 then (0:Int) else s_1.From) (if (73049:Int) < s_1.To then (73049:Int) else s_1.To)),(decide ((if s_1.From < 0 then (0:Int) else s_1.From) < (if (73049:Int) < s_1.To then (73049:Int) else s_1.To))))) .ret _<|hh fun _=>l0
theorem agO {s_1}:Ax tP 17 aoT 0 iK (AA s_1) (alC s_1):=.tE mixed [] [2,3] 4
def H5 (s_1:ab):Option ((ab × Bool)):=(AA s_1).opt
def Cu:bW:=dH zo H5 (aq,false) J5
theorem LA:bg tP 90 Cu:=cJ Tryz.f90 (ao Tryz.f90) [.cell 2 59, .tmp 3] 17 fun u0 y h=>@agO u0 _ (bn.2 ⟨y,h,(cx (.tup [(.agg [(i64 y.1.From),(i64 y.1.To)]),(bl y.2)]) (VLe.tup (VLes.cons (VLe.rfl' _) (VLes.cons (VLe.rfl' _) (VLes.nil)))))⟩)
abbrev e90:FE tP:=⟨90, .pure Cu,LA⟩
noncomputable def vB:List Code:=aA (ao Tryz.f46)
noncomputable def aaq:List Code:=aA (ah (ah (aP vB 2)))
def Nm (x_1:(List Int)):St:=⟨[sv 4 (.row 0 1 0 x_1.length)],[(jG 0 3 x_1)],1⟩
theorem alt (x_1:(List Int)) {H:ap} {nid:Nat} {ps:List Prop} {o:Nat}:ep tP [.tmp 4] (fun σ v=>∃ m,Left [o] nid H false { pre:=ps,val:=.row o 1 0 x_1.length,eff:=[(o,some (.row 3 1 x_1.length (aV aT (0:Int) x_1)))],kill:=[o] } m σ v) .ret (Nm x_1) :=
  ep.intro (v:=(.row 0 1 0 x_1.length)) (by kernel_rfl) ⟨_,Q2 (q:=0) rfl (fun _ _=>rfl) (.inr fun i hi d hd=>J2 _ d hd)⟩
theorem adF (x_1:(List Int)) {H:ap} {nid:Nat} {ps:List Prop}:ep tP [.tmp 4] (fun σ v=>∃ m,Left [] nid H false { pre:=ps,val:=.row nid 1 0 x_1.length,eff:=[(nid,some (.row 3 1 x_1.length (aV aT (0:Int) x_1)))],kill:=[] } m σ v) .ret (Nm x_1) :=
  ep.intro (v:=(.row 0 1 0 x_1.length)) (by kernel_rfl) ⟨_,QU (q:=0) rfl (fun _ _=>rfl) (.inr fun i hi d hd=>J2 _ d hd)⟩
def HM (l:(List Int)) (n:Int) (s:(Int)):St:=match s with | at_1=>⟨[sv 0 (.row 0 1 0 l.length),sv 1 (i64 n),sv 5 (i64 at_1)],[(jG 0 3 l)],1⟩
def ab6 (l:(List Int)) (n:Int) (s:Int):St:=match s with | at_2=>⟨[sv 0 (.row 0 1 0 l.length),sv 1 (i64 n),sv 5 (i64 at_2)],[(jG 0 3 l)],1⟩
def Dd (l:(List Int)) (n:Int) (r:((Int))) (K:KT):Prop:=match r with | s=>K (.exit 0) (ab6 l n s)
def aji (l:(List Int)) (n at_1:Int):St:=HM l n at_1
def jq (l:(List Int)) (n at_1:Int):PT _ (nE (HM l n) (Dd l n)) iK:=.g1 (((decide (0 < at_1))&&true) = true→0≤(ai (at_1 - 1)))<|.g1 (((decide (0 < at_1))&&true) = true→(ai (at_1 - 1)) < (l.length:Int))<|.bf (bif (decide (0 < at_1)) then (decide (n≤(l.getD (0+(Int.toNat (ai (at_1 - 1)))) (0:Int)))) else false) (.lf (some (Sum.inl (ai (at_1 - 1)))) .normal _<|hh fun _=>lx [0,1,5] [11,12,13,14,15,16,17] []) (.lf (some (Sum.inr at_1)) (.exit 0) _<|hh fun _=>lx [0,1,5] [11,12,13,14,15,16,17] [])
theorem aem {l n at_1}:Ax tP 45 aaq 0 iK (jq l n at_1) (aji l n at_1):=.tE mixed [] [0,1,5,11,12,13,14,15,16,17,26,27,28,29,30,31] 3
def ql (l:(List Int)) (n:Int) (s:(Int)):Option ((Int) ⊕ ((Int))):=match s with | at_1=>(jq l n at_1).opt
theorem aeC (l n s):Pp tP 45 (List.drop 0 aaq) (HM l n s) (ql l n s) (cd (HM l n) (Dd l n)):=fun K h=>match s,h with | at_1,h=>(aem h)
theorem Uw (l n):∀ r J K,Dd l n r K→Dd l n r (aE J K)
  | s,_,_,h=>h
def Xi (l:(List Int)) (n at_3:Int):St:=⟨[sv 0 (.row 0 1 0 l.length),sv 1 (i64 n),sv 5 (i64 at_3)],[(jG 0 3 l)],1⟩
def nc (l:(List Int)) (n at_3:Int):PT _ (rE Nm) iK:=.g1 (((decide (at_3 < (l.length:Int)))&&true) = true→0≤at_3)<|.g1 (((decide (at_3 < (l.length:Int)))&&true) = true→at_3 < (l.length:Int))<|.bf (bif (decide (at_3 < (l.length:Int))) then ((l.getD (0+(Int.toNat at_3)) (0:Int)) == n) else false) (.lf (some l) .ret _<|hh fun _=>l0) (.g3 (0≤(0:Int)) ((0:Int)≤at_3) (at_3≤(l.length:Int))<|.gc (Int.toNat (at_3 - 0)) 8<|.tv ((Int.toNat (at_3 - 0)) = (Int.toNat (at_3 - 0))) rfl<|.gc ((Int.toNat (at_3 - 0))+1) 8<|.g3 (0≤at_3) (at_3≤(l.length:Int)) ((l.length:Int)≤(l.length:Int))<|.tv (((Int.toNat (at_3 - 0))+1) = ((Int.toNat (at_3 - 0))+1)) rfl<|.gc (((Int.toNat (at_3 - 0))+1)+(Int.toNat ((l.length:Int) - at_3))) 8<|.lf (some (((nz (0:Int) l 0 (Int.toNat (at_3 - 0)))++([n]:List Int))++(nz (0:Int) l (0+(Int.toNat at_3)) (Int.toNat ((l.length:Int) - at_3))))) .ret (⟨[sv 4 (.row 0 1 0 (((Int.toNat (at_3 - 0))+1)+(Int.toNat ((l.length:Int) - at_3))))],[(0,some (.row 3 1 (((Int.toNat (at_3 - 0))+1)+(Int.toNat ((l.length:Int) - at_3))) (fun i=>bif Nat.blt i ((Int.toNat (at_3 - 0))+1) then (fun i=>bif Nat.blt i (Int.toNat (at_3 - 0)) then (fun i=>(bH l) (0+i)) i else (fun i=>(bH ([n]:List Int)) (0+i)) (i - (Int.toNat (at_3 - 0)))) i else (fun i=>(bH l) ((0+(Int.toNat at_3))+i)) (i - ((Int.toNat (at_3 - 0))+1)))))],1⟩)<|hh fun _=>lg (.of (.cons rfl (.rown (bS (bS EU rfl) EU)) .nil) (.row rfl (ae.app (ae.app (ae.sub aT (0:Int) l 0 (Int.toNat (at_3 - 0))) (ae.zero (ae.ls aT (0:Int) ([n]:List Int)))) (ae.sub aT (0:Int) l (0+(Int.toNat at_3)) (Int.toNat ((l.length:Int) - at_3)))) .nil rfl) rfl))
theorem af7 {l n at_3}:Ax tP 45 vB 3 iK (nc l n at_3) (Xi l n at_3):=.tE mixed [] [4] 4
def ajU (l:(List Int)) (n:Int):St:=⟨[sv 0 (.row 0 1 0 l.length),sv 1 (i64 n),sv 5 (i64 (l.length:Int))],[(jG 0 3 l)],1⟩
abbrev FN (l:(List Int)) (n:Int) (r:((Int))):Option ((List Int)):=match r with | at_2=>((nc l n at_2).opt)
def JM (l:(List Int)) (n:Int):Option ((List Int)):=(fixL (ql l n) (l.length:Int)).bind (FN l n)
theorem afN:List.drop 2 vB = .block 0 (.loop (ah (ah (aP vB 2)))) :: List.drop 3 vB:=by kernel_rfl
theorem ajK (l n K):∀ r,W (FN l n r) (rE Nm K)→Dd l n r (wK (aZ 0 (aE (au tP 45 (List.drop 3 vB) K) K)))
  | at_2,h=>⟨(Xi l n at_2),(.refl _),(af7 h)⟩
theorem abR {l n K} (h:W (JM l n) (rE Nm K)):au tP 45 (List.drop 2 vB) K (ajU l n) :=
  au.at_ afN (au.cons_loop (aC.weak (aC.ent (.refl _) (aC.loopF (x:=ah (ah (aP vB 2))) (f:=ql l n) (emb:=HM l n) (E:=Dd l n) (aeC l n) (Uw l n) (bM h (ajK l n K))))))
def akH (l:(List Int)) (n:Int):St:=⟨[sv 0 (.row 0 1 0 l.length),sv 1 (i64 n)],[(jG 0 3 l)],1⟩
def Je (l:(List Int)) (n:Int):PT _ (rE Nm) (dK tP 45 vB 2 iK):=.lf (JM l n) .normal _<|hh fun _ h=>l0 (abR h)
theorem SL {l n}:Ax tP 45 vB 0 iK (Je l n) (akH l n):=.tD mixed [] [0,1,5,11,12,13,14,15,16,17,26,27,28,29,30,31] 2
def gv (l:(List Int)) (n:Int):Option ((List Int)):=(Je l n).opt
def Fi:ap→Nat→List V→Option cR:=fun H nid args=>match oV H [true,false] args with
  | [(.row o_ k_ f_ n_),(.c (.lit (.int .i64 a1)))]=>(match ap.get H o_ with
    | some (.row t_ k2_ m_ e_)=>bif Nat.beq t_ 3&&Nat.beq k2_ 1&&Nat.beq k_ 1&&Nat.beq f_ 0&&dY [o_] H false [true,false] args then some { pre:=[n_ = m_,aK aT bm 1 1 m_ e_,(gv (lst bm m_ e_) a1).isSome = true],val:=.row o_ 1 0 ((gv (lst bm m_ e_) a1).getD ([]:List Int)).length,eff:=[(o_,some (.row 3 1 ((gv (lst bm m_ e_) a1).getD ([]:List Int)).length (aV aT (0:Int) ((gv (lst bm m_ e_) a1).getD ([]:List Int)))))],kill:=[o_] } else none
    | _=>none)
  | [(.c .nil),(.c (.lit (.int .i64 a1)))]=>bif dY [] H false [true,false] args then some { pre:=[(gv ([]:List Int) a1).isSome = true],val:=.row nid 1 0 ((gv ([]:List Int) a1).getD ([]:List Int)).length,eff:=[(nid,some (.row 3 1 ((gv ([]:List Int) a1).getD ([]:List Int)).length (aV aT (0:Int) ((gv ([]:List Int) a1).getD ([]:List Int)))))],kill:=[] } else none
  | _=>none
theorem RC:bV tP 46 (.mut Fi):=by
  refine N8 (fn:=Tryz.f46) (c:=ao Tryz.f46) (by kernel_rfl) (by kernel_rfl) (by kernel_rfl) (rs:=[.tmp 4]) (by kernel_rfl) (nt:=45) (by kernel_rfl) fun H nid args r h hp=>?_
  unfold Fi at h
  split at h
  · next o_ k_ f_ n_ a1 hv =>
    split at h
    · next t_ k2_ m_ e_ hg =>
      cases hb:(Nat.beq t_ 3&&Nat.beq k2_ 1&&Nat.beq k_ 1&&Nat.beq f_ 0&&dY [o_] H false [true,false] args) with
      | false=>rw [hb] at h; cases h
      | true =>
        rw [hb] at h
        simp only [Bool.and_eq_true,Nat.beq_eq] at hb
        obtain ⟨⟨⟨⟨rfl,rfl⟩,rfl⟩,rfl⟩,hk⟩:=hb
        cases h
        obtain ⟨hn,hp⟩:=co hp
        obtain ⟨gr,hp⟩:=co hp
        obtain ⟨g,hp⟩:=co hp
        obtain ⟨x,hx⟩:=Option.isSome_iff_exists.1 g
        rw [hx]
        subst hn
        exact .inl ⟨false,[true,false],o_,3,1,_,e_,[.row 0 1 0 (lst bm _ e_).length,(i64 a1)],hg,hk,by rw [hv]; simp only [pP,cond_true,cond_false,Pz]; exact (VLes.cons (VLe.rown (ae.of_ok (z:=(0:Int)) gr).len) (VLes.cons (VLe.rfl' _) VLes.nil)),rfl,au.ent (du.of (bQ.cons rfl (VLe.rfl' _) (bQ.cons rfl (VLe.rfl' _) bQ.nil)) (cI.row rfl (ae.of_ok gr) cI.nil rfl) rfl) (@SL (lst bm _ e_) a1 _ (bn.2 ⟨x,hx,alt x⟩))⟩
    · cases h
  · next a1 hv =>
    cases hb:dY [] H false [true,false] args with
      | false=>rw [hb] at h; cases h
      | true =>
        rw [hb] at h
        cases h
        obtain ⟨g,hp⟩:=co hp
        obtain ⟨x,hx⟩:=Option.isSome_iff_exists.1 g
        rw [hx]
        exact .inr ⟨false,[true,false],[.c .nil,(i64 a1)],hb,by rw [hv]; simp only [pP,cond_true,cond_false]; exact (VLes.cons (VLe.rfl' _) (VLes.cons (VLe.rfl' _) VLes.nil)),rfl,au.ent (du.trans (du.nilrow 0 0 3 1 (aV aT (0:Int) []) (Nat.le_refl _) rfl) (du.of (bQ.cons rfl (VLe.rown rfl) (bQ.cons rfl (VLe.rfl' _) bQ.nil)) (cI.row rfl (ae.ls aT (0:Int) []) cI.nil rfl) rfl)) (@SL ([]:List Int) a1 _ (bn.2 ⟨x,hx,adF x⟩))⟩
  · cases h
abbrev e46:FE tP:=⟨46, .mut Fi,RC⟩
noncomputable def uO:List Code:=aA (ao Tryz.f67)
noncomputable def nF:List Code:=aA (ah (ah (aP uO 3)))
noncomputable def vH:List Code:=aA (ah (aP nF 2))
noncomputable def aaV:List Code:=aA (ah (ah (aP vH 1)))
def No (x_1:(List Int)):bN:=.own true 3 1 (x_1).length (aV aT (0:Int) x_1)
def UR (x_1:(List Int)):St:=⟨[sv 2 (.row 0 1 0 x_1.length)],[(jG 0 3 x_1)],1⟩
def oM (lists:(List (List ab))) (s:((List Int) × Int)):St:=match s with | (out_4,i_1)=>⟨[sv 0 (ml lists),sv 3 (.row 0 1 0 out_4.length),sv 4 (i64 i_1)],[(jG 0 3 out_4)],1⟩
def ado (lists:(List (List ab))) (s:(List Int)):St:=match s with | out_6=>⟨[sv 3 (.row 0 1 0 out_6.length)],[(jG 0 3 out_6)],1⟩
def oq (lists:(List (List ab))) (r:(((List Int)))) (K:KT):Prop:=match r with | s=>K (.exit 0) (ado lists s)
def CL (lists:(List (List ab))) (out_9:(List Int)) (i_4:Int) (s:((List Int) × Int × Int)):St:=match s with | (out_1,i_5,k)=>⟨[sv 0 (ml lists),sv 3 (.row 0 1 0 out_1.length),sv 4 (i64 i_5),sv 5 (i64 k)],[(jG 0 3 out_1)],1⟩
def ahi (lists:(List (List ab))) (out_9:(List Int)) (i_4:Int) (s:(List Int) × Int):St:=match s with | (out_2,i_6)=>⟨[sv 0 (ml lists),sv 3 (.row 0 1 0 out_2.length),sv 4 (i64 i_6)],[(jG 0 3 out_2)],1⟩
def Dj (lists:(List (List ab))) (out_9:(List Int)) (i_4:Int) (r:(((List Int) × Int))) (K:KT):Prop:=match r with | s=>K (.exit 2) (ahi lists out_9 i_4 s)
def ajR (lists:(List (List ab))) (out_1:(List Int)) (i_5 k:Int):St:=CL lists ([]:List Int) (0:Int) (out_1,i_5,k)
def gH (lists:(List (List ab))) (out_1:(List Int)) (i_5 k:Int):PT _ (nE (CL lists ([]:List Int) (0:Int)) (Dj lists ([]:List Int) (0:Int))) iK:=.g2 (0≤i_5) (i_5 < (lists.length:Int))<|.bf (decide (k < (((lists.getD (Int.toNat i_5) ([]:List ab))).length:Int))) (.g2 (0≤i_5) (i_5 < (lists.length:Int))<|.g2 (0≤k) (k < (((lists.getD (Int.toNat i_5) ([]:List ab))).length:Int))<|.bd (H5 ((lists.getD (Int.toNat i_5) ([]:List ab)).getD (Int.toNat k) aq)) (aq,false) fun r_4=>.bf r_4.2 (.tv (out_1.length = out_1.length) (rfl)<|.lk bC out_1 fun L1_=>.bd (gv L1_ r_4.1.From) [] fun r_5=>.tv (r_5.length = r_5.length) (rfl)<|.lk bC r_5 fun L2_=>.bd (gv L2_ r_4.1.To) [] fun r_6=>.lf (some (Sum.inl (r_6,i_5,(ai (k+1))))) .normal _<|hh fun _=>l0) (.lf (some (Sum.inl (out_1,i_5,(ai (k+1))))) .normal _<|hh fun _=>l0)) (.lf (some (Sum.inr (out_1,i_5))) (.exit 2) (CL lists ([]:List Int) (0:Int) (out_1,i_5,k))<|hh fun _=>lg (.cn [0,3,4]))
theorem afL {lists out_1 i_5 k}:Ax tP 43 aaV 0 iK (gH lists out_1 i_5 k) (ajR lists out_1 i_5 k):=.tE mixed [e46,e90] [0,3,4,5] 4
def mT (lists:(List (List ab))) (out_9:(List Int)) (i_4:Int) (s:((List Int) × Int × Int)):Option (((List Int) × Int × Int) ⊕ (((List Int) × Int))):=match s with | (out_1,i_5,k)=>(gH lists out_1 i_5 k).opt
theorem agk (lists out_9 i_4 s):Pp tP 43 (List.drop 0 aaV) (CL lists out_9 i_4 s) (mT lists out_9 i_4 s) (cd (CL lists out_9 i_4) (Dj lists out_9 i_4)):=fun K h=>match s,h with | (out_1,i_5,k),h=>(afL h)
theorem Vs (lists out_9 i_4):∀ r J K,Dj lists out_9 i_4 r K→Dj lists out_9 i_4 r (aE J K)
  | s,_,_,h=>h
def Vx (lists:(List (List ab))) (out_3:(List Int)) (i_7:Int):St:=⟨[sv 0 (ml lists),sv 3 (.row 0 1 0 out_3.length),sv 4 (i64 i_7)],[(jG 0 3 out_3)],1⟩
def Fy (lists:(List (List ab))) (out_3:(List Int)) (i_7:Int):PT _ (nE (oM lists) (oq lists)) iK:=.lf (some (Sum.inl (out_3,(ai (i_7+1))))) .normal _<|hh fun _=>l0
theorem aci {lists out_3 i_7}:Ax tP 43 nF 3 iK (Fy lists out_3 i_7) (Vx lists out_3 i_7):=.tE mixed [] [0,3,4] 1
def akq (lists:(List (List ab))) (out_9:(List Int)) (i_4:Int):St:=⟨[sv 0 (ml lists),sv 3 (.row 0 1 0 out_9.length),sv 4 (i64 i_4),sv 5 (i64 0)],[(jG 0 3 out_9)],1⟩
abbrev zX (lists:(List (List ab))) (out_9:(List Int)) (i_4:Int) (r:(((List Int) × Int))):Option (((List Int) × Int) ⊕ (((List Int)))):=match r with | (out_2,i_6)=>((Fy lists out_2 i_6).opt)
def Gq (lists:(List (List ab))) (out_9:(List Int)) (i_4:Int):Option (((List Int) × Int) ⊕ (((List Int)))):=(fixL (mT lists out_9 i_4) (out_9,i_4,0)).bind (zX lists out_9 i_4)
theorem agp:List.drop 1 vH = .block 2 (.loop (ah (ah (aP vH 1)))) :: List.drop 2 vH:=by kernel_rfl
theorem an2 (lists out_9 i_4 K):∀ r,W (zX lists out_9 i_4 r) (nE (oM lists) (oq lists) K)→Dj lists out_9 i_4 r (wK (aZ 2 (aE (au tP 43 (List.drop 2 vH) (aZ 1 (aE (au tP 43 (List.drop 3 nF) K) K))) (aZ 1 (aE (au tP 43 (List.drop 3 nF) K) K)))))
  | (out_2,i_6),h=>⟨(Vx lists out_2 i_6),(.refl _),(au.end_ (by kernel_rfl:List.drop 2 vH = []) (aci h))⟩
theorem ad7 {lists out_9 i_4 K} (h:W (Gq lists out_9 i_4) (nE (oM lists) (oq lists) K)):au tP 43 (List.drop 1 vH) (aZ 1 (aE (au tP 43 (List.drop 3 nF) K) K)) (akq lists out_9 i_4) :=
  au.at_ agp (au.cons_loop (aC.weak (aC.ent (.refl _) (aC.loopF (x:=ah (ah (aP vH 1))) (f:=mT lists out_9 i_4) (emb:=CL lists out_9 i_4) (E:=Dj lists out_9 i_4) (agk lists out_9 i_4) (Vs lists out_9 i_4) (bM h (an2 lists out_9 i_4 K))))))
def ajn (lists:(List (List ab))) (out_7:(List Int)) (i_3:Int):St:=⟨[sv 0 (ml lists),sv 3 (.row 0 1 0 out_7.length),sv 4 (i64 i_3)],[(jG 0 3 out_7)],1⟩
def FW (lists:(List (List ab))) (out_7:(List Int)) (i_3:Int):PT _ (nE (oM lists) (oq lists)) (dK tP 43 vH 1 (fun K=>(aZ 1 (aE (au tP 43 (List.drop 3 nF) K) K)))):=.lf (Gq lists out_7 i_3) .normal _<|hh fun _ h=>l0 (ad7 h)
theorem aeM {lists out_7 i_3}:Ax tP 43 vH 0 (fun K=>(aZ 1 (aE (au tP 43 (List.drop 3 nF) K) K))) (FW lists out_7 i_3) (ajn lists out_7 i_3):=.tD mixed [] [0,3,4,5] 1
def akf (lists:(List (List ab))) (out_5:(List Int)) (i_2:Int):St:=⟨[sv 0 (ml lists),sv 3 (.row 0 1 0 out_5.length),sv 4 (i64 i_2)],[(jG 0 3 out_5)],1⟩
def F3 (lists:(List (List ab))) (out_5:(List Int)) (i_2:Int):Option (((List Int) × Int) ⊕ (((List Int)))):=((FW lists out_5 i_2).opt)
theorem afI:List.drop 2 nF = .block 1 (ah (aP nF 2)) :: List.drop 3 nF:=by kernel_rfl
theorem ahl {lists out_5 i_2 K} (h:W (F3 lists out_5 i_2) (nE (oM lists) (oq lists) K)):au tP 43 (List.drop 2 nF) K (akf lists out_5 i_2) :=
  au.at_ afI (au.cons_block (au.en (aeM h) (.refl _)))
def akN (lists:(List (List ab))) (out_4:(List Int)) (i_1:Int):St:=oM lists (out_4,i_1)
def qI (lists:(List (List ab))) (out_4:(List Int)) (i_1:Int):PT _ (nE (oM lists) (oq lists)) (dK tP 43 nF 2 iK):=.bf (decide (i_1 < (lists.length:Int))) (.lf (F3 lists out_4 i_1) .normal _<|hh fun _ h=>l0 (ahl h)) (.lf (some (Sum.inr out_4)) (.exit 0) (oM lists (out_4,i_1))<|hh fun _=>lg (.cn [3]))
theorem agI {lists out_4 i_1}:Ax tP 43 nF 0 iK (qI lists out_4 i_1) (akN lists out_4 i_1):=.tD mixed [] [0,3,4] 2
def fM (lists:(List (List ab))) (s:((List Int) × Int)):Option (((List Int) × Int) ⊕ (((List Int)))):=match s with | (out_4,i_1)=>(qI lists out_4 i_1).opt
theorem adv (lists s):Pp tP 43 (List.drop 0 nF) (oM lists s) (fM lists s) (cd (oM lists) (oq lists)):=fun K h=>match s,h with | (out_4,i_1),h=>(agI h)
theorem TC (lists):∀ r J K,oq lists r K→oq lists r (aE J K)
  | s,_,_,h=>h
def XM (out_8:(List Int)):St:=⟨[sv 3 (.row 0 1 0 out_8.length)],[(jG 0 3 out_8)],1⟩
def FJ (out_8:(List Int)):PT _ (rE UR) iK:=.lf (some out_8) .ret _<|hh fun _=>l0
theorem ah7 {out_8}:Ax tP 43 uO 4 iK (FJ out_8) (XM out_8):=.tE mixed [] [2] 2
def aiH (lists:(List (List ab))):St:=⟨[sv 0 (ml lists),sv 3 (.c .nil),sv 4 (i64 0)],[],0⟩
abbrev AE (lists:(List (List ab))) (r:(((List Int)))):Option ((List Int)):=match r with | out_6=>((FJ out_6).opt)
def Gv (lists:(List (List ab))):Option ((List Int)):=(fixL (fM lists) (([]:List Int),0)).bind (AE lists)
theorem ahq:List.drop 3 uO = .block 0 (.loop (ah (ah (aP uO 3)))) :: List.drop 4 uO:=by kernel_rfl
theorem ajo (lists K):∀ r,W (AE lists r) (rE UR K)→oq lists r (wK (aZ 0 (aE (au tP 43 (List.drop 4 uO) K) K)))
  | out_6,h=>⟨(XM out_6),(.refl _),(ah7 h)⟩
theorem abH {lists K} (h:W (Gv lists) (rE UR K)):au tP 43 (List.drop 3 uO) K (aiH lists) :=
  au.at_ ahq (au.cons_loop (aC.weak (aC.ent (.trans (.nilrow 3 0 3 1 (aV aT (0:Int) []) (Nat.le_of_ble_eq_true rfl) rfl) (.cn [0,3,4])) (aC.loopF (x:=ah (ah (aP uO 3))) (f:=fM lists) (emb:=oM lists) (E:=oq lists) (adv lists) (TC lists) (bM h (ajo lists K))))))
def akX (lists:(List (List ab))):St:=⟨[sv 0 (ml lists)],[],0⟩
def Gk (lists:(List (List ab))):PT _ (rE UR) (dK tP 43 uO 3 iK):=.lf (Gv lists) .normal _<|hh fun _ h=>l0 (abH h)
theorem ab2 {lists}:Ax tP 43 uO 0 iK (Gk lists) (akX lists):=.tD mixed [] [0,3,4] 3
def xK (lists:(List (List ab))):Option ((List Int)):=(Gk lists).opt
def Hu:bW:=dH Zs xK ([]:List Int) No
theorem OU:bg tP 67 Hu:=cJ Tryz.f67 (ao Tryz.f67) [.tmp 2] 43 fun u0 y h=>@ab2 u0 _ (bn.2 ⟨y,h,(cx (.row 0 1 0 y.length) (⟨_,_,_,rfl,rfl,rfl,fun _ _=>rfl,fun _ i hi d hd=>J2 _ d hd⟩))⟩)
abbrev e67:FE tP:=⟨67, .pure Hu,OU⟩
noncomputable def apW:List Code:=aA (ao Tryz.f91)
def I2 (x_1:Bool):bN:=.data (bl x_1)
def aq7 (x_1:Bool):St:=⟨[sv 2 (bl x_1)],[],0⟩
def anG (day:Int):St:=⟨[sv 0 (i64 day)],[],0⟩
def yI (day:Int):PT _ (rE aq7) iK:=.lf (some (bif (decide (0≤day)) then (decide (day≤73048)) else false)) .ret _<|hh fun _=>l0
theorem agK {day}:Ax tP 9 apW 0 iK (yI day) (anG day):=.tE mixed [] [2] 3
def qK (day:Int):Option (Bool):=(yI day).opt
def Aq:bW:=dH (aI .i64) qK false I2
theorem Kp:bg tP 91 Aq:=cJ Tryz.f91 (ao Tryz.f91) [.tmp 2] 9 fun u0 y h=>@agK u0 _ (bn.2 ⟨y,h,(cx (bl y) (VLe.rfl' _))⟩)
abbrev e91:FE tP:=⟨91, .pure Aq,Kp⟩
noncomputable def uM:List Code:=aA (ao Tryz.f68)
noncomputable def aav:List Code:=aA (ah (ah (aP uM 2)))
def IZ (x_1:Bool):bN:=.data (bl x_1)
def QJ (x_1:Bool):St:=⟨[sv 4 (bl x_1)],[],0⟩
def CY (l:(List ab)) (day:Int) (s:(Int)):St:=match s with | i_1=>⟨[sv 0 (dF l),sv 1 (i64 day),sv 5 (i64 i_1)],[],0⟩
def aht (l:(List ab)) (day:Int) (s:Unit):St:=match s with | ()=>⟨[sv 4 (bl true)],[],0⟩
def abh (l:(List ab)) (day:Int) (s:Unit):St:=match s with | ()=>⟨[],[],0⟩
def Di (l:(List ab)) (day:Int) (r:((Unit) ⊕ (Unit))) (K:KT):Prop:=match r with | (.inl s)=>K .ret (aht l day s) | (.inr s)=>K (.exit 0) (abh l day s)
def aiZ (l:(List ab)) (day i_1:Int):St:=CY l day i_1
def eQ (l:(List ab)) (day i_1:Int):PT _ (nE (CY l day) (Di l day)) iK:=.bf (decide (i_1 < (l.length:Int))) (.g2 (0≤i_1) (i_1 < (l.length:Int))<|.g1 (((decide ((l.getD (Int.toNat i_1) aq).From≤day))&&true) = true→0≤i_1)<|.g1 (((decide ((l.getD (Int.toNat i_1) aq).From≤day))&&true) = true→i_1 < (l.length:Int))<|.g1 (((bif (decide ((l.getD (Int.toNat i_1) aq).From≤day)) then (decide (day < (l.getD (Int.toNat i_1) aq).To)) else false)&&true) = true→(qK day).isSome = true)<|.bf (bif (bif (decide ((l.getD (Int.toNat i_1) aq).From≤day)) then (decide (day < (l.getD (Int.toNat i_1) aq).To)) else false) then ((qK day).getD false) else false) (.lf (some (Sum.inr (Sum.inl ()))) .ret _<|hh fun _=>lx [4] [20,21,22,23,24,25,26,29,30] [sv 0 (dF l),sv 1 (i64 day),sv 5 (i64 i_1)]) (.lf (some (Sum.inl (ai (i_1+1)))) .normal _<|hh fun _=>lx [0,1,5] [20,21,22,23,24,25,26,29,30] [])) (.lf (some (Sum.inr (Sum.inr ()))) (.exit 0) (CY l day i_1)<|hh fun _=>lg (.cn []))
theorem afH {l day i_1}:Ax tP 32 aav 0 iK (eQ l day i_1) (aiZ l day i_1):=.tE mixed [e91] [0,1,4,5,20,21,22,23,24,25,26,29,30] 4
def jE (l:(List ab)) (day:Int) (s:(Int)):Option ((Int) ⊕ ((Unit) ⊕ (Unit))):=match s with | i_1=>(eQ l day i_1).opt
theorem acy (l day s):Pp tP 32 (List.drop 0 aav) (CY l day s) (jE l day s) (cd (CY l day) (Di l day)):=fun K h=>match s,h with | i_1,h=>(afH h)
theorem TG (l day):∀ r J K,Di l day r K→Di l day r (aE J K)
  | (.inl s),_,_,h=>h
  | (.inr s),_,_,h=>h
def Xg:St:=⟨[],[],0⟩
def yq:PT _ (rE QJ) iK:=.lf (some false) .ret _<|hh fun _=>l0
theorem agX:Ax tP 32 uM 3 iK yq Xg:=.tE mixed [] [4] 2
def akZ (l:(List ab)) (day:Int):St:=⟨[sv 0 (dF l),sv 1 (i64 day),sv 5 (i64 0)],[],0⟩
abbrev og (l:(List ab)) (day:Int) (r:((Unit) ⊕ (Unit))):Option (Bool):=match r with | (.inl ())=>(some true) | (.inr ())=>yq.opt
def zH (l:(List ab)) (day:Int):Option (Bool):=(fixL (jE l day) 0).bind (og l day)
theorem agw:List.drop 2 uM = .block 0 (.loop (ah (ah (aP uM 2)))) :: List.drop 3 uM:=by kernel_rfl
theorem aj0 (l day K):∀ r,W (og l day r) (rE QJ K)→Di l day r (wK (aZ 0 (aE (au tP 32 (List.drop 3 uM) K) K)))
  | (.inl ()),h=>⟨(QJ true),(.refl _),h⟩
  | (.inr ()),h=>⟨(Xg),(.refl _),(agX h)⟩
theorem abw {l day K} (h:W (zH l day) (rE QJ K)):au tP 32 (List.drop 2 uM) K (akZ l day) :=
  au.at_ agw (au.cons_loop (aC.weak (aC.ent (.refl _) (aC.loopF (x:=ah (ah (aP uM 2))) (f:=jE l day) (emb:=CY l day) (E:=Di l day) (acy l day) (TG l day) (bM h (aj0 l day K))))))
def aj3 (l:(List ab)) (day:Int):St:=⟨[sv 0 (dF l),sv 1 (i64 day)],[],0⟩
def y7 (l:(List ab)) (day:Int):PT _ (rE QJ) (dK tP 32 uM 2 iK):=.lf (zH l day) .normal _<|hh fun _ h=>l0 (abw h)
theorem ahF {l day}:Ax tP 32 uM 0 iK (y7 l day) (aj3 l day):=.tD mixed [] [0,1,5,20,21,22,23,24,25,26,29,30] 2
def m3 (l:(List ab)) (day:Int):Option (Bool):=(y7 l day).opt
def AT:bW:=fj lD (aI .i64) m3 false IZ
theorem Kg:bg tP 68 AT:=dv Tryz.f68 (ao Tryz.f68) [.tmp 4] 32 fun u0 u1 y h=>@ahF u0 u1 _ (bn.2 ⟨y,h,(cx (bl y) (VLe.rfl' _))⟩)
abbrev e68:FE tP:=⟨68, .pure AT,Kg⟩
noncomputable def aoR:List Code:=aA (ao Tryz.f69)
def QZ (x_1:(List ab)):bN:=.own true 59 2 (x_1).length (aV aN aq x_1)
def aqm (x_1:(List ab)):St:=⟨[sv 4 (.row 0 2 0 x_1.length)],[(bh 0 59 x_1)],1⟩
def ajl (l:(List ab)) (s_1:ab):St:=⟨[sv 0 (dF l),sv 1 (.ag (aN s_1))],[],0⟩
def uR (l:(List ab)) (s_1:ab):PT _ (rE aqm) iK:=.g1 (((decide (0 < (l.length:Int)))&&true) = true→0≤(ai ((l.length:Int) - 1)))<|.g1 (((decide (0 < (l.length:Int)))&&true) = true→(ai ((l.length:Int) - 1)) < (l.length:Int))<|.bf (bif (decide (0 < (l.length:Int))) then ((l.getD (Int.toNat (ai ((l.length:Int) - 1))) aq).To == s_1.From) else false) (.gc l.length 16<|.g2 (0≤(ai ((l.length:Int) - 1))) ((ai ((l.length:Int) - 1)) < (l.length:Int))<|.lf (some (l.set (0+(Int.toNat (ai ((l.length:Int) - 1)))) (ab.mk (l.getD (0+(Int.toNat (ai ((l.length:Int) - 1)))) aq).From s_1.To))) .ret (⟨[sv 4 (.row 0 2 0 l.length)],[(0,some (.row 59 2 l.length (fun q=>bif Nat.beq q (0+(Int.toNat (ai ((l.length:Int) - 1)))) then (aN (ab.s_To (l.getD (0+(Int.toNat (ai ((l.length:Int) - 1)))) aq) s_1.To)) else (bB l) q)))],1⟩)<|hh fun _=>lg (.of (.cons rfl (.rown (lJ rfl)) .nil) (.row rfl (ae.set .b (0+(Int.toNat (ai ((l.length:Int) - 1)))) (ab.s_To (l.getD (0+(Int.toNat (ai ((l.length:Int) - 1)))) aq) s_1.To) rfl) .nil rfl) rfl)) (.gc l.length 16<|.tv (l.length = l.length) rfl<|.gc (l.length+1) 16<|.lf (some (l++([s_1]:List ab))) .ret (⟨[sv 4 (.row 0 2 0 (l.length+1))],[(0,some (.row 59 2 (l.length+1) (fun i=>bif Nat.blt i l.length then (bB l) i else (fun i=>(dj 2 (aN s_1)) (0+i)) (i - l.length))))],1⟩)<|hh fun _=>lg (.of (.cons rfl (.rown (bS rfl rfl)) .nil) (.row rfl (ae.app .b (ae.zero (ae.l1 (enc:=aN) (z:=aq) 2 s_1 rfl))) .nil rfl) rfl))
theorem aid {l s_1}:Ax tP 37 aoR 0 iK (uR l s_1) (ajl l s_1):=.tE mixed [] [4] 6
def Kw (l:(List ab)) (s_1:ab):Option ((List ab)):=(uR l s_1).opt
def Lg:bW:=fj lD zo Kw ([]:List ab) QZ
theorem Sh:bg tP 69 Lg:=dv Tryz.f69 (ao Tryz.f69) [.tmp 4] 37 fun u0 u1 y h=>@aid u0 u1 _ (bn.2 ⟨y,h,(cx (.row 0 2 0 y.length) (⟨_,_,_,rfl,rfl,rfl,fun _ _=>rfl,fun _ i hi d hd=>dJ _ d hd⟩))⟩)
abbrev e69:FE tP:=⟨69, .pure Lg,Sh⟩
noncomputable def uZ:List Code:=aA (ao Tryz.f43)
noncomputable def aan:List Code:=aA (ah (ah (aP uZ 4)))
def Kq (x_1:(List ab)):bN:=.own true 59 2 (x_1).length (aV aN aq x_1)
def UM (x_1:(List ab)):St:=⟨[sv 6 (.row 0 2 0 x_1.length)],[(bh 0 59 x_1)],1⟩
def CV (a b:(List ab)) (kind:Int) (e_1:(List Int)) (s:((List ab) × Int)):St:=match s with | (out_1,i_1)=>⟨[sv 0 (dF a),sv 1 (dF b),sv 2 (i64 kind),sv 7 (.row 0 1 0 e_1.length),sv 8 (.row 1 2 0 out_1.length),sv 9 (i64 i_1)],[(jG 0 3 e_1),(bh 1 59 out_1)],2⟩
def age (a b:(List ab)) (kind:Int) (e_1:(List Int)) (s:(List ab)):St:=match s with | out_2=>⟨[sv 8 (.row 0 2 0 out_2.length)],[(bh 0 59 out_2)],1⟩
def DX (a b:(List ab)) (kind:Int) (e_1:(List Int)) (r:(((List ab)))) (K:KT):Prop:=match r with | s=>K (.exit 0) (age a b kind e_1 s)
def alc (a b:(List ab)) (kind:Int) (e_1:(List Int)) (out_1:(List ab)) (i_1:Int):St:=CV a b kind e_1 (out_1,i_1)
def gB (a b:(List ab)) (kind:Int) (e_1:(List Int)) (out_1:(List ab)) (i_1:Int):PT _ (nE (CV a b kind e_1) (DX a b kind e_1)) iK:=.bf (decide ((ai (i_1+1)) < (e_1.length:Int))) (.g2 (0≤i_1) (i_1 < (e_1.length:Int))<|.lk oQ a fun L1_=>.bd (m3 L1_ (e_1.getD (0+(Int.toNat i_1)) (0:Int))) false fun r_5=>.g2 (0≤i_1) (i_1 < (e_1.length:Int))<|.lk oQ b fun L2_=>.bd (m3 L2_ (e_1.getD (0+(Int.toNat i_1)) (0:Int))) false fun r_6=>.bf (bif (bif (bif (bif (kind == 1) then r_5 else false) then r_6 else false) then true else (bif (kind == 2) then (bif r_5 then true else r_6) else false)) then true else (bif (bif (kind == 3) then r_5 else false) then (!r_6) else false)) (.g2 (0≤i_1) (i_1 < (e_1.length:Int))<|.g2 (0≤(ai (i_1+1))) ((ai (i_1+1)) < (e_1.length:Int))<|.tv (aK aN bD 2 2 out_1.length (fun i=>(bB out_1) (0+i))) (ae.ok aY (ae.zero .b))<|.ls (a:=lst bD out_1.length (fun i=>(bB out_1) (0+i))) (lr aY (ae.zero .b)) fun L3_=>.bd (Kw L3_ (ab.mk (e_1.getD (0+(Int.toNat i_1)) (0:Int)) (e_1.getD (0+(Int.toNat (ai (i_1+1)))) (0:Int)))) [] fun r_7=>.lf (some (Sum.inl (r_7,(ai (i_1+1))))) .normal _<|hh fun _=>lx [0,1,2,7,8,9] [38,41,44,45,46,47,48,49,50,51,54,55,56,57,58,59,60,61,62] []) (.lf (some (Sum.inl (out_1,(ai (i_1+1))))) .normal _<|hh fun _=>lx [0,1,2,7,8,9] [38,41,44,45,46,47,48,49,50,51,54,55,56,57,58,59,60,61,62] [])) (.lf (some (Sum.inr out_1)) (.exit 0) (CV a b kind e_1 (out_1,i_1))<|hh fun _=>lg (.cn [8]))
theorem afu {a b kind e_1 out_1 i_1}:Ax tP 77 aan 0 iK (gB a b kind e_1 out_1 i_1) (alc a b kind e_1 out_1 i_1):=.tE mixed [e68,e69] [0,1,2,7,8,9,38,41,44,45,46,47,48,49,50,51,54,55,56,57,58,59,60,61,62] 4
def iF (a b:(List ab)) (kind:Int) (e_1:(List Int)) (s:((List ab) × Int)):Option (((List ab) × Int) ⊕ (((List ab)))):=match s with | (out_1,i_1)=>(gB a b kind e_1 out_1 i_1).opt
theorem ahS (a b kind e_1 s):Pp tP 77 (List.drop 0 aan) (CV a b kind e_1 s) (iF a b kind e_1 s) (cd (CV a b kind e_1) (DX a b kind e_1)):=fun K h=>match s,h with | (out_1,i_1),h=>(afu h)
theorem Tv (a b kind e_1):∀ r J K,DX a b kind e_1 r K→DX a b kind e_1 r (aE J K)
  | s,_,_,h=>h
def XS (out_3:(List ab)):St:=⟨[sv 8 (.row 0 2 0 out_3.length)],[(bh 0 59 out_3)],1⟩
def Aa (out_3:(List ab)):PT _ (rE UM) iK:=.lf (some out_3) .ret _<|hh fun _=>l0
theorem ah5 {out_3}:Ax tP 77 uZ 5 iK (Aa out_3) (XS out_3):=.tE mixed [] [6] 2
def aja (a b:(List ab)) (kind:Int) (e_1:(List Int)):St:=⟨[sv 0 (dF a),sv 1 (dF b),sv 2 (i64 kind),sv 7 (.row 0 1 0 e_1.length),sv 8 (.c .nil),sv 9 (i64 0)],[(jG 0 3 e_1)],1⟩
abbrev xo (a b:(List ab)) (kind:Int) (e_1:(List Int)) (r:(((List ab)))):Option ((List ab)):=match r with | out_2=>((Aa out_2).opt)
def Ab (a b:(List ab)) (kind:Int) (e_1:(List Int)):Option ((List ab)):=(fixL (iF a b kind e_1) (([]:List ab),0)).bind (xo a b kind e_1)
theorem adl:List.drop 4 uZ = .block 0 (.loop (ah (ah (aP uZ 4)))) :: List.drop 5 uZ:=by kernel_rfl
theorem ai1 (a b kind e_1 K):∀ r,W (xo a b kind e_1 r) (rE UM K)→DX a b kind e_1 r (wK (aZ 0 (aE (au tP 77 (List.drop 5 uZ) K) K)))
  | out_2,h=>⟨(XS out_2),(.refl _),(ah5 h)⟩
theorem afs {a b kind e_1 K} (h:W (Ab a b kind e_1) (rE UM K)):au tP 77 (List.drop 4 uZ) K (aja a b kind e_1) :=
  au.at_ adl (au.cons_loop (aC.weak (aC.ent (.trans (.nilrow 8 1 59 2 (aV aN aq []) (Nat.le_of_ble_eq_true rfl) rfl) (.cn [0,1,2,7,8,9])) (aC.loopF (x:=ah (ah (aP uZ 4))) (f:=iF a b kind e_1) (emb:=CV a b kind e_1) (E:=DX a b kind e_1) (ahS a b kind e_1) (Tv a b kind e_1) (bM h (ai1 a b kind e_1 K))))))
def aj8 (a b:(List ab)) (kind:Int):St:=⟨[sv 0 (dF a),sv 1 (dF b),sv 2 (i64 kind)],[],0⟩
def As (a b:(List ab)) (kind:Int):PT _ (rE UM) (dK tP 77 uZ 4 iK):=.tv (aK EQ Fm 1 1 2 (fun i=>(fun i=>(List.take 1 (List.drop (i*1) [(.sl 2 a.length (bB a)),(.sl 2 b.length (bB b))]))) (0+i))) (ae.ok xx (ae.zero (ae.lits (el:=(fun i=>(List.take 1 (List.drop (i*1) [(.sl 2 a.length (bB a)),(.sl 2 b.length (bB b))])))) (z:=([]:List ab)) (l:=([a,b]:List (List ab))) ⟨.refl _, .refl _,trivial⟩)))<|.ls (a:=lst Fm 2 (fun i=>(fun i=>(List.take 1 (List.drop (i*1) [(.sl 2 a.length (bB a)),(.sl 2 b.length (bB b))]))) (0+i))) (lr xx (ae.zero (ae.lits (el:=(fun i=>(List.take 1 (List.drop (i*1) [(.sl 2 a.length (bB a)),(.sl 2 b.length (bB b))])))) (z:=([]:List ab)) (l:=([a,b]:List (List ab))) ⟨.refl _, .refl _,trivial⟩))) fun L1_=>.bd (xK L1_) [] fun r_8=>.lf (Ab a b kind r_8) .normal _<|hh fun _ h=>l0 (afs h)
theorem ahH {a b kind}:Ax tP 77 uZ 0 iK (As a b kind) (aj8 a b kind):=.tD mixed [e67] [0,1,2,7,8,9,38,41,44,45,46,47,48,49,50,51,54,55,56,57,58,59,60,61,62] 4
def lX (a b:(List ab)) (kind:Int):Option ((List ab)):=(As a b kind).opt
def Dl:bW:=yE lD lD (aI .i64) lX ([]:List ab) Kq
theorem KQ:bg tP 43 Dl:=ta Tryz.f43 (ao Tryz.f43) [.tmp 6] 77 fun u0 u1 u2 y h=>@ahH u0 u1 u2 _ (bn.2 ⟨y,h,(cx (.row 0 2 0 y.length) (⟨_,_,_,rfl,rfl,rfl,fun _ _=>rfl,fun _ i hi d hd=>dJ _ d hd⟩))⟩)
abbrev e43:FE tP:=⟨43, .pure Dl,KQ⟩
noncomputable def ape:List Code:=aA (ao Tryz.f42)
def H8 (x_1:(List ab)):bN:=.own true 59 2 (x_1).length (aV aN aq x_1)
def arb (x_1:(List ab)):St:=⟨[sv 2 (.row 0 2 0 x_1.length)],[(bh 0 59 x_1)],1⟩
def amc (l:(List ab)):St:=⟨[sv 0 (dF l)],[],0⟩
def xl (l:(List ab)):PT _ (rE arb) iK:=.lk oQ l fun L1_=>.tv (aK aN bD 2 0 0 (fun _=>[])) (ae.okN aY (ae.nil aN aq _))<|.ls (a:=lst bD 0 (fun _=>[])) (lr aY (ae.nil aN aq _)) fun L2_=>.bd (lX L1_ L2_ 2) [] fun r_2=>.lf (some r_2) .ret _<|hh fun _=>l0
theorem acf {l}:Ax tP 5 ape 0 iK (xl l) (amc l):=.tE mixed [e43] [2] 3
def lB (l:(List ab)):Option ((List ab)):=(xl l).opt
def zC:bW:=dH lD lB ([]:List ab) H8
theorem IM:bg tP 42 zC:=cJ Tryz.f42 (ao Tryz.f42) [.tmp 2] 5 fun u0 y h=>@acf u0 _ (bn.2 ⟨y,h,(cx (.row 0 2 0 y.length) (⟨_,_,_,rfl,rfl,rfl,fun _ _=>rfl,fun _ i hi d hd=>dJ _ d hd⟩))⟩)
abbrev e42:FE tP:=⟨42, .pure zC,IM⟩
noncomputable def uV:List Code:=aA (ao Tryz.f34)
noncomputable def aaz:List Code:=aA (ah (ah (aP uV 3)))
def LF (x_1:(List ab)):bN:=.own true 59 2 (x_1).length (aV aN aq x_1)
def Ts (x_1:(List ab)):St:=⟨[sv 6 (.row 0 2 0 x_1.length)],[(bh 0 59 x_1)],1⟩
def B1 (law:(List ar)) (state rule:Int) (s:((List ab) × Int)):St:=match s with | (out_1,i_1)=>⟨[sv 0 (bE law),sv 1 (i64 state),sv 2 (i64 rule),sv 7 (.row 0 2 0 out_1.length),sv 8 (i64 i_1)],[(bh 0 59 out_1)],1⟩
def ae2 (law:(List ar)) (state rule:Int) (s:(List ab)):St:=match s with | out_2=>⟨[sv 7 (.row 0 2 0 out_2.length)],[(bh 0 59 out_2)],1⟩
def CD (law:(List ar)) (state rule:Int) (r:(((List ab)))) (K:KT):Prop:=match r with | s=>K (.exit 0) (ae2 law state rule s)
def aml (law:(List ar)) (state rule:Int) (out_1:(List ab)) (i_1:Int):St:=B1 law state rule (out_1,i_1)
def jA (law:(List ar)) (state rule:Int) (out_1:(List ab)) (i_1:Int):PT _ (nE (B1 law state rule) (CD law state rule)) iK:=.bf (decide (i_1 < (law.length:Int))) (.g2 (0≤i_1) (i_1 < (law.length:Int))<|.g1 ((((law.getD (Int.toNat i_1) dC).State == state)&&true) = true→0≤i_1)<|.g1 ((((law.getD (Int.toNat i_1) dC).State == state)&&true) = true→i_1 < (law.length:Int))<|.bf (bif ((law.getD (Int.toNat i_1) dC).State == state) then (decide ((law.getD (Int.toNat i_1) dC).Rule≤rule)) else false) (.g2 (0≤i_1) (i_1 < (law.length:Int))<|.tv (out_1.length = out_1.length) rfl<|.gc (out_1.length+1) 16<|.lf (some (Sum.inl ((out_1++([(law.getD (Int.toNat i_1) dC).Span]:List ab)),(ai (i_1+1))))) .normal (⟨[sv 0 (bE law),sv 1 (i64 state),sv 2 (i64 rule),sv 7 (.row 0 2 0 (out_1.length+1)),sv 8 (i64 (ai (i_1+1))),un 23,un 24,un 25,un 26,un 27,un 28,un 29],[(0,some (.row 59 2 (out_1.length+1) (fun i=>bif Nat.blt i out_1.length then (bB out_1) i else (fun i=>(dj 2 (aN ((law.getD (Int.toNat i_1) dC).Span))) (0+i)) (i - out_1.length))))],1⟩)<|hh fun _=>lg (.of (.qs 3 (.cons rfl (.rown (bS rfl rfl)) (.q rfl .nil))) (.row rfl (ae.app .b (ae.zero (ae.l1 (enc:=aN) (z:=aq) 2 ((law.getD (Int.toNat i_1) dC).Span) rfl))) .nil rfl) rfl)) (.lf (some (Sum.inl (out_1,(ai (i_1+1))))) .normal _<|hh fun _=>lx [0,1,2,7,8] [23,24,25,26,27,28,29] [])) (.lf (some (Sum.inr out_1)) (.exit 0) (B1 law state rule (out_1,i_1))<|hh fun _=>lg (.cn [7]))
theorem agd {law state rule out_1 i_1}:Ax tP 41 aaz 0 iK (jA law state rule out_1 i_1) (aml law state rule out_1 i_1):=.tE mixed [] [0,1,2,7,8,23,24,25,26,27,28,29] 4
def lw (law:(List ar)) (state rule:Int) (s:((List ab) × Int)):Option (((List ab) × Int) ⊕ (((List ab)))):=match s with | (out_1,i_1)=>(jA law state rule out_1 i_1).opt
theorem ab1 (law state rule s):Pp tP 41 (List.drop 0 aaz) (B1 law state rule s) (lw law state rule s) (cd (B1 law state rule) (CD law state rule)):=fun K h=>match s,h with | (out_1,i_1),h=>(agd h)
theorem UB (law state rule):∀ r J K,CD law state rule r K→CD law state rule r (aE J K)
  | s,_,_,h=>h
def Wr (out_3:(List ab)):St:=⟨[sv 7 (.row 0 2 0 out_3.length)],[(bh 0 59 out_3)],1⟩
def pi (out_3:(List ab)):PT _ (rE Ts) iK:=.tv (aK aN bD 2 2 out_3.length (fun i=>(bB out_3) (0+i))) (ae.ok aY (ae.zero .b))<|.ls (a:=lst bD out_3.length (fun i=>(bB out_3) (0+i))) (lr aY (ae.zero .b)) fun L1_=>.bd (lB L1_) [] fun r_2=>.lf (some r_2) .ret _<|hh fun _=>l0
theorem ae3 {out_3}:Ax tP 41 uV 4 iK (pi out_3) (Wr out_3):=.tE mixed [e42] [6] 2
def aof (law:(List ar)) (state rule:Int):St:=⟨[sv 0 (bE law),sv 1 (i64 state),sv 2 (i64 rule),sv 7 (.c .nil),sv 8 (i64 0)],[],0⟩
abbrev zm (law:(List ar)) (state rule:Int) (r:(((List ab)))):Option ((List ab)):=match r with | out_2=>((pi out_2).opt)
def Dn (law:(List ar)) (state rule:Int):Option ((List ab)):=(fixL (lw law state rule) (([]:List ab),0)).bind (zm law state rule)
theorem ahY:List.drop 3 uV = .block 0 (.loop (ah (ah (aP uV 3)))) :: List.drop 4 uV:=by kernel_rfl
theorem ams (law state rule K):∀ r,W (zm law state rule r) (rE Ts K)→CD law state rule r (wK (aZ 0 (aE (au tP 41 (List.drop 4 uV) K) K)))
  | out_2,h=>⟨(Wr out_2),(.refl _),(ae3 h)⟩
theorem acR {law state rule K} (h:W (Dn law state rule) (rE Ts K)):au tP 41 (List.drop 3 uV) K (aof law state rule) :=
  au.at_ ahY (au.cons_loop (aC.weak (aC.ent (.trans (.nilrow 7 0 59 2 (aV aN aq []) (Nat.le_of_ble_eq_true rfl) rfl) (.cn [0,1,2,7,8])) (aC.loopF (x:=ah (ah (aP uV 3))) (f:=lw law state rule) (emb:=B1 law state rule) (E:=CD law state rule) (ab1 law state rule) (UB law state rule) (bM h (ams law state rule K))))))
def ajN (law:(List ar)) (state rule:Int):St:=⟨[sv 0 (bE law),sv 1 (i64 state),sv 2 (i64 rule)],[],0⟩
def C1 (law:(List ar)) (state rule:Int):PT _ (rE Ts) (dK tP 41 uV 3 iK):=.lf (Dn law state rule) .normal _<|hh fun _ h=>l0 (acR h)
theorem ahd {law state rule}:Ax tP 41 uV 0 iK (C1 law state rule) (ajN law state rule):=.tD mixed [] [0,1,2,7,8,23,24,25,26,27,28,29] 3
def Bf (law:(List ar)) (state rule:Int):Option ((List ab)):=(C1 law state rule).opt
def F5:bW:=yE wq (aI .i64) (aI .i64) Bf ([]:List ab) LF
theorem M5:bg tP 34 F5:=ta Tryz.f34 (ao Tryz.f34) [.tmp 6] 41 fun u0 u1 u2 y h=>@ahd u0 u1 u2 _ (bn.2 ⟨y,h,(cx (.row 0 2 0 y.length) (⟨_,_,_,rfl,rfl,rfl,fun _ _=>rfl,fun _ i hi d hd=>dJ _ d hd⟩))⟩)
abbrev e34:FE tP:=⟨34, .pure F5,M5⟩
noncomputable def ao5:List Code:=aA (ao Tryz.f15)
def OQ (x_1:(List ab)):bN:=.own true 59 2 (x_1).length (aV aN aq x_1)
def aqE (x_1:(List ab)):St:=⟨[sv 4 (.row 0 2 0 x_1.length)],[(bh 0 59 x_1)],1⟩
def aoj (l:(List ab)) (s_1:ab):St:=⟨[sv 0 (dF l),sv 1 (.ag (aN s_1))],[],0⟩
def G5 (l:(List ab)) (s_1:ab):PT _ (rE aqE) iK:=.lk oQ l fun L1_=>.tv (aK aN bD 2 2 1 (fun i=>(dj 2 (aN s_1)) (0+i))) (ae.ok aY (ae.zero (ae.l1 (enc:=aN) (z:=aq) 2 s_1 rfl)))<|.ls (a:=lst bD 1 (fun i=>(dj 2 (aN s_1)) (0+i))) (lr aY (ae.zero (ae.l1 (enc:=aN) (z:=aq) 2 s_1 rfl))) fun L2_=>.bd (lX L1_ L2_ 1) [] fun r_2=>.lf (some r_2) .ret _<|hh fun _=>l0
theorem ahX {l s_1}:Ax tP 9 ao5 0 iK (G5 l s_1) (aoj l s_1):=.tE mixed [e43] [4] 3
def rJ (l:(List ab)) (s_1:ab):Option ((List ab)):=(G5 l s_1).opt
def Jg:bW:=fj lD zo rJ ([]:List ab) OQ
theorem QP:bg tP 15 Jg:=dv Tryz.f15 (ao Tryz.f15) [.tmp 4] 9 fun u0 u1 y h=>@ahX u0 u1 _ (bn.2 ⟨y,h,(cx (.row 0 2 0 y.length) (⟨_,_,_,rfl,rfl,rfl,fun _ _=>rfl,fun _ i hi d hd=>dJ _ d hd⟩))⟩)
abbrev e15:FE tP:=⟨15, .pure Jg,QP⟩
noncomputable def uQ:List Code:=aA (ao Tryz.f61)
noncomputable def aaD:List Code:=aA (ah (ah (aP uQ 4)))
def L4 (x_1:(List ab)):bN:=.own true 59 2 (x_1).length (aV aN aq x_1)
def Vr (x_1:(List ab)):St:=⟨[sv 4 (.row 0 2 0 x_1.length)],[(bh 0 59 x_1)],1⟩
def Ho (n:Int) (m:(List ab)) (s:(Int × (List ab) × Int)):St:=match s with | (n_1,out_1,i_1)=>⟨[sv 1 (i64 n_1),sv 5 (.row 0 2 0 out_1.length),sv 6 (.row 1 2 0 m.length),sv 7 (i64 i_1)],[(bh 0 59 out_1),(bh 1 59 m)],2⟩
def afK (n:Int) (m:(List ab)) (s:(List ab)):St:=match s with | out_2=>⟨[sv 5 (.row 0 2 0 out_2.length)],[(bh 0 59 out_2)],1⟩
def B8 (n:Int) (m:(List ab)) (r:(((List ab)))) (K:KT):Prop:=match r with | s=>K (.exit 0) (afK n m s)
def ak2 (n_1:Int) (out_1 m:(List ab)) (i_1:Int):St:=Ho (0:Int) m (n_1,out_1,i_1)
def jw (n_1:Int) (out_1 m:(List ab)) (i_1:Int):PT _ (nE (Ho (0:Int) m) (B8 (0:Int) m)) iK:=.bf (bif (decide (i_1 < (m.length:Int))) then (decide (0 < n_1)) else false) (.g2 (0≤i_1) (i_1 < (m.length:Int))<|.g2 (0≤i_1) (i_1 < (m.length:Int))<|.g2 (0≤i_1) (i_1 < (m.length:Int))<|.g2 (0≤i_1) (i_1 < (m.length:Int))<|.tv (out_1.length = out_1.length) rfl<|.gc (out_1.length+1) 16<|.lf (some (Sum.inl ((ai (n_1 - (if (ai ((m.getD (0+(Int.toNat i_1)) aq).To - (m.getD (0+(Int.toNat i_1)) aq).From)) < n_1 then (ai ((m.getD (0+(Int.toNat i_1)) aq).To - (m.getD (0+(Int.toNat i_1)) aq).From)) else n_1))),(out_1++([(ab.mk (m.getD (0+(Int.toNat i_1)) aq).From (ai ((m.getD (0+(Int.toNat i_1)) aq).From+(if (ai ((m.getD (0+(Int.toNat i_1)) aq).To - (m.getD (0+(Int.toNat i_1)) aq).From)) < n_1 then (ai ((m.getD (0+(Int.toNat i_1)) aq).To - (m.getD (0+(Int.toNat i_1)) aq).From)) else n_1))))]:List ab)),(ai (i_1+1))))) .normal (⟨[sv 1 (i64 (ai (n_1 - (if (ai ((m.getD (0+(Int.toNat i_1)) aq).To - (m.getD (0+(Int.toNat i_1)) aq).From)) < n_1 then (ai ((m.getD (0+(Int.toNat i_1)) aq).To - (m.getD (0+(Int.toNat i_1)) aq).From)) else n_1)))),sv 5 (.row 0 2 0 (out_1.length+1)),sv 6 (.row 1 2 0 m.length),sv 7 (i64 (ai (i_1+1))),un 16,un 17],[(0,some (.row 59 2 (out_1.length+1) (fun i=>bif Nat.blt i out_1.length then (bB out_1) i else (fun i=>(dj 2 (aN (ab.s_To (m.getD (0+(Int.toNat i_1)) aq) (ai ((m.getD (0+(Int.toNat i_1)) aq).From+(if (ai ((m.getD (0+(Int.toNat i_1)) aq).To - (m.getD (0+(Int.toNat i_1)) aq).From)) < n_1 then (ai ((m.getD (0+(Int.toNat i_1)) aq).To - (m.getD (0+(Int.toNat i_1)) aq).From)) else n_1)))))) (0+i)) (i - out_1.length)))),(bh 1 59 m)],2⟩)<|hh fun _=>lg (.of (.q rfl (.cons rfl (.rown (bS rfl rfl)) (.q rfl (.q rfl .nil)))) (.row rfl (ae.app .b (ae.zero (ae.l1 (enc:=aN) (z:=aq) 2 (ab.s_To (m.getD (0+(Int.toNat i_1)) aq) (ai ((m.getD (0+(Int.toNat i_1)) aq).From+(if (ai ((m.getD (0+(Int.toNat i_1)) aq).To - (m.getD (0+(Int.toNat i_1)) aq).From)) < n_1 then (ai ((m.getD (0+(Int.toNat i_1)) aq).To - (m.getD (0+(Int.toNat i_1)) aq).From)) else n_1)))) rfl))) (.same rfl .nil) rfl) rfl)) (.lf (some (Sum.inr out_1)) (.exit 0) (⟨[sv 1 (i64 n_1),sv 5 (.row 0 2 0 out_1.length),sv 6 (.row 1 2 0 m.length),sv 7 (i64 i_1),un 16,un 17],[(bh 0 59 out_1),(bh 1 59 m)],2⟩)<|hh fun _=>lg (.cn [5]))
theorem ady {n_1 out_1 m i_1}:Ax tP 54 aaD 0 iK (jw n_1 out_1 m i_1) (ak2 n_1 out_1 m i_1):=.tE mixed [] [1,5,6,7,16,17] 4
def ia (n:Int) (m:(List ab)) (s:(Int × (List ab) × Int)):Option ((Int × (List ab) × Int) ⊕ (((List ab)))):=match s with | (n_1,out_1,i_1)=>(jw n_1 out_1 m i_1).opt
theorem adt (n m s):Pp tP 54 (List.drop 0 aaD) (Ho n m s) (ia n m s) (cd (Ho n m) (B8 n m)):=fun K h=>match s,h with | (n_1,out_1,i_1),h=>(ady h)
theorem TQ (n m):∀ r J K,B8 n m r K→B8 n m r (aE J K)
  | s,_,_,h=>h
def XV (out_3:(List ab)):St:=⟨[sv 5 (.row 0 2 0 out_3.length)],[(bh 0 59 out_3)],1⟩
def Da (out_3:(List ab)):PT _ (rE Vr) iK:=.lf (some out_3) .ret _<|hh fun _=>l0
theorem ahn {out_3}:Ax tP 54 uQ 5 iK (Da out_3) (XV out_3):=.tE mixed [] [4] 2
def aoi (n:Int) (m:(List ab)):St:=⟨[sv 1 (i64 n),sv 5 (.c .nil),sv 6 (.row 0 2 0 m.length),sv 7 (i64 0)],[(bh 0 59 m)],1⟩
abbrev zJ (n:Int) (m:(List ab)) (r:(((List ab)))):Option ((List ab)):=match r with | out_2=>((Da out_2).opt)
def Cm (n:Int) (m:(List ab)):Option ((List ab)):=(fixL (ia n m) (n,([]:List ab),0)).bind (zJ n m)
theorem agf:List.drop 4 uQ = .block 0 (.loop (ah (ah (aP uQ 4)))) :: List.drop 5 uQ:=by kernel_rfl
theorem am3 (n m K):∀ r,W (zJ n m r) (rE Vr K)→B8 n m r (wK (aZ 0 (aE (au tP 54 (List.drop 5 uQ) K) K)))
  | out_2,h=>⟨(XV out_2),(.refl _),(ahn h)⟩
theorem af9 {n m K} (h:W (Cm n m) (rE Vr K)):au tP 54 (List.drop 4 uQ) K (aoi n m) :=
  au.at_ agf (au.cons_loop (aC.weak (aC.ent (.trans (.nilrow 5 1 59 2 (aV aN aq []) (Nat.le_of_ble_eq_true rfl) rfl) (.cn [1,5,6,7])) (aC.loopF (x:=ah (ah (aP uQ 4))) (f:=ia n m) (emb:=Ho n m) (E:=B8 n m) (adt n m) (TQ n m) (bM h (am3 n m K))))))
def an0 (l:(List ab)) (n:Int):St:=⟨[sv 0 (dF l),sv 1 (i64 n)],[],0⟩
def pg (l:(List ab)) (n:Int):PT _ (rE Vr) (dK tP 54 uQ 4 iK):=.lk oQ l fun L1_=>.bd (lB L1_) [] fun r_2=>.lf (Cm n r_2) .normal _<|hh fun _ h=>l0 (af9 h)
theorem aey {l n}:Ax tP 54 uQ 0 iK (pg l n) (an0 l n):=.tD mixed [e42] [1,5,6,7,16,17] 4
def Bw (l:(List ab)) (n:Int):Option ((List ab)):=(pg l n).opt
def Gl:bW:=fj lD (aI .i64) Bw ([]:List ab) L4
theorem MG:bg tP 61 Gl:=dv Tryz.f61 (ao Tryz.f61) [.tmp 4] 54 fun u0 u1 y h=>@aey u0 u1 _ (bn.2 ⟨y,h,(cx (.row 0 2 0 y.length) (⟨_,_,_,rfl,rfl,rfl,fun _ _=>rfl,fun _ i hi d hd=>dJ _ d hd⟩))⟩)
abbrev e61:FE tP:=⟨61, .pure Gl,MG⟩
noncomputable def aoO:List Code:=aA (ao Tryz.f33)
def IP (x_1:(List ab)):bN:=.own true 59 2 (x_1).length (aV aN aq x_1)
def aq8 (x_1:(List ab)):St:=⟨[sv 6 (.row 0 2 0 x_1.length)],[(bh 0 59 x_1)],1⟩
def aon (l:(List ab)) (before limit:Int):St:=⟨[sv 0 (dF l),sv 1 (i64 before),sv 2 (i64 limit)],[],0⟩
def my (l:(List ab)) (before limit:Int):PT _ (rE aq8) iK:=.lk oQ l fun L1_=>.bd (rJ L1_ (ab.mk 0 before)) [] fun r_3=>.bf (limit == 0) (.lf (some r_3) .ret _<|hh fun _=>l0) (.tv (aK aN bD 2 2 r_3.length (fun i=>(bB r_3) (0+i))) (ae.ok aY (ae.zero .b))<|.ls (a:=lst bD r_3.length (fun i=>(bB r_3) (0+i))) (lr aY (ae.zero .b)) fun L2_=>.bd (Bw L2_ limit) [] fun r_4=>.lf (some r_4) .ret _<|hh fun _=>l0)
theorem acB {l before limit}:Ax tP 17 aoO 0 iK (my l before limit) (aon l before limit):=.tE mixed [e15,e61] [6] 6
def m5 (l:(List ab)) (before limit:Int):Option ((List ab)):=(my l before limit).opt
def AW:bW:=yE lD (aI .i64) (aI .i64) m5 ([]:List ab) IP
theorem JR:bg tP 33 AW:=ta Tryz.f33 (ao Tryz.f33) [.tmp 6] 17 fun u0 u1 u2 y h=>@acB u0 u1 u2 _ (bn.2 ⟨y,h,(cx (.row 0 2 0 y.length) (⟨_,_,_,rfl,rfl,rfl,fun _ _=>rfl,fun _ i hi d hd=>dJ _ d hd⟩))⟩)
abbrev e33:FE tP:=⟨33, .pure AW,JR⟩
noncomputable def apT:List Code:=aA (ao Tryz.f13)
def NB (x_1:Int):bN:=.data (i64 x_1)
def aq1 (x_1:Int):St:=⟨[sv 2 (i64 x_1)],[],0⟩
def aj5 (kind:Int):St:=⟨[sv 0 (i64 kind)],[],0⟩
def Fz (kind:Int):PT _ (rE aq1) iK:=.bf (kind == 6) (.lf (some 2) .ret _<|hh fun _=>l0) (.bf (kind == 9) (.lf (some 3) .ret _<|hh fun _=>l0) (.bf (kind == 7) (.lf (some 4) .ret _<|hh fun _=>l0) (.bf (kind == 8) (.lf (some 5) .ret _<|hh fun _=>l0) (.bf (kind == 10) (.lf (some 6) .ret _<|hh fun _=>l0) (.bf (kind == 5) (.lf (some 7) .ret _<|hh fun _=>l0) (.lf (some 0) .ret _<|hh fun _=>l0))))))
theorem aco {kind}:Ax tP 16 apT 0 iK (Fz kind) (aj5 kind):=.tE mixed [] [2] 5
def LV (kind:Int):Option (Int):=(Fz kind).opt
def GN:bW:=dH (aI .i64) LV (0:Int) NB
theorem OG:bg tP 13 GN:=cJ Tryz.f13 (ao Tryz.f13) [.tmp 2] 16 fun u0 y h=>@aco u0 _ (bn.2 ⟨y,h,(cx (i64 y) (VLe.rfl' _))⟩)
abbrev Gb:FE tP:=⟨13, .pure GN,OG⟩
noncomputable def u9:List Code:=aA (ao Tryz.f36)
noncomputable def aaM:List Code:=aA (ah (ah (aP u9 2)))
def Kb (x_1:Int):bN:=.data (i64 x_1)
def PL (x_1:Int):St:=⟨[sv 2 (i64 x_1)],[],0⟩
def Db (rank:Int) (s:(Int)):St:=match s with | k=>⟨[sv 0 (i64 rank),sv 3 (i64 k)],[],0⟩
def afy (rank:Int) (s:Int):St:=match s with | t2=>⟨[sv 2 (i64 t2)],[],0⟩
def aeD (rank:Int) (s:Unit):St:=match s with | ()=>⟨[],[],0⟩
def CK (rank:Int) (r:((Int) ⊕ (Unit))) (K:KT):Prop:=match r with | (.inl s)=>K .ret (afy rank s) | (.inr s)=>K (.exit 0) (aeD rank s)
def ajO (rank k:Int):St:=Db rank k
def z7 (rank k:Int):PT _ (nE (Db rank) (CK rank)) iK:=.bf (decide (k≤14)) (.bd (LV k) 0 fun r_2=>.bf (r_2 == rank) (.lf (some (Sum.inr (Sum.inl k))) .ret _<|hh fun _=>lx [2] [] [sv 0 (i64 rank),sv 3 (i64 k)]) (.lf (some (Sum.inl (ai (k+1)))) .normal _<|hh fun _=>l0)) (.lf (some (Sum.inr (Sum.inr ()))) (.exit 0) (Db rank k)<|hh fun _=>lg (.cn []))
theorem abY {rank k}:Ax tP 13 aaM 0 iK (z7 rank k) (ajO rank k):=.tE mixed [Gb] [0,2,3] 4
def sQ (rank:Int) (s:(Int)):Option ((Int) ⊕ ((Int) ⊕ (Unit))):=match s with | k=>(z7 rank k).opt
theorem acz (rank s):Pp tP 13 (List.drop 0 aaM) (Db rank s) (sQ rank s) (cd (Db rank) (CK rank)):=fun K h=>match s,h with | k,h=>(abY h)
theorem TL (rank):∀ r J K,CK rank r K→CK rank r (aE J K)
  | (.inl s),_,_,h=>h
  | (.inr s),_,_,h=>h
def Xo:St:=⟨[],[],0⟩
def Ae:PT _ (rE PL) iK:=.lf (some 0) .ret _<|hh fun _=>l0
theorem agv:Ax tP 13 u9 3 iK Ae Xo:=.tE mixed [] [2] 2
def akC (rank:Int):St:=⟨[sv 0 (i64 rank),sv 3 (i64 1)],[],0⟩
abbrev xC (rank:Int) (r:((Int) ⊕ (Unit))):Option (Int):=match r with | (.inl t2)=>(some t2) | (.inr ())=>Ae.opt
def At (rank:Int):Option (Int):=(fixL (sQ rank) 1).bind (xC rank)
theorem abZ:List.drop 2 u9 = .block 0 (.loop (ah (ah (aP u9 2)))) :: List.drop 3 u9:=by kernel_rfl
theorem aok (rank K):∀ r,W (xC rank r) (rE PL K)→CK rank r (wK (aZ 0 (aE (au tP 13 (List.drop 3 u9) K) K)))
  | (.inl t2),h=>⟨(PL t2),(.refl _),h⟩
  | (.inr ()),h=>⟨(Xo),(.refl _),(agv h)⟩
theorem af5 {rank K} (h:W (At rank) (rE PL K)):au tP 13 (List.drop 2 u9) K (akC rank) :=
  au.at_ abZ (au.cons_loop (aC.weak (aC.ent (.refl _) (aC.loopF (x:=ah (ah (aP u9 2))) (f:=sQ rank) (emb:=Db rank) (E:=CK rank) (acz rank) (TL rank) (bM h (aok rank K))))))
def ame (rank:Int):St:=⟨[sv 0 (i64 rank)],[],0⟩
def zU (rank:Int):PT _ (rE PL) (dK tP 13 u9 2 iK):=.lf (At rank) .normal _<|hh fun _ h=>l0 (af5 h)
theorem aeJ {rank}:Ax tP 13 u9 0 iK (zU rank) (ame rank):=.tD mixed [] [0,3] 2
def eO (rank:Int):Option (Int):=(zU rank).opt
def DN:bW:=dH (aI .i64) eO (0:Int) Kb
theorem KD:bg tP 36 DN:=cJ Tryz.f36 (ao Tryz.f36) [.tmp 2] 13 fun u0 y h=>@aeJ u0 _ (bn.2 ⟨y,h,(cx (i64 y) (VLe.rfl' _))⟩)
abbrev e36:FE tP:=⟨36, .pure DN,KD⟩
noncomputable def u7:List Code:=aA (ao Tryz.f35)
noncomputable def aa5:List Code:=aA (ah (ah (aP u7 2)))
def KH (x_1:(Int × Bool)):bN:=.data (.tup [(i64 x_1.1),(bl x_1.2)])
def Rk (x_1:(Int × Bool)):St:=⟨[sv 4 (i64 x_1.1),sv 5 (bl x_1.2)],[],0⟩
def DG (kind:Int) (v:aJ) (s:(Int)):St:=match s with | i_1=>⟨[sv 1 (i64 kind),sv 2 (.ptr 0 8 0 0),sv 6 (i64 i_1)],[(0,some (.bx (rC v)))],1⟩
def ab0 (kind:Int) (v:aJ) (s:Int):St:=match s with | t4=>⟨[sv 4 (i64 t4),sv 5 (bl true)],[],0⟩
def ag8 (kind:Int) (v:aJ) (s:Unit):St:=match s with | ()=>⟨[],[],0⟩
def DT (kind:Int) (v:aJ) (r:((Int) ⊕ (Unit))) (K:KT):Prop:=match r with | (.inl s)=>K .ret (ab0 kind v s) | (.inr s)=>K (.exit 0) (ag8 kind v s)
def alz (kind i_1:Int) (v:aJ):St:=DG kind v i_1
def jx (kind i_1:Int) (v:aJ):PT _ (nE (DG kind v) (DT kind v)) iK:=.bf (decide (i_1 < (v.Credits.length:Int))) (.g2 (0≤i_1) (i_1 < (v.Credits.length:Int))<|.bf ((v.Credits.getD (Int.toNat i_1) cU).Kind == kind) (.g2 (0≤i_1) (i_1 < (v.Credits.length:Int))<|.lf (some (Sum.inr (Sum.inl ((v.Credits.getD (Int.toNat i_1) cU).Limit)))) .ret (⟨[sv 1 (i64 kind),sv 2 (.ptr 0 8 0 0),sv 4 (i64 (v.Credits.getD (Int.toNat i_1) cU).Limit),sv 5 (bl true),sv 6 (i64 i_1)],[(0,some (.bx (rC v)))],1⟩)<|hh fun _=>lg (.cn [4,5])) (.lf (some (Sum.inl (ai (i_1+1)))) .normal _<|hh fun _=>l0)) (.lf (some (Sum.inr (Sum.inr ()))) (.exit 0) (DG kind v i_1)<|hh fun _=>lg (.cn []))
theorem ahT {kind i_1 v}:Ax tP 28 aa5 0 iK (jx kind i_1 v) (alz kind i_1 v):=.tE mixed [] [1,2,4,5,6] 4
def pC (kind:Int) (v:aJ) (s:(Int)):Option ((Int) ⊕ ((Int) ⊕ (Unit))):=match s with | i_1=>(jx kind i_1 v).opt
theorem ac2 (kind v s):Pp tP 28 (List.drop 0 aa5) (DG kind v s) (pC kind v s) (cd (DG kind v) (DT kind v)):=fun K h=>match s,h with | i_1,h=>(ahT h)
theorem U1 (kind v):∀ r J K,DT kind v r K→DT kind v r (aE J K)
  | (.inl s),_,_,h=>h
  | (.inr s),_,_,h=>h
def WQ:St:=⟨[],[],0⟩
def CM:PT _ (rE Rk) iK:=.lf (some (0,false)) .ret _<|hh fun _=>l0
theorem afX:Ax tP 28 u7 3 iK CM WQ:=.tE mixed [] [4,5] 2
def amF (kind:Int) (v:aJ):St:=⟨[sv 1 (i64 kind),sv 2 (.ptr 0 8 0 0),sv 6 (i64 0)],[(0,some (.bx (rC v)))],1⟩
abbrev qV (kind:Int) (v:aJ) (r:((Int) ⊕ (Unit))):Option ((Int × Bool)):=match r with | (.inl t4)=>(some (t4,true)) | (.inr ())=>CM.opt
def Cv (kind:Int) (v:aJ):Option ((Int × Bool)):=(fixL (pC kind v) 0).bind (qV kind v)
theorem aeN:List.drop 2 u7 = .block 0 (.loop (ah (ah (aP u7 2)))) :: List.drop 3 u7:=by kernel_rfl
theorem ai4 (kind v K):∀ r,W (qV kind v r) (rE Rk K)→DT kind v r (wK (aZ 0 (aE (au tP 28 (List.drop 3 u7) K) K)))
  | (.inl t4),h=>⟨(Rk (t4,true)),(.refl _),h⟩
  | (.inr ()),h=>⟨(WQ),(.refl _),(afX h)⟩
theorem abC {kind v K} (h:W (Cv kind v) (rE Rk K)):au tP 28 (List.drop 2 u7) K (amF kind v) :=
  au.at_ aeN (au.cons_loop (aC.weak (aC.ent (.refl _) (aC.loopF (x:=ah (ah (aP u7 2))) (f:=pC kind v) (emb:=DG kind v) (E:=DT kind v) (ac2 kind v) (U1 kind v) (bM h (ai4 kind v K))))))
def aly (v:aJ) (kind:Int):St:=⟨[sv 0 (.ag (rC v)),sv 1 (i64 kind)],[],0⟩
def DA (v:aJ) (kind:Int):PT _ (rE Rk) (dK tP 28 u7 2 iK):=.lf (Cv kind v) .normal _<|hh fun _ h=>l0 (abC h)
theorem abE {v kind}:Ax tP 28 u7 0 iK (DA v kind) (aly v kind):=.tD mixed [] [1,2,6] 2
def Bu (v:aJ) (kind:Int):Option ((Int × Bool)):=(DA v kind).opt
def Ga:bW:=fj N6 (aI .i64) Bu ((0:Int),false) KH
theorem NJ:bg tP 35 Ga:=dv Tryz.f35 (ao Tryz.f35) [.tmp 4, .tmp 5] 28 fun u0 u1 y h=>@abE u0 u1 _ (bn.2 ⟨y,h,(cx (.tup [(i64 y.1),(bl y.2)]) (VLe.tup (VLes.cons (VLe.rfl' _) (VLes.cons (VLe.rfl' _) (VLes.nil)))))⟩)
abbrev e35:FE tP:=⟨35, .pure Ga,NJ⟩
noncomputable def uS:List Code:=aA (ao Tryz.f44)
noncomputable def aaU:List Code:=aA (ah (ah (aP uS 3)))
def IR (x_1:(List ac)):bN:=.own true 70 14 (x_1).length (aV aX aW x_1)
def Vt (x_1:(List ac)):St:=⟨[sv 2 (.row 0 14 0 x_1.length)],[(bZ 0 70 x_1)],1⟩
def Dw (l:(List ac)) (s:((List ac) × Int)):St:=match s with | (out_1,i_1)=>⟨[sv 0 (aU l),sv 3 (.row 0 14 0 out_1.length),sv 4 (i64 i_1)],[(bZ 0 70 out_1)],1⟩
def ael (l:(List ac)) (s:(List ac)):St:=match s with | out_2=>⟨[sv 3 (.row 0 14 0 out_2.length)],[(bZ 0 70 out_2)],1⟩
def Cl (l:(List ac)) (r:(((List ac)))) (K:KT):Prop:=match r with | s=>K (.exit 0) (ael l s)
def aoe (l out_1:(List ac)) (i_1:Int):St:=Dw l (out_1,i_1)
def ic (l out_1:(List ac)) (i_1:Int):PT _ (nE (Dw l) (Cl l)) iK:=.bf (decide (i_1 < (l.length:Int))) (.g2 (0≤i_1) (i_1 < (l.length:Int))<|.bd (eW (l.getD (Int.toNat i_1) aW)) false fun r_2=>.g1 ((r_2&&true) = true→0≤i_1)<|.g1 ((r_2&&true) = true→i_1 < (l.length:Int))<|.bf (bif r_2 then (!(l.getD (Int.toNat i_1) aW).Withdrawn) else false) (.g2 (0≤i_1) (i_1 < (l.length:Int))<|.tv (out_1.length = out_1.length) rfl<|.gc (out_1.length+1) 112<|.lf (some (Sum.inl ((out_1++([(l.getD (Int.toNat i_1) aW)]:List ac)),(ai (i_1+1))))) .normal (⟨[sv 0 (aU l),sv 3 (.row 0 14 0 (out_1.length+1)),sv 4 (i64 (ai (i_1+1))),un 17,un 18,un 19,un 20,un 21,un 22],[(0,some (.row 70 14 (out_1.length+1) (fun i=>bif Nat.blt i out_1.length then (fH out_1) i else (fun i=>(dj 14 (aX (l.getD (Int.toNat i_1) aW))) (0+i)) (i - out_1.length))))],1⟩)<|hh fun _=>lg (.of (.q rfl (.cons rfl (.rown (bS rfl rfl)) (.q rfl .nil))) (.row rfl (ae.app .b (ae.zero (ae.l1 (enc:=aX) (z:=aW) 14 (l.getD (Int.toNat i_1) aW) rfl))) .nil rfl) rfl)) (.lf (some (Sum.inl (out_1,(ai (i_1+1))))) .normal _<|hh fun _=>lx [0,3,4] [17,18,19,20,21,22] [])) (.lf (some (Sum.inr out_1)) (.exit 0) (Dw l (out_1,i_1))<|hh fun _=>lg (.cn [3]))
theorem aew {l out_1 i_1}:Ax tP 32 aaU 0 iK (ic l out_1 i_1) (aoe l out_1 i_1):=.tE mixed [e51] [0,3,4,17,18,19,20,21,22] 4
def mv (l:(List ac)) (s:((List ac) × Int)):Option (((List ac) × Int) ⊕ (((List ac)))):=match s with | (out_1,i_1)=>(ic l out_1 i_1).opt
theorem ait (l s):Pp tP 32 (List.drop 0 aaU) (Dw l s) (mv l s) (cd (Dw l) (Cl l)):=fun K h=>match s,h with | (out_1,i_1),h=>(aew h)
theorem Tn (l):∀ r J K,Cl l r K→Cl l r (aE J K)
  | s,_,_,h=>h
def X2 (out_3:(List ac)):St:=⟨[sv 3 (.row 0 14 0 out_3.length)],[(bZ 0 70 out_3)],1⟩
def yu (out_3:(List ac)):PT _ (rE Vt) iK:=.lf (some out_3) .ret _<|hh fun _=>l0
theorem ae9 {out_3}:Ax tP 32 uS 4 iK (yu out_3) (X2 out_3):=.tE mixed [] [2] 2
def alO (l:(List ac)):St:=⟨[sv 0 (aU l),sv 3 (.c .nil),sv 4 (i64 0)],[],0⟩
abbrev ws (l:(List ac)) (r:(((List ac)))):Option ((List ac)):=match r with | out_2=>((yu out_2).opt)
def yp (l:(List ac)):Option ((List ac)):=(fixL (mv l) (([]:List ac),0)).bind (ws l)
theorem agy:List.drop 3 uS = .block 0 (.loop (ah (ah (aP uS 3)))) :: List.drop 4 uS:=by kernel_rfl
theorem akT (l K):∀ r,W (ws l r) (rE Vt K)→Cl l r (wK (aZ 0 (aE (au tP 32 (List.drop 4 uS) K) K)))
  | out_2,h=>⟨(X2 out_2),(.refl _),(ae9 h)⟩
theorem ae8 {l K} (h:W (yp l) (rE Vt K)):au tP 32 (List.drop 3 uS) K (alO l) :=
  au.at_ agy (au.cons_loop (aC.weak (aC.ent (.trans (.nilrow 3 0 70 14 (aV aX aW []) (Nat.le_of_ble_eq_true rfl) rfl) (.cn [0,3,4])) (aC.loopF (x:=ah (ah (aP uS 3))) (f:=mv l) (emb:=Dw l) (E:=Cl l) (ait l) (Tn l) (bM h (akT l K))))))
def aiX (l:(List ac)):St:=⟨[sv 0 (aU l)],[],0⟩
def zN (l:(List ac)):PT _ (rE Vt) (dK tP 32 uS 3 iK):=.lf (yp l) .normal _<|hh fun _ h=>l0 (ae8 h)
theorem afV {l}:Ax tP 32 uS 0 iK (zN l) (aiX l):=.tD mixed [] [0,3,4,17,18,19,20,21,22] 3
def iR (l:(List ac)):Option ((List ac)):=(zN l).opt
def Ar:bW:=dH gn iR ([]:List ac) IR
theorem Kl:bg tP 44 Ar:=cJ Tryz.f44 (ao Tryz.f44) [.tmp 2] 32 fun u0 y h=>@afV u0 _ (bn.2 ⟨y,h,(cx (.row 0 14 0 y.length) (⟨_,_,_,rfl,rfl,rfl,fun _ _=>rfl,fun _ i hi d hd=>mt _ d hd⟩))⟩)
abbrev e44:FE tP:=⟨44, .pure Ar,Kl⟩
noncomputable def vm:List Code:=aA (ao Tryz.f92)
noncomputable def aaJ:List Code:=aA (ah (ah (aP vm 4)))
def KO (x_1:(Int × Bool)):bN:=.data (.tup [(i64 x_1.1),(bl x_1.2)])
def UH (x_1:(Int × Bool)):St:=⟨[sv 4 (i64 x_1.1),sv 5 (bl x_1.2)],[],0⟩
def DY (kind:Int) (c:(List ac)) (s:(Int × Bool × Int)):St:=match s with | (day,ok,i_1)=>⟨[sv 1 (i64 kind),sv 6 (.row 0 14 0 c.length),sv 7 (i64 day),sv 8 (bl ok),sv 9 (i64 i_1)],[(bZ 0 70 c)],1⟩
def ahf (kind:Int) (c:(List ac)) (s:Int × Bool):St:=match s with | (day_1,ok_1)=>⟨[sv 7 (i64 day_1),sv 8 (bl ok_1)],[],0⟩
def BW (kind:Int) (c:(List ac)) (r:((Int × Bool))) (K:KT):Prop:=match r with | s=>K (.exit 0) (ahf kind c s)
def ajH (kind:Int) (c:(List ac)) (day:Int) (ok:Bool) (i_1:Int):St:=DY kind c (day,ok,i_1)
def ju (kind:Int) (c:(List ac)) (day:Int) (ok:Bool) (i_1:Int):PT _ (nE (DY kind c) (BW kind c)) iK:=.bf (decide (i_1 < (c.length:Int))) (.g2 (0≤i_1) (i_1 < (c.length:Int))<|.g1 (((!(!ok))&&(((c.getD (0+(Int.toNat i_1)) aW).Kind == kind)&&true)) = true→0≤i_1)<|.g1 (((!(!ok))&&(((c.getD (0+(Int.toNat i_1)) aW).Kind == kind)&&true)) = true→i_1 < (c.length:Int))<|.bf (bif ((c.getD (0+(Int.toNat i_1)) aW).Kind == kind) then (bif (!ok) then true else (decide (((c.getD (0+(Int.toNat i_1)) aW).Span).From < day))) else false) (.g2 (0≤i_1) (i_1 < (c.length:Int))<|.lf (some (Sum.inl (((c.getD (0+(Int.toNat i_1)) aW).Span).From,true,(ai (i_1+1))))) .normal _<|hh fun _=>lx [1,6,7,8,9] [26,27,28,29,30,31,32,33,34,35,36,37] []) (.lf (some (Sum.inl (day,ok,(ai (i_1+1))))) .normal _<|hh fun _=>lx [1,6,7,8,9] [26,27,28,29,30,31,32,33,34,35,36,37] [])) (.lf (some (Sum.inr (day,ok))) (.exit 0) (DY kind c (day,ok,i_1))<|hh fun _=>lg (.cn [7,8]))
theorem aer {kind c day ok i_1}:Ax tP 47 aaJ 0 iK (ju kind c day ok i_1) (ajH kind c day ok i_1):=.tE mixed [] [1,6,7,8,9,26,27,28,29,30,31,32,33,34,35,36,37] 4
def lV (kind:Int) (c:(List ac)) (s:(Int × Bool × Int)):Option ((Int × Bool × Int) ⊕ ((Int × Bool))):=match s with | (day,ok,i_1)=>(ju kind c day ok i_1).opt
theorem ahp (kind c s):Pp tP 47 (List.drop 0 aaJ) (DY kind c s) (lV kind c s) (cd (DY kind c) (BW kind c)):=fun K h=>match s,h with | (day,ok,i_1),h=>(aer h)
theorem Um (kind c):∀ r J K,BW kind c r K→BW kind c r (aE J K)
  | s,_,_,h=>h
def Xu (day_2:Int) (ok_2:Bool):St:=⟨[sv 7 (i64 day_2),sv 8 (bl ok_2)],[],0⟩
def BX (day_2:Int) (ok_2:Bool):PT _ (rE UH) iK:=.lf (some (day_2,ok_2)) .ret _<|hh fun _=>l0
theorem agn {day_2 ok_2}:Ax tP 47 vm 5 iK (BX day_2 ok_2) (Xu day_2 ok_2):=.tE mixed [] [4,5] 2
def akx (kind:Int) (c:(List ac)):St:=⟨[sv 1 (i64 kind),sv 6 (.row 0 14 0 c.length),sv 7 (i64 0),sv 8 (bl false),sv 9 (i64 0)],[(bZ 0 70 c)],1⟩
abbrev yN (kind:Int) (c:(List ac)) (r:((Int × Bool))):Option ((Int × Bool)):=match r with | (day_1,ok_1)=>((BX day_1 ok_1).opt)
def BQ (kind:Int) (c:(List ac)):Option ((Int × Bool)):=(fixL (lV kind c) (0,false,0)).bind (yN kind c)
theorem adD:List.drop 4 vm = .block 0 (.loop (ah (ah (aP vm 4)))) :: List.drop 5 vm:=by kernel_rfl
theorem akY (kind c K):∀ r,W (yN kind c r) (rE UH K)→BW kind c r (wK (aZ 0 (aE (au tP 47 (List.drop 5 vm) K) K)))
  | (day_1,ok_1),h=>⟨(Xu day_1 ok_1),(.refl _),(agn h)⟩
theorem ace {kind c K} (h:W (BQ kind c) (rE UH K)):au tP 47 (List.drop 4 vm) K (akx kind c) :=
  au.at_ adD (au.cons_loop (aC.weak (aC.ent (.refl _) (aC.loopF (x:=ah (ah (aP vm 4))) (f:=lV kind c) (emb:=DY kind c) (E:=BW kind c) (ahp kind c) (Um kind c) (bM h (akY kind c K))))))
def ajF (l:(List ac)) (kind:Int):St:=⟨[sv 0 (aU l),sv 1 (i64 kind)],[],0⟩
def Co (l:(List ac)) (kind:Int):PT _ (rE UH) (dK tP 47 vm 4 iK):=.lk gX l fun L1_=>.bd (iR L1_) [] fun r_2=>.lf (BQ kind r_2) .normal _<|hh fun _ h=>l0 (ace h)
theorem ac4 {l kind}:Ax tP 47 vm 0 iK (Co l kind) (ajF l kind):=.tD mixed [e44] [1,6,7,8,9,26,27,28,29,30,31,32,33,34,35,36,37] 4
def vK (l:(List ac)) (kind:Int):Option ((Int × Bool)):=(Co l kind).opt
def FH:bW:=fj gn (aI .i64) vK ((0:Int),false) KO
theorem Nh:bg tP 92 FH:=dv Tryz.f92 (ao Tryz.f92) [.tmp 4, .tmp 5] 47 fun u0 u1 y h=>@ac4 u0 u1 _ (bn.2 ⟨y,h,(cx (.tup [(i64 y.1),(bl y.2)]) (VLe.tup (VLes.cons (VLe.rfl' _) (VLes.cons (VLe.rfl' _) (VLes.nil)))))⟩)
abbrev e92:FE tP:=⟨92, .pure FH,Nh⟩
noncomputable def apD:List Code:=aA (ao Tryz.f70)
def Mc (x_1:(Int × Bool)):bN:=.data (.tup [(i64 x_1.1),(bl x_1.2)])
def aqn (x_1:(Int × Bool)):St:=⟨[sv 2 (i64 x_1.1),sv 3 (bl x_1.2)],[],0⟩
def aiL (l:(List ac)):St:=⟨[sv 0 (aU l)],[],0⟩
def pc (l:(List ac)):PT _ (rE aqn) iK:=.lk gX l fun L1_=>.bd (vK L1_ 11) (0,false) fun r_2=>.lf (some (r_2.1,r_2.2)) .ret _<|hh fun _=>l0
theorem agS {l}:Ax tP 8 apD 0 iK (pc l) (aiL l):=.tE mixed [e92] [2,3] 3
def BC (l:(List ac)):Option ((Int × Bool)):=(pc l).opt
def F4:bW:=dH gn BC ((0:Int),false) Mc
theorem MF:bg tP 70 F4:=cJ Tryz.f70 (ao Tryz.f70) [.tmp 2, .tmp 3] 8 fun u0 y h=>@agS u0 _ (bn.2 ⟨y,h,(cx (.tup [(i64 y.1),(bl y.2)]) (VLe.tup (VLes.cons (VLe.rfl' _) (VLes.cons (VLe.rfl' _) (VLes.nil)))))⟩)
abbrev e70:FE tP:=⟨70, .pure F4,MF⟩
noncomputable def aoF:List Code:=aA (ao Tryz.f71)
def Lv (x_1:(Int × Bool)):bN:=.data (.tup [(i64 x_1.1),(bl x_1.2)])
def aqZ (x_1:(Int × Bool)):St:=⟨[sv 2 (i64 x_1.1),sv 3 (bl x_1.2)],[],0⟩
def aj6 (l:(List ac)):St:=⟨[sv 0 (aU l)],[],0⟩
def pj (l:(List ac)):PT _ (rE aqZ) iK:=.lk gX l fun L1_=>.bd (vK L1_ 12) (0,false) fun r_2=>.lf (some (r_2.1,r_2.2)) .ret _<|hh fun _=>l0
theorem afT {l}:Ax tP 8 aoF 0 iK (pj l) (aj6 l):=.tE mixed [e92] [2,3] 3
def BI (l:(List ac)):Option ((Int × Bool)):=(pj l).opt
def F8:bW:=dH gn BI ((0:Int),false) Lv
theorem MJ:bg tP 71 F8:=cJ Tryz.f71 (ao Tryz.f71) [.tmp 2, .tmp 3] 8 fun u0 y h=>@afT u0 _ (bn.2 ⟨y,h,(cx (.tup [(i64 y.1),(bl y.2)]) (VLe.tup (VLes.cons (VLe.rfl' _) (VLes.cons (VLe.rfl' _) (VLes.nil)))))⟩)
abbrev e71:FE tP:=⟨71, .pure F8,MJ⟩
noncomputable def Ul:List Code:=aA (ao Tryz.f45)
def MN (x_1:ab):bN:=.data (.agg [(i64 x_1.From),(i64 x_1.To)])
def amW (x_1:ab):St:=⟨[sv 2 (.ptr 0 2 0 0)],[(0,some (.box [(i64 x_1.From),(i64 x_1.To)]))],1⟩
def aiF (from_1 to_1:Int):St:=⟨[sv 2 (.ptr 0 2 0 0),sv 3 (i64 from_1),sv 5 (i64 to_1)],[(0,some (.bx (aN (ab.mk 0 0))))],1⟩
def qy (from_1 to_1:Int):PT _ (rE amW) iK:=.bf (decide (to_1 < from_1)) (.lf (some (ab.mk 0 0)) .ret _<|hh fun _=>l0) (.lf (some (ab.mk from_1 (ai (to_1+1)))) .ret _<|hh fun _=>l0)
theorem Ta {from_1 to_1}:Ax tP 27 Ul 5 iK (qy from_1 to_1) (aiF from_1 to_1):=.tE mixed [] [2] 4
def akp (l:(List ac)):St:=⟨[sv 0 (aU l)],[],0⟩
def qN (l:(List ac)):PT _ (rE amW) (dK tP 27 Ul 5 iK):=.lk gX l fun L1_=>.bd (BC L1_) (0,false) fun r_3=>.tv (QK l) (kb cE)<|.bd (BI L1_) (0,false) fun r_4=>.bf (!r_4.2) (.lf ((qy r_3.1 73048).opt) .normal _<|hh fun _ h=>l0 (Ta h)) (.lf ((qy r_3.1 r_4.1).opt) .normal _<|hh fun _ h=>l0 (Ta h))
theorem acp {l}:Ax tP 27 Ul 0 iK (qN l) (akp l):=.tD mixed [e70,e71] [2,3,5] 5
def tk (l:(List ac)):Option (ab):=(qN l).opt
def Hv:bW:=dH gn tk aq MN
theorem OF:bg tP 45 Hv:=cJ Tryz.f45 (ao Tryz.f45) [.cell 2 59] 27 fun u0 y h=>@acp u0 _ (bn.2 ⟨y,h,(cx (.agg [(i64 y.From),(i64 y.To)]) (VLe.rfl' _))⟩)
abbrev Rv:FE tP:=⟨45, .pure Hv,OF⟩
end
end Go.Ax
