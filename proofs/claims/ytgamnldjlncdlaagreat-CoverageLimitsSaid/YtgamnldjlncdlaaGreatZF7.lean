import Derived.Test.YtgamnldjlncdlaaGreatZF6
import Derived.Test.YtgamnldjlncdlaaGreatRows
/- Types of the program, and functions of it: printed by a program, checked by the kernel. -/
set_option linter.all false
set_option maxRecDepth 100000
namespace Go.Ax
open Go.Proofs Go.Proofs.YtgamnldjlncdlaaGreat
noncomputable section
attribute [local irreducible] PT.opt
noncomputable def lX:List Code:=aA (an Tryz.f7)
noncomputable def agQ:List Code:=aA (ah (ah (aQ lX 4)))
noncomputable def rR:List Code:=aA (ah (ah (aQ lX 8)))
noncomputable def Aq:List Code:=aA (ah (aQ rR 2))
noncomputable def Ta:List Code:=aA (ah (ah (aQ Aq 4)))
def Fm (x_2:((List ao) × Int)):bK:=.new (.tup [(er x_2.1),(i64 x_2.2)])
def M4 (x_2:((List ao) × Int)):St:=⟨[sv 8 (.row 0 4 0 x_2.1.length),sv 9 (i64 x_2.2)],[(fi 0 76 x_2.1)],1⟩
def He (l:(List ae)) (law:(List aZ)) (schemes:(List ax)) (before:Int) (s:(Int)):St:=match s with | t30=>⟨[sv 0 (bk l),sv 1 (dM law),sv 2 (eV schemes),sv 3 (i64 before),sv 28 (eV schemes),sv 29 (i64 (schemes.length:Int)),sv 30 (i64 t30)],[],0⟩
def ahg (l:(List ae)) (law:(List aZ)) (schemes:(List ax)) (before:Int) (s:Unit):St:=match s with | ()=>⟨[sv 8 (.c .nil),sv 9 (i64 1)],[],0⟩
def PV (l:(List ae)) (law:(List aZ)) (schemes:(List ax)) (before:Int) (s:Unit):St:=match s with | ()=>⟨[sv 0 (bk l),sv 1 (dM law),sv 2 (eV schemes),sv 3 (i64 before)],[],0⟩
def Hj (l:(List ae)) (law:(List aZ)) (schemes:(List ax)) (before:Int) (r:((Unit) ⊕ (Unit))) (K:KT):Prop:=match r with | (.inl s)=>K .ret (ahg l law schemes before s) | (.inr s)=>K (.exit 0) (PV l law schemes before s)
def amY (l:(List ae)) (law:(List aZ)) (schemes:(List ax)) (before t30:Int):St:=He l law schemes before t30
def wj (l:(List ae)) (law:(List aZ)) (schemes:(List ax)) (before t30:Int):PT _ (nE (He l law schemes before) (Hj l law schemes before)) iK:=.bf (decide (t30 < (schemes.length:Int))) (.g2 (0≤t30) (t30 < (schemes.length:Int))<|.g1 (((decide (0 < t30))&&((!(bif (decide ((schemes.getD (Int.toNat t30) cU).State < 0)) then true else (decide (6≤(schemes.getD (Int.toNat t30) cU).State))))&&true)) = true→0≤(ai (t30 - 1)))<|.g1 (((decide (0 < t30))&&((!(bif (decide ((schemes.getD (Int.toNat t30) cU).State < 0)) then true else (decide (6≤(schemes.getD (Int.toNat t30) cU).State))))&&true)) = true→(ai (t30 - 1)) < (schemes.length:Int))<|.bf (bif (bif (decide ((schemes.getD (Int.toNat t30) cU).State < 0)) then true else (decide (6≤(schemes.getD (Int.toNat t30) cU).State))) then true else (bif (decide (0 < t30)) then (decide ((schemes.getD (Int.toNat t30) cU).State≤(schemes.getD (Int.toNat (ai (t30 - 1))) cU).State)) else false)) (.lf (some (Sum.inr (Sum.inl ()))) .ret _<|hh fun _=>lx [8,9] [39,40,41,44,45,46,47,48,49,50,51,52,53,54,55,56] [sv 0 (bk l),sv 1 (dM law),sv 2 (eV schemes),sv 3 (i64 before),sv 28 (eV schemes),sv 29 (i64 (schemes.length:Int)),sv 30 (i64 t30)]) (.lf (some (Sum.inl (ai (t30+1)))) .normal _<|hh fun _=>lx [0,1,2,3,28,29,30] [39,40,41,44,45,46,47,48,49,50,51,52,53,54,55,56] [])) (.lf (some (Sum.inr (Sum.inr ()))) (.exit 0) (He l law schemes before t30)<|hh fun _=>lg (.cn [0,1,2,3]))
theorem agL {l law schemes before t30}:Ax tP 128 agQ 0 iK (wj l law schemes before t30) (amY l law schemes before t30):=.tE mixed [] [0,1,2,3,8,9,28,29,30,39,40,41,44,45,46,47,48,49,50,51,52,53,54,55,56,104,105,106] 4
def kt (l:(List ae)) (law:(List aZ)) (schemes:(List ax)) (before:Int) (s:(Int)):Option ((Int) ⊕ ((Unit) ⊕ (Unit))):=match s with | t30=>(wj l law schemes before t30).opt
theorem ajT (l law schemes before s):Pp tP 128 (List.drop 0 agQ) (He l law schemes before s) (kt l law schemes before s) (cl (He l law schemes before) (Hj l law schemes before)):=fun K h=>match s,h with | t30,h=>(agL h)
theorem Wp (l law schemes before):∀ r J K,Hj l law schemes before r K→Hj l law schemes before r (aH J K)
  | (.inl s),_,_,h=>h
  | (.inr s),_,_,h=>h
def sO (l:(List ae)) (law:(List aZ)) (schemes:(List ax)) (past:ab) (s:(Int × (List ao))):St:=match s with | (t63,out_4)=>⟨[sv 0 (bk l),sv 1 (dM law),sv 12 (.ptr 0 1 0 0),sv 13 (.ptr 1 2 0 0),sv 61 (eV schemes),sv 62 (i64 (schemes.length:Int)),sv 63 (i64 t63)],[(0,some (.box [(.row 2 4 0 out_4.length)])),(1,some (.bx (aO past))),(fi 2 76 out_4)],3⟩
def ag3 (l:(List ae)) (law:(List aZ)) (schemes:(List ax)) (past:ab) (s:(List ao)):St:=match s with | out_8=>⟨[sv 12 (.ptr 0 1 0 0)],[(0,some (.box [(.row 1 4 0 out_8.length)])),(fi 1 76 out_8)],2⟩
def sA (l:(List ae)) (law:(List aZ)) (schemes:(List ax)) (past:ab) (r:(((List ao)))) (K:KT):Prop:=match r with | s=>K (.exit 2) (ag3 l law schemes past s)
def Dx (l:(List ae)) (law:(List aZ)) (schemes:(List ax)) (t63_3:Int) (t76:(List bX)) (t77:Int) (out_1:(List ao)) (past:ab) (x_1:ax) (s:(Int × Int × (List ao))):St:=match s with | (t63_4,t78,out_3)=>⟨[sv 0 (bk l),sv 1 (dM law),sv 12 (.ptr 0 1 0 0),sv 13 (.ptr 1 2 0 0),sv 15 (.ptr 2 9 0 0),sv 16 (.fn 25 [(.ptr 0 1 0 0),(.ptr 2 9 0 0)]),sv 61 (eV schemes),sv 62 (i64 (schemes.length:Int)),sv 63 (i64 t63_4),sv 76 (.row 3 2 0 t76.length),sv 77 (i64 t77),sv 78 (i64 t78)],[(0,some (.box [(.row 4 4 0 out_3.length)])),(1,some (.bx (aO past))),(2,some (.bx (gv x_1))),(D0 3 81 t76),(fi 4 76 out_3)],5⟩
def alK (l:(List ae)) (law:(List aZ)) (schemes:(List ax)) (t63_3:Int) (t76:(List bX)) (t77:Int) (out_1:(List ao)) (past:ab) (x_1:ax) (s:Int × (List ao)):St:=match s with | (t63_6,out_5)=>⟨[sv 0 (bk l),sv 1 (dM law),sv 12 (.ptr 0 1 0 0),sv 13 (.ptr 1 2 0 0),sv 61 (eV schemes),sv 62 (i64 (schemes.length:Int)),sv 63 (i64 t63_6)],[(0,some (.box [(.row 2 4 0 out_5.length)])),(1,some (.bx (aO past))),(fi 2 76 out_5)],3⟩
def DL (l:(List ae)) (law:(List aZ)) (schemes:(List ax)) (t63_3:Int) (t76:(List bX)) (t77:Int) (out_1:(List ao)) (past:ab) (x_1:ax) (r:((Int × (List ao)))) (K:KT):Prop:=match r with | s=>K (.exit 4) (alK l law schemes t63_3 t76 t77 out_1 past x_1 s)
def ams (l:(List ae)) (law:(List aZ)) (schemes:(List ax)) (t63_5:Int) (t76:(List bX)) (t77 t78_1:Int) (out_2:(List ao)) (past:ab) (x_1:ax):St:=⟨[sv 0 (bk l),sv 1 (dM law),sv 12 (.ptr 0 1 0 0),sv 13 (.ptr 1 2 0 0),sv 15 (.ptr 2 9 0 0),sv 16 (.fn 25 [(.ptr 0 1 0 0),(.ptr 2 9 0 0)]),sv 61 (eV schemes),sv 62 (i64 (schemes.length:Int)),sv 63 (i64 t63_5),sv 76 (.row 3 2 0 t76.length),sv 77 (i64 t77),sv 78 (i64 t78_1)],[(0,some (.box [(.row 4 4 0 out_2.length)])),(1,some (.bx (aO past))),(2,some (.bx (gv x_1))),(D0 3 81 t76),(fi 4 76 out_2)],5⟩
def eQ (l:(List ae)) (law:(List aZ)) (schemes:(List ax)) (t63_5:Int) (t76:(List bX)) (t77 t78_1:Int) (out_2:(List ao)) (past:ab) (x_1:ax):PT _ (nE (Dx l law schemes (0:Int) t76 t77 ([]:List ao) past x_1) (DL l law schemes (0:Int) t76 t77 ([]:List ao) past x_1)) iK:=.lf (some (Sum.inl (t63_5,(ai (t78_1+1)),out_2))) .normal _<|hh fun _=>l0
theorem Kf {l law schemes t63_5 t76 t77 t78_1 out_2 past x_1}:Ax tP 128 Ta 3 iK (eQ l law schemes t63_5 t76 t77 t78_1 out_2 past x_1) (ams l law schemes t63_5 t76 t77 t78_1 out_2 past x_1):=.tE mixed [] [0,1,12,13,15,16,61,62,63,76,77,78,104,105,106] 1
def anf (l:(List ae)) (law:(List aZ)) (schemes:(List ax)) (t63_4:Int) (t76:(List bX)) (t77 t78:Int) (out_3:(List ao)) (past:ab) (x_1:ax):St:=Dx l law schemes (0:Int) t76 t77 ([]:List ao) past x_1 (t63_4,t78,out_3)
def ga (l:(List ae)) (law:(List aZ)) (schemes:(List ax)) (t63_4:Int) (t76:(List bX)) (t77 t78:Int) (out_3:(List ao)) (past:ab) (x_1:ax):PT _ (nE (Dx l law schemes (0:Int) t76 t77 ([]:List ao) past x_1) (DL l law schemes (0:Int) t76 t77 ([]:List ao) past x_1)) (dK tP 128 Ta 3 iK):=.bf (decide (t78 < t77)) (.g2 (0≤t78) (t78 < (t76.length:Int))<|.lk DG x_1.Version.Credits fun L1_=>.lk Mq x_1.Version.Series fun L2_=>.lk Sh x_1.Version.Lets fun L3_=>.lk Mm x_1.Version.Grants fun L4_=>.lk Jb x_1.Version.Reduces fun L5_=>.bd (tO (az.mk x_1.Version.From (bt.mk x_1.Version.Rounding.Mode x_1.Version.Rounding.Unit) L1_ L2_ L3_ L4_ L5_) ((t76.getD (0+(Int.toNat t78)) mx).kind)) (0,false) fun r_13=>.bf (!r_13.2) (.lf ((eQ l law schemes t63_4 t76 t77 t78 out_3 past x_1).opt) .normal _<|hh fun _ h=>l0 (Kf h)) (.lk jG l fun L6_=>.bd (y0 L6_ ((t76.getD (0+(Int.toNat t78)) mx).kind) x_1.State) [] fun r_14=>.tv (aJ aO bB 2 2 r_14.length (fun i=>(bE r_14) (0+i))) (ac.ok aW (ac.zero .b))<|.ls (a:=lst bB r_14.length (fun i=>(bE r_14) (0+i))) (lr aW (ac.zero .b)) fun L7_=>.bd (mB L7_ past) [] fun r_15=>.bf (bif (r_13.1 != 0) then ((t76.getD (0+(Int.toNat t78)) mx).kind == 10) else false) (.tv (P2 l) (kb cf)<|.bd (qT L6_ x_1.State past r_13.1) [] fun r_16=>.tv (aJ aO bB 2 2 r_16.length (fun i=>(bE r_16) (0+i))) (ac.ok aW (ac.zero .b))<|.tv (out_3.length = out_3.length) (rfl)<|.lk yU out_3 fun L8_=>.tv (Jl x_1.Version.Credits) (kb ja)<|.tv (Ly x_1.Version.Series) (kb kz)<|.tv (SA x_1.Version.Lets) (kb pR)<|.tv (LU x_1.Version.Grants) (kb kx)<|.tv (IN x_1.Version.Reduces) (kb i7)<|.ls (a:=lst bB r_16.length (fun i=>(bE r_16) (0+i))) (lr aW (ac.zero .b)) fun L9_=>.bd (cH ((t76.getD (0+(Int.toNat t78)) mx).rank) L9_ L8_ (ax.mk x_1.State (az.mk x_1.Version.From (bt.mk x_1.Version.Rounding.Mode x_1.Version.Rounding.Unit) L1_ L2_ L3_ L4_ L5_))) [] fun r_17=>.lf ((eQ l law schemes t63_4 t76 t77 t78 r_17 past x_1).opt) .normal _<|hh fun _ h=>lz (Kf h) [0,1,12,13,15,16,61,62,63,76,77,78] [104,105,106] []) (.bf (r_13.1 != 0) (.tv (aJ aO bB 2 2 r_15.length (fun i=>(bE r_15) (0+i))) (ac.ok aW (ac.zero .b))<|.ls (a:=lst bB r_15.length (fun i=>(bE r_15) (0+i))) (lr aW (ac.zero .b)) fun L10_=>.bd (rH L10_ r_13.1) [] fun r_18=>.tv (aJ aO bB 2 2 r_18.length (fun i=>(bE r_18) (0+i))) (ac.ok aW (ac.zero .b))<|.tv (out_3.length = out_3.length) (rfl)<|.lk yU out_3 fun L11_=>.tv (Jl x_1.Version.Credits) (kb ja)<|.tv (Ly x_1.Version.Series) (kb kz)<|.tv (SA x_1.Version.Lets) (kb pR)<|.tv (LU x_1.Version.Grants) (kb kx)<|.tv (IN x_1.Version.Reduces) (kb i7)<|.ls (a:=lst bB r_18.length (fun i=>(bE r_18) (0+i))) (lr aW (ac.zero .b)) fun L12_=>.bd (cH ((t76.getD (0+(Int.toNat t78)) mx).rank) L12_ L11_ (ax.mk x_1.State (az.mk x_1.Version.From (bt.mk x_1.Version.Rounding.Mode x_1.Version.Rounding.Unit) L1_ L2_ L3_ L4_ L5_))) [] fun r_19=>.lf ((eQ l law schemes t63_4 t76 t77 t78 r_19 past x_1).opt) .normal _<|hh fun _ h=>lz (Kf h) [0,1,12,13,15,16,61,62,63,76,77,78] [104,105,106] []) (.tv (aJ aO bB 2 2 r_15.length (fun i=>(bE r_15) (0+i))) (ac.ok aW (ac.zero .b))<|.tv (out_3.length = out_3.length) (rfl)<|.lk yU out_3 fun L13_=>.tv (Jl x_1.Version.Credits) (kb ja)<|.tv (Ly x_1.Version.Series) (kb kz)<|.tv (SA x_1.Version.Lets) (kb pR)<|.tv (LU x_1.Version.Grants) (kb kx)<|.tv (IN x_1.Version.Reduces) (kb i7)<|.ls (a:=lst bB r_15.length (fun i=>(bE r_15) (0+i))) (lr aW (ac.zero .b)) fun L14_=>.bd (cH ((t76.getD (0+(Int.toNat t78)) mx).rank) L14_ L13_ (ax.mk x_1.State (az.mk x_1.Version.From (bt.mk x_1.Version.Rounding.Mode x_1.Version.Rounding.Unit) L1_ L2_ L3_ L4_ L5_))) [] fun r_20=>.lf ((eQ l law schemes t63_4 t76 t77 t78 r_20 past x_1).opt) .normal _<|hh fun _ h=>lz (Kf h) [0,1,12,13,15,16,61,62,63,76,77,78] [104,105,106] [])))) (.lf (some (Sum.inr (t63_4,out_3))) (.exit 4) (Dx l law schemes (0:Int) t76 t77 ([]:List ao) past x_1 (t63_4,t78,out_3))<|hh fun _=>lg (.cn [0,1,12,13,61,62,63]))
theorem alc {l law schemes t63_4 t76 t77 t78 out_3 past x_1}:Ax tP 128 Ta 0 iK (ga l law schemes t63_4 t76 t77 t78 out_3 past x_1) (anf l law schemes t63_4 t76 t77 t78 out_3 past x_1):=.tD mixed [e25,ZI,e29,e30,e31,e32] [0,1,12,13,15,16,61,62,63,76,77,78,104,105,106] 3
def eJ (l:(List ae)) (law:(List aZ)) (schemes:(List ax)) (t63_3:Int) (t76:(List bX)) (t77:Int) (out_1:(List ao)) (past:ab) (x_1:ax) (s:(Int × Int × (List ao))):Option ((Int × Int × (List ao)) ⊕ ((Int × (List ao)))):=match s with | (t63_4,t78,out_3)=>(ga l law schemes t63_4 t76 t77 t78 out_3 past x_1).opt
theorem ajA (l law schemes t63_3 t76 t77 out_1 past x_1 s):Pp tP 128 (List.drop 0 Ta) (Dx l law schemes t63_3 t76 t77 out_1 past x_1 s) (eJ l law schemes t63_3 t76 t77 out_1 past x_1 s) (cl (Dx l law schemes t63_3 t76 t77 out_1 past x_1) (DL l law schemes t63_3 t76 t77 out_1 past x_1)):=fun K h=>match s,h with | (t63_4,t78,out_3),h=>(alc h)
theorem VY (l law schemes t63_3 t76 t77 out_1 past x_1):∀ r J K,DL l law schemes t63_3 t76 t77 out_1 past x_1 r K→DL l law schemes t63_3 t76 t77 out_1 past x_1 r (aH J K)
  | s,_,_,h=>h
def Zt (l:(List ae)) (law:(List aZ)) (schemes:(List ax)) (t63_7:Int) (out_6:(List ao)) (past:ab):St:=⟨[sv 0 (bk l),sv 1 (dM law),sv 12 (.ptr 0 1 0 0),sv 13 (.ptr 1 2 0 0),sv 61 (eV schemes),sv 62 (i64 (schemes.length:Int)),sv 63 (i64 t63_7)],[(0,some (.box [(.row 2 4 0 out_6.length)])),(1,some (.bx (aO past))),(fi 2 76 out_6)],3⟩
def km (l:(List ae)) (law:(List aZ)) (schemes:(List ax)) (t63_7:Int) (out_6:(List ao)) (past:ab):PT _ (nE (sO l law schemes past) (sA l law schemes past)) iK:=.lf (some (Sum.inl ((ai (t63_7+1)),out_6))) .normal _<|hh fun _=>l0
theorem aja {l law schemes t63_7 out_6 past}:Ax tP 128 rR 3 iK (km l law schemes t63_7 out_6 past) (Zt l law schemes t63_7 out_6 past):=.tE mixed [] [0,1,12,13,61,62,63,104,105,106] 1
def al4 (l:(List ae)) (law:(List aZ)) (schemes:(List ax)) (t63_3:Int) (t76:(List bX)) (t77:Int) (out_1:(List ao)) (past:ab) (x_1:ax):St:=⟨[sv 0 (bk l),sv 1 (dM law),sv 12 (.ptr 0 1 0 0),sv 13 (.ptr 1 2 0 0),sv 15 (.ptr 2 9 0 0),sv 16 (.fn 25 [(.ptr 0 1 0 0),(.ptr 2 9 0 0)]),sv 61 (eV schemes),sv 62 (i64 (schemes.length:Int)),sv 63 (i64 t63_3),sv 76 (.row 3 2 0 t76.length),sv 77 (i64 t77),sv 78 (i64 0)],[(0,some (.box [(.row 4 4 0 out_1.length)])),(1,some (.bx (aO past))),(2,some (.bx (gv x_1))),(D0 3 81 t76),(fi 4 76 out_1)],5⟩
abbrev rM (l:(List ae)) (law:(List aZ)) (schemes:(List ax)) (t63_3:Int) (t76:(List bX)) (t77:Int) (out_1:(List ao)) (past:ab) (x_1:ax) (r:((Int × (List ao)))):Option ((Int × (List ao)) ⊕ (((List ao)))):=match r with | (t63_6,out_5)=>((km l law schemes t63_6 out_5 past).opt)
def wi (l:(List ae)) (law:(List aZ)) (schemes:(List ax)) (t63_3:Int) (t76:(List bX)) (t77:Int) (out_1:(List ao)) (past:ab) (x_1:ax):Option ((Int × (List ao)) ⊕ (((List ao)))):=(fixL (eJ l law schemes t63_3 t76 t77 out_1 past x_1) (t63_3,0,out_1)).bind (rM l law schemes t63_3 t76 t77 out_1 past x_1)
theorem aiV:List.drop 4 Aq = .block 4 (.loop (ah (ah (aQ Aq 4)))) :: List.drop 5 Aq:=by kernel_rfl
theorem amP (l law schemes t63_3 t76 t77 out_1 past x_1 K):∀ r,W (rM l law schemes t63_3 t76 t77 out_1 past x_1 r) (nE (sO l law schemes past) (sA l law schemes past) K)→DL l law schemes t63_3 t76 t77 out_1 past x_1 r (wK (bj 4 (aH (ar tP 128 (List.drop 5 Aq) (bj 3 (aH (ar tP 128 (List.drop 3 rR) K) K))) (bj 3 (aH (ar tP 128 (List.drop 3 rR) K) K)))))
  | (t63_6,out_5),h=>⟨(Zt l law schemes t63_6 out_5 past),(.refl _),(ar.end_ (by kernel_rfl:List.drop 5 Aq = []) (aja h))⟩
theorem aiF {l law schemes t63_3 t76 t77 out_1 past x_1 K} (h:W (wi l law schemes t63_3 t76 t77 out_1 past x_1) (nE (sO l law schemes past) (sA l law schemes past) K)):ar tP 128 (List.drop 4 Aq) (bj 3 (aH (ar tP 128 (List.drop 3 rR) K) K)) (al4 l law schemes t63_3 t76 t77 out_1 past x_1) :=
  ar.at_ aiV (ar.cons_loop (aC.weak (aC.ent (.refl _) (aC.loopF (x:=ah (ah (aQ Aq 4))) (f:=eJ l law schemes t63_3 t76 t77 out_1 past x_1) (emb:=Dx l law schemes t63_3 t76 t77 out_1 past x_1) (E:=DL l law schemes t63_3 t76 t77 out_1 past x_1) (ajA l law schemes t63_3 t76 t77 out_1 past x_1) (VY l law schemes t63_3 t76 t77 out_1 past x_1) (bT h (amP l law schemes t63_3 t76 t77 out_1 past x_1 K))))))
def ame (l:(List ae)) (law:(List aZ)) (schemes:(List ax)) (t63_2:Int) (out_9:(List ao)) (past:ab):St:=⟨[sv 0 (bk l),sv 1 (dM law),sv 12 (.ptr 0 1 0 0),sv 13 (.ptr 1 2 0 0),sv 61 (eV schemes),sv 62 (i64 (schemes.length:Int)),sv 63 (i64 t63_2)],[(0,some (.box [(.row 2 4 0 out_9.length)])),(1,some (.bx (aO past))),(fi 2 76 out_9)],3⟩
def kG (l:(List ae)) (law:(List aZ)) (schemes:(List ax)) (t63_2:Int) (out_9:(List ao)) (past:ab):PT _ (nE (sO l law schemes past) (sA l law schemes past)) (dK tP 128 Aq 4 (fun K=>(bj 3 (aH (ar tP 128 (List.drop 3 rR) K) K)))):=.g2 (0≤t63_2) (t63_2 < (schemes.length:Int))<|.lk Wl law fun L1_=>.bd (qM L1_ ((schemes.getD (Int.toNat t63_2) cU).State) 3) [] fun r_21=>.tv (aJ aO bB 2 2 r_21.length (fun i=>(bE r_21) (0+i))) (ac.ok aW (ac.zero .b))<|.ls (a:=lst bB r_21.length (fun i=>(bE r_21) (0+i))) (lr aW (ac.zero .b)) fun L2_=>.bd (mB L2_ past) [] fun r_22=>.tv (aJ aO bB 2 2 r_22.length (fun i=>(bE r_22) (0+i))) (ac.ok aW (ac.zero .b))<|.tv (out_9.length = out_9.length) (rfl)<|.lk yU out_9 fun L3_=>.lk DG (((schemes.getD (Int.toNat t63_2) cU).Version).Credits) fun L4_=>.lk Mq (((schemes.getD (Int.toNat t63_2) cU).Version).Series) fun L5_=>.lk Sh (((schemes.getD (Int.toNat t63_2) cU).Version).Lets) fun L6_=>.lk Mm (((schemes.getD (Int.toNat t63_2) cU).Version).Grants) fun L7_=>.lk Jb (((schemes.getD (Int.toNat t63_2) cU).Version).Reduces) fun L8_=>.ls (a:=lst bB r_22.length (fun i=>(bE r_22) (0+i))) (lr aW (ac.zero .b)) fun L9_=>.bd (cH 1 L9_ L3_ (ax.mk (schemes.getD (Int.toNat t63_2) cU).State (az.mk ((schemes.getD (Int.toNat t63_2) cU).Version).From (bt.mk (((schemes.getD (Int.toNat t63_2) cU).Version).Rounding).Mode (((schemes.getD (Int.toNat t63_2) cU).Version).Rounding).Unit) L4_ L5_ L6_ L7_ L8_))) [] fun r_23=>.bd (kZ) [] fun r_24=>.lf (wi l law schemes t63_2 r_24 (r_24.length:Int) r_23 past (schemes.getD (Int.toNat t63_2) cU)) .normal _<|hh fun _ h=>l0 (aiF h)
theorem ajR {l law schemes t63_2 out_9 past}:Ax tP 128 Aq 0 (fun K=>(bj 3 (aH (ar tP 128 (List.drop 3 rR) K) K))) (kG l law schemes t63_2 out_9 past) (ame l law schemes t63_2 out_9 past):=.tD mixed [e25,ZI,e27,e28] [0,1,12,13,15,16,61,62,63,76,77,78,104,105,106] 4
def amy (l:(List ae)) (law:(List aZ)) (schemes:(List ax)) (t63_1:Int) (out_7:(List ao)) (past:ab):St:=⟨[sv 0 (bk l),sv 1 (dM law),sv 12 (.ptr 0 1 0 0),sv 13 (.ptr 1 2 0 0),sv 61 (eV schemes),sv 62 (i64 (schemes.length:Int)),sv 63 (i64 t63_1)],[(0,some (.box [(.row 2 4 0 out_7.length)])),(1,some (.bx (aO past))),(fi 2 76 out_7)],3⟩
def vr (l:(List ae)) (law:(List aZ)) (schemes:(List ax)) (t63_1:Int) (out_7:(List ao)) (past:ab):Option ((Int × (List ao)) ⊕ (((List ao)))):=((kG l law schemes t63_1 out_7 past).opt)
theorem ahP:List.drop 2 rR = .block 3 (ah (aQ rR 2)) :: List.drop 3 rR:=by kernel_rfl
theorem aks {l law schemes t63_1 out_7 past K} (h:W (vr l law schemes t63_1 out_7 past) (nE (sO l law schemes past) (sA l law schemes past) K)):ar tP 128 (List.drop 2 rR) K (amy l law schemes t63_1 out_7 past) :=
  ar.at_ ahP (ar.cons_block (ar.en (ajR h) (.refl _)))
def amb (l:(List ae)) (law:(List aZ)) (schemes:(List ax)) (t63:Int) (out_4:(List ao)) (past:ab):St:=sO l law schemes past (t63,out_4)
def gi (l:(List ae)) (law:(List aZ)) (schemes:(List ax)) (t63:Int) (out_4:(List ao)) (past:ab):PT _ (nE (sO l law schemes past) (sA l law schemes past)) (dK tP 128 rR 2 iK):=.bf (decide (t63 < (schemes.length:Int))) (.lf (vr l law schemes t63 out_4 past) .normal _<|hh fun _ h=>l0 (aks h)) (.lf (some (Sum.inr out_4)) (.exit 2) (sO l law schemes past (t63,out_4))<|hh fun _=>lg (.cn [12]))
theorem ak4 {l law schemes t63 out_4 past}:Ax tP 128 rR 0 iK (gi l law schemes t63 out_4 past) (amb l law schemes t63 out_4 past):=.tD mixed [] [0,1,12,13,61,62,63,104,105,106] 2
def eP (l:(List ae)) (law:(List aZ)) (schemes:(List ax)) (past:ab) (s:(Int × (List ao))):Option ((Int × (List ao)) ⊕ (((List ao)))):=match s with | (t63,out_4)=>(gi l law schemes t63 out_4 past).opt
theorem akM (l law schemes past s):Pp tP 128 (List.drop 0 rR) (sO l law schemes past s) (eP l law schemes past s) (cl (sO l law schemes past) (sA l law schemes past)):=fun K h=>match s,h with | (t63,out_4),h=>(ak4 h)
theorem Vr (l law schemes past):∀ r J K,sA l law schemes past r K→sA l law schemes past r (aH J K)
  | s,_,_,h=>h
def ZM (out_10:(List ao)):St:=⟨[sv 12 (.ptr 0 1 0 0)],[(0,some (.box [(.row 1 4 0 out_10.length)])),(fi 1 76 out_10)],2⟩
def vC (out_10:(List ao)):PT _ (rE M4) iK:=.lf (some (out_10,0)) .ret _<|hh fun _=>l0
theorem agN {out_10}:Ax tP 128 lX 9 iK (vC out_10) (ZM out_10):=.tE mixed [] [8,9] 2
def ans (l:(List ae)) (law:(List aZ)) (schemes:(List ax)) (past:ab):St:=⟨[sv 0 (bk l),sv 1 (dM law),sv 12 (.ptr 0 1 0 0),sv 13 (.ptr 1 2 0 0),sv 61 (eV schemes),sv 62 (i64 (schemes.length:Int)),sv 63 (i64 0)],[(0,some (.box [(.c .nil)])),(1,some (.bx (aO past)))],2⟩
abbrev si (l:(List ae)) (law:(List aZ)) (schemes:(List ax)) (past:ab) (r:(((List ao)))):Option (((List ao) × Int)):=match r with | out_8=>((vC out_8).opt)
def vU (l:(List ae)) (law:(List aZ)) (schemes:(List ax)) (past:ab):Option (((List ao) × Int)):=(fixL (eP l law schemes past) (0,([]:List ao))).bind (si l law schemes past)
theorem ajs:List.drop 8 lX = .block 2 (.loop (ah (ah (aQ lX 8)))) :: List.drop 9 lX:=by kernel_rfl
theorem al6 (l law schemes past K):∀ r,W (si l law schemes past r) (rE M4 K)→sA l law schemes past r (wK (bj 2 (aH (ar tP 128 (List.drop 9 lX) K) K)))
  | out_8,h=>⟨(ZM out_8),(.refl _),(agN h)⟩
theorem ajW {l law schemes past K} (h:W (vU l law schemes past) (rE M4 K)):ar tP 128 (List.drop 8 lX) K (ans l law schemes past) :=
  ar.at_ ajs (ar.cons_loop (aC.weak (aC.ent (.trans (.nilbox 0 0 2 76 4 (aV dJ cG []) [(.c .nil)] (Nat.le_of_ble_eq_true rfl) rfl rfl) (.cn [0,1,12,13,61,62,63])) (aC.loopF (x:=ah (ah (aQ lX 8))) (f:=eP l law schemes past) (emb:=sO l law schemes past) (E:=sA l law schemes past) (akM l law schemes past) (Vr l law schemes past) (bT h (al6 l law schemes past K))))))
def Uf (l:(List ae)) (law:(List aZ)) (schemes:(List ax)) (before:Int):St:=PV l law schemes before ()
def s8 (l:(List ae)) (law:(List aZ)) (schemes:(List ax)) (before:Int):PT _ (rE M4) (dK tP 128 lX 8 iK):=.lf (vU l law schemes (ab.mk 0 before)) .normal _<|hh fun _ h=>l0 (ajW h)
theorem ac5 {l law schemes before}:Ax tP 128 lX 5 iK (s8 l law schemes before) (Uf l law schemes before):=.tD mixed [] [0,1,12,13,61,62,63,104,105,106] 3
def akN (l:(List ae)) (law:(List aZ)) (schemes:(List ax)) (before:Int):St:=⟨[sv 0 (bk l),sv 1 (dM law),sv 2 (eV schemes),sv 3 (i64 before),sv 28 (eV schemes),sv 29 (i64 (schemes.length:Int)),sv 30 (i64 0)],[],0⟩
abbrev rB (l:(List ae)) (law:(List aZ)) (schemes:(List ax)) (before:Int) (r:((Unit) ⊕ (Unit))):Option (((List ao) × Int)):=match r with | (.inl ())=>(some (([]:List ao),1)) | (.inr ())=>((s8 l law schemes before).opt)
def m5 (l:(List ae)) (law:(List aZ)) (schemes:(List ax)) (before:Int):Option (((List ao) × Int)):=(fixL (kt l law schemes before) 0).bind (rB l law schemes before)
theorem aex:List.drop 4 lX = .block 0 (.loop (ah (ah (aQ lX 4)))) :: List.drop 5 lX:=by kernel_rfl
theorem akK (l law schemes before K):∀ r,W (rB l law schemes before r) (rE M4 K)→Hj l law schemes before r (wK (bj 0 (aH (ar tP 128 (List.drop 5 lX) K) K)))
  | (.inl ()),h=>⟨(M4 (([]:List ao),1)),(.trans (.nilrow 8 0 76 4 (aV dJ cG []) (Nat.le_of_ble_eq_true rfl) rfl) (.cn [8,9])),h⟩
  | (.inr ()),h=>⟨(Uf l law schemes before),(.refl _),(ac5 h)⟩
theorem aeM {l law schemes before K} (h:W (m5 l law schemes before) (rE M4 K)):ar tP 128 (List.drop 4 lX) K (akN l law schemes before) :=
  ar.at_ aex (ar.cons_loop (aC.weak (aC.ent (.refl _) (aC.loopF (x:=ah (ah (aQ lX 4))) (f:=kt l law schemes before) (emb:=He l law schemes before) (E:=Hj l law schemes before) (ajT l law schemes before) (Wp l law schemes before) (bT h (akK l law schemes before K))))))
def ajS (l:(List ae)) (law:(List aZ)) (schemes:(List ax)) (before:Int):St:=PV l law schemes before ()
def jU (l:(List ae)) (law:(List aZ)) (schemes:(List ax)) (before:Int):PT _ (rE M4) (dK tP 128 lX 4 iK):=.bf (bif (decide (before < 0)) then true else (decide (73049 < before))) (.lf (some (([]:List ao),1)) .ret (⟨[sv 0 (bk l),sv 1 (dM law),sv 2 (eV schemes),sv 3 (i64 before),sv 8 (.c .nil),sv 9 (i64 1)],[],0⟩)<|hh fun _=>lg (.trans (.nilrow 8 0 76 4 (aV dJ cG []) (Nat.le_of_ble_eq_true rfl) rfl) (.cn [8,9]))) (.lf (m5 l law schemes before) .normal _<|hh fun _ h=>lz (aeM h) [0,1,2,3,28,29,30] [] [sv 8 (.c .nil),sv 9 (i64 0)])
theorem afX {l law schemes before}:Ax tP 128 lX 0 iK (jU l law schemes before) (ajS l law schemes before):=.tD mixed [] [0,1,2,3,8,9,28,29,30,39,40,41,44,45,46,47,48,49,50,51,52,53,54,55,56,104,105,106] 4
def ki (l:(List ae)) (law:(List aZ)) (schemes:(List ax)) (before:Int):Option (((List ao) × Int)):=(jU l law schemes before).opt
def wX:bU:=Qm ii MX WO (aI .i64) ki (([]:List ao),(0:Int)) Fm
theorem G7:bc tP 7 wX:=OS Tryz.f7 (an Tryz.f7) [.tmp 8, .tmp 9] 128 fun u0 u1 u2 u3 y h=>@afX u0 u1 u2 u3 _ (bn.2 ⟨y,h,(cz (.tup [(.row 0 4 0 y.1.length),(i64 y.2)]) (⟨VLe.tup (VLes.cons (VLe.sl (ac.ls0 dJ cG y.1)) (VLes.cons (VLe.rfl' _) (VLes.nil))),⟨⟨_,_,_,rfl,fun i hi d hd=>yc _ d hd⟩,rfl,trivial⟩⟩))⟩)
abbrev e7:FE tP:=⟨7, .pure wX,G7⟩
noncomputable def an2:List Code:=aA (an Tryz.f9)
def K4 (x_1:Bool):bK:=.data (bl x_1)
def z9R (x_1:Bool):St:=⟨[sv 0 (bl x_1)],[],0⟩
def amH:St:=⟨[],[],0⟩
def Bi:PT _ (rE z9R) iK:=.tv (aJ aR dF 14 14 1 (fun i=>(dq 14 (aR (ae.mk 0 1 1 false 1 8 2 (ab.mk 100 130) 0 0 0 0 0))) (0+i))) (ac.ok cf (ac.zero (ac.l1 (enc:=aR) (z:=aU) 14 (ae.mk 0 1 1 false 1 8 2 (ab.mk 100 130) 0 0 0 0 0) rfl)))<|.tv (aJ ju oF 4 0 0 (fun _=>[])) (ac.okN ig (ac.nil ju gg _))<|.tv (aJ gv qO 9 9 1 (fun i=>(fun i=>(List.take 9 (List.drop (i*9) [(di 2),(di 0),(di 0),(di 0),(.sl 2 1 (fun i=>(dq 2 (cO (ap.mk 8 10))) (0+i))), .nil, .nil, .nil, .nil]))) (0+i))) (ac.ok kV (ac.zero (ac.lits (enc:=gv) (el:=(fun i=>(List.take 9 (List.drop (i*9) [(di 2),(di 0),(di 0),(di 0),(.sl 2 1 (fun i=>(dq 2 (cO (ap.mk 8 10))) (0+i))), .nil, .nil, .nil, .nil])))) (z:=cU) (l:=([(ax.mk 2 (az.mk 0 (bt.mk 0 0) ([(ap.mk 8 10)]:List ap) ([]:List aY) ([]:List bL) ([]:List bC) ([]:List cS)))]:List ax)) ⟨(be.cons (.refl _) (be.cons (.refl _) (be.cons (.refl _) (be.cons (.refl _) (be.cons (eN.ls (fun _=>rfl) (ac.zero (ac.l1 (enc:=cO) (z:=cX) 2 (ap.mk 8 10) rfl))) (be.cons (eN.nils fb eh 3) (be.cons (eN.nils jp fQ 7) (be.cons (eN.nils eE dj 13) (be.cons (eN.nils eI ij 7) be.nil))))))))),trivial⟩)))<|.ls (a:=lst dF 1 (fun i=>(dq 14 (aR (ae.mk 0 1 1 false 1 8 2 (ab.mk 100 130) 0 0 0 0 0))) (0+i))) (lr cf (ac.zero (ac.l1 (enc:=aR) (z:=aU) 14 (ae.mk 0 1 1 false 1 8 2 (ab.mk 100 130) 0 0 0 0 0) rfl))) fun L1_=>.ls (a:=lst oF 0 (fun _=>[])) (lr ig (ac.nil ju gg _)) fun L2_=>.ls (a:=lst qO 1 (fun i=>(fun i=>(List.take 9 (List.drop (i*9) [(di 2),(di 0),(di 0),(di 0),(.sl 2 1 (fun i=>(dq 2 (cO (ap.mk 8 10))) (0+i))), .nil, .nil, .nil, .nil]))) (0+i))) (lr kV (ac.zero (ac.lits (enc:=gv) (el:=(fun i=>(List.take 9 (List.drop (i*9) [(di 2),(di 0),(di 0),(di 0),(.sl 2 1 (fun i=>(dq 2 (cO (ap.mk 8 10))) (0+i))), .nil, .nil, .nil, .nil])))) (z:=cU) (l:=([(ax.mk 2 (az.mk 0 (bt.mk 0 0) ([(ap.mk 8 10)]:List ap) ([]:List aY) ([]:List bL) ([]:List bC) ([]:List cS)))]:List ax)) ⟨(be.cons (.refl _) (be.cons (.refl _) (be.cons (.refl _) (be.cons (.refl _) (be.cons (eN.ls (fun _=>rfl) (ac.zero (ac.l1 (enc:=cO) (z:=cX) 2 (ap.mk 8 10) rfl))) (be.cons (eN.nils fb eh 3) (be.cons (eN.nils jp fQ 7) (be.cons (eN.nils eE dj 13) (be.cons (eN.nils eI ij 7) be.nil))))))))),trivial⟩))) fun L3_=>.bd (ki L1_ L2_ L3_ 1000) ([],0) fun r_2=>.g1 (((bif (r_2.2 == 0) then ((r_2.1.length:Int) == 1) else false)&&true) = true→0≤(0:Int))<|.g1 (((bif (r_2.2 == 0) then ((r_2.1.length:Int) == 1) else false)&&true) = true→(0:Int) < (r_2.1.length:Int))<|.lf (some (bif (bif (r_2.2 == 0) then ((r_2.1.length:Int) == 1) else false) then (((r_2.1.getD 0 cG).State == 2)&&(((r_2.1.getD 0 cG).Rank == 5)&&(((((r_2.1.getD 0 cG).Span).From == 100)&&((((r_2.1.getD 0 cG).Span).To == 110)&&true))&&true))) else false)) .ret _<|hh fun _=>l0
theorem ajp:Ax tP 34 an2 0 iK Bi amH:=.tE mixed [e7] [0] 6
def At:Option (Bool):=Bi.opt
def EQ:bU:=Qk At false K4
theorem LK:bc tP 9 EQ:=Po Tryz.f9 (an Tryz.f9) [.tmp 0] 34 fun y h=>@ajp _ (bn.2 ⟨y,h,(cz (bl y) (VLe.rfl' _))⟩)
abbrev e9:FE tP:=⟨9, .pure EQ,LK⟩
noncomputable def ano:List Code:=aA (an Tryz.f13)
def LE (x_1:Int):bK:=.data (i64 x_1)
def anP (x_1:Int):St:=⟨[sv 2 (i64 x_1)],[],0⟩
def aiX (kind:Int):St:=⟨[sv 0 (i64 kind)],[],0⟩
def Fc (kind:Int):PT _ (rE anP) iK:=.bf (kind == 6) (.lf (some 2) .ret _<|hh fun _=>l0) (.bf (kind == 9) (.lf (some 3) .ret _<|hh fun _=>l0) (.bf (kind == 7) (.lf (some 4) .ret _<|hh fun _=>l0) (.bf (kind == 8) (.lf (some 5) .ret _<|hh fun _=>l0) (.bf (kind == 10) (.lf (some 6) .ret _<|hh fun _=>l0) (.bf (kind == 5) (.lf (some 7) .ret _<|hh fun _=>l0) (.lf (some 0) .ret _<|hh fun _=>l0))))))
theorem Z6 {kind}:Ax tP 16 ano 0 iK (Fc kind) (aiX kind):=.tE mixed [] [2] 5
def iz (kind:Int):Option (Int):=(Fc kind).opt
def F0:bU:=dI (aI .i64) iz (0:Int) LE
theorem Nh:bc tP 13 F0:=cD Tryz.f13 (an Tryz.f13) [.tmp 2] 16 fun u0 y h=>@Z6 u0 _ (bn.2 ⟨y,h,(cz (i64 y) (VLe.rfl' _))⟩)
abbrev EG:FE tP:=⟨13, .pure F0,Nh⟩
noncomputable def am1:List Code:=aA (an Tryz.f90)
def IM (x_1:(ab × Bool)):bK:=.data (.tup [(.agg [(i64 x_1.1.From),(i64 x_1.1.To)]),(bl x_1.2)])
def aoo (x_1:(ab × Bool)):St:=⟨[sv 2 (.ptr 0 2 0 0),sv 3 (bl x_1.2)],[(0,some (.box [(i64 x_1.1.From),(i64 x_1.1.To)]))],1⟩
def ahB (s_1:ab):St:=⟨[sv 0 (.ag (aO s_1))],[],0⟩
def zQ (s_1:ab):PT _ (rE aoo) iK:=.lf (some ((ab.mk (if s_1.From < 0 then (0:Int) else s_1.From) (if (73049:Int) < s_1.To then (73049:Int) else s_1.To)),(decide ((if s_1.From < 0 then (0:Int) else s_1.From) < (if (73049:Int) < s_1.To then (73049:Int) else s_1.To))))) .ret _<|hh fun _=>l0
theorem aeC {s_1}:Ax tP 17 am1 0 iK (zQ s_1) (ahB s_1):=.tE mixed [] [2,3] 4
def FO (s_1:ab):Option ((ab × Bool)):=(zQ s_1).opt
def Bh:bU:=dI yB FO (aq,false) IM
theorem Ku:bc tP 90 Bh:=cD Tryz.f90 (an Tryz.f90) [.cell 2 59, .tmp 3] 17 fun u0 y h=>@aeC u0 _ (bn.2 ⟨y,h,(cz (.tup [(.agg [(i64 y.1.From),(i64 y.1.To)]),(bl y.2)]) (VLe.tup (VLes.cons (VLe.rfl' _) (VLes.cons (VLe.rfl' _) (VLes.nil)))))⟩)
abbrev e90:FE tP:=⟨90, .pure Bh,Ku⟩
noncomputable def uI:List Code:=aA (an Tryz.f46)
noncomputable def Zy:List Code:=aA (ah (ah (aQ uI 2)))
def Lu (x_1:(List Int)):St:=⟨[sv 4 (.row 0 1 0 x_1.length)],[(ik 0 3 x_1)],1⟩
theorem aj1 (x_1:(List Int)) {H:am} {nid:Nat} {ps:List Prop} {o:Nat}:eo tP [.tmp 4] (fun σ v=>∃ m,Left [o] nid H false { pre:=ps,val:=.row o 1 0 x_1.length,eff:=[(o,some (.row 3 1 x_1.length (aV aP (0:Int) x_1)))],kill:=[o] } m σ v) .ret (Lu x_1) :=
  eo.intro (v:=(.row 0 1 0 x_1.length)) (by kernel_rfl) ⟨_,OL (q:=0) rfl (fun _ _=>rfl) (.inr fun i hi d hd=>DT _ d hd)⟩
theorem ab6 (x_1:(List Int)) {H:am} {nid:Nat} {ps:List Prop}:eo tP [.tmp 4] (fun σ v=>∃ m,Left [] nid H false { pre:=ps,val:=.row nid 1 0 x_1.length,eff:=[(nid,some (.row 3 1 x_1.length (aV aP (0:Int) x_1)))],kill:=[] } m σ v) .ret (Lu x_1) :=
  eo.intro (v:=(.row 0 1 0 x_1.length)) (by kernel_rfl) ⟨_,PR (q:=0) rfl (fun _ _=>rfl) (.inr fun i hi d hd=>DT _ d hd)⟩
def FN (l:(List Int)) (n:Int) (s:(Int)):St:=match s with | at_1=>⟨[sv 0 (.row 0 1 0 l.length),sv 1 (i64 n),sv 5 (i64 at_1)],[(ik 0 3 l)],1⟩
def afV (l:(List Int)) (n:Int) (s:Int):St:=match s with | at_2=>⟨[sv 0 (.row 0 1 0 l.length),sv 1 (i64 n),sv 5 (i64 at_2)],[(ik 0 3 l)],1⟩
def Bd (l:(List Int)) (n:Int) (r:((Int))) (K:KT):Prop:=match r with | s=>K (.exit 0) (afV l n s)
def agX (l:(List Int)) (n at_1:Int):St:=FN l n at_1
def jt (l:(List Int)) (n at_1:Int):PT _ (nE (FN l n) (Bd l n)) iK:=.g1 (((decide (0 < at_1))&&true) = true→0≤(ai (at_1 - 1)))<|.g1 (((decide (0 < at_1))&&true) = true→(ai (at_1 - 1)) < (l.length:Int))<|.bf (bif (decide (0 < at_1)) then (decide (n≤(l.getD (0+(Int.toNat (ai (at_1 - 1)))) (0:Int)))) else false) (.lf (some (Sum.inl (ai (at_1 - 1)))) .normal _<|hh fun _=>lx [0,1,5] [11,12,13,14,15,16,17] []) (.lf (some (Sum.inr at_1)) (.exit 0) _<|hh fun _=>lx [0,1,5] [11,12,13,14,15,16,17] [])
theorem ada {l n at_1}:Ax tP 45 Zy 0 iK (jt l n at_1) (agX l n at_1):=.tE mixed [] [0,1,5,11,12,13,14,15,16,17,26,27,28,29,30,31] 3
def pS (l:(List Int)) (n:Int) (s:(Int)):Option ((Int) ⊕ ((Int))):=match s with | at_1=>(jt l n at_1).opt
theorem aax (l n s):Pp tP 45 (List.drop 0 Zy) (FN l n s) (pS l n s) (cl (FN l n) (Bd l n)):=fun K h=>match s,h with | at_1,h=>(ada h)
theorem TN (l n):∀ r J K,Bd l n r K→Bd l n r (aH J K)
  | s,_,_,h=>h
def Vk (l:(List Int)) (n at_3:Int):St:=⟨[sv 0 (.row 0 1 0 l.length),sv 1 (i64 n),sv 5 (i64 at_3)],[(ik 0 3 l)],1⟩
def mY (l:(List Int)) (n at_3:Int):PT _ (rE Lu) iK:=.g1 (((decide (at_3 < (l.length:Int)))&&true) = true→0≤at_3)<|.g1 (((decide (at_3 < (l.length:Int)))&&true) = true→at_3 < (l.length:Int))<|.bf (bif (decide (at_3 < (l.length:Int))) then ((l.getD (0+(Int.toNat at_3)) (0:Int)) == n) else false) (.lf (some l) .ret _<|hh fun _=>l0) (.g3 (0≤(0:Int)) ((0:Int)≤at_3) (at_3≤(l.length:Int))<|.gc (Int.toNat (at_3 - 0)) 8<|.tv ((Int.toNat (at_3 - 0)) = (Int.toNat (at_3 - 0))) rfl<|.gc ((Int.toNat (at_3 - 0))+1) 8<|.g3 (0≤at_3) (at_3≤(l.length:Int)) ((l.length:Int)≤(l.length:Int))<|.tv (((Int.toNat (at_3 - 0))+1) = ((Int.toNat (at_3 - 0))+1)) rfl<|.gc (((Int.toNat (at_3 - 0))+1)+(Int.toNat ((l.length:Int) - at_3))) 8<|.lf (some (((m4 (0:Int) l 0 (Int.toNat (at_3 - 0)))++([n]:List Int))++(m4 (0:Int) l (0+(Int.toNat at_3)) (Int.toNat ((l.length:Int) - at_3))))) .ret (⟨[sv 4 (.row 0 1 0 (((Int.toNat (at_3 - 0))+1)+(Int.toNat ((l.length:Int) - at_3))))],[(0,some (.row 3 1 (((Int.toNat (at_3 - 0))+1)+(Int.toNat ((l.length:Int) - at_3))) (fun i=>bif Nat.blt i ((Int.toNat (at_3 - 0))+1) then (fun i=>bif Nat.blt i (Int.toNat (at_3 - 0)) then (fun i=>(bF l) (0+i)) i else (fun i=>(bF ([n]:List Int)) (0+i)) (i - (Int.toNat (at_3 - 0)))) i else (fun i=>(bF l) ((0+(Int.toNat at_3))+i)) (i - ((Int.toNat (at_3 - 0))+1)))))],1⟩)<|hh fun _=>lg (.of (.cons rfl (.rown (bY (bY Dr rfl) Dr)) .nil) (.row rfl (ac.app (ac.app (ac.sub aP (0:Int) l 0 (Int.toNat (at_3 - 0))) (ac.zero (ac.ls aP (0:Int) ([n]:List Int)))) (ac.sub aP (0:Int) l (0+(Int.toNat at_3)) (Int.toNat ((l.length:Int) - at_3)))) .nil rfl) rfl))
theorem ac8 {l n at_3}:Ax tP 45 uI 3 iK (mY l n at_3) (Vk l n at_3):=.tE mixed [] [4] 4
def ahi (l:(List Int)) (n:Int):St:=⟨[sv 0 (.row 0 1 0 l.length),sv 1 (i64 n),sv 5 (i64 (l.length:Int))],[(ik 0 3 l)],1⟩
abbrev EE (l:(List Int)) (n:Int) (r:((Int))):Option ((List Int)):=match r with | at_2=>((mY l n at_2).opt)
def HS (l:(List Int)) (n:Int):Option ((List Int)):=(fixL (pS l n) (l.length:Int)).bind (EE l n)
theorem ae9:List.drop 2 uI = .block 0 (.loop (ah (ah (aQ uI 2)))) :: List.drop 3 uI:=by kernel_rfl
theorem ajb (l n K):∀ r,W (EE l n r) (rE Lu K)→Bd l n r (wK (bj 0 (aH (ar tP 45 (List.drop 3 uI) K) K)))
  | at_2,h=>⟨(Vk l n at_2),(.refl _),(ac8 h)⟩
theorem afI {l n K} (h:W (HS l n) (rE Lu K)):ar tP 45 (List.drop 2 uI) K (ahi l n) :=
  ar.at_ ae9 (ar.cons_loop (aC.weak (aC.ent (.refl _) (aC.loopF (x:=ah (ah (aQ uI 2))) (f:=pS l n) (emb:=FN l n) (E:=Bd l n) (aax l n) (TN l n) (bT h (ajb l n K))))))
def aij (l:(List Int)) (n:Int):St:=⟨[sv 0 (.row 0 1 0 l.length),sv 1 (i64 n)],[(ik 0 3 l)],1⟩
def Iy (l:(List Int)) (n:Int):PT _ (rE Lu) (dK tP 45 uI 2 iK):=.lf (HS l n) .normal _<|hh fun _ h=>l0 (afI h)
theorem RY {l n}:Ax tP 45 uI 0 iK (Iy l n) (aij l n):=.tD mixed [] [0,1,5,11,12,13,14,15,16,17,26,27,28,29,30,31] 2
def fU (l:(List Int)) (n:Int):Option ((List Int)):=(Iy l n).opt
def Dm:am→Nat→List V→Option cM:=fun H nid args=>match oJ H [true,false] args with
  | [(.row o_ k_ f_ n_),(.c (.lit (.int .i64 a1)))]=>(match am.get H o_ with
    | some (.row t_ k2_ m_ e_)=>bif Nat.beq t_ 3&&Nat.beq k2_ 1&&Nat.beq k_ 1&&Nat.beq f_ 0&&dY [o_] H false [true,false] args then some { pre:=[n_ = m_,aJ aP bh 1 1 m_ e_,(fU (lst bh m_ e_) a1).isSome = true],val:=.row o_ 1 0 ((fU (lst bh m_ e_) a1).getD ([]:List Int)).length,eff:=[(o_,some (.row 3 1 ((fU (lst bh m_ e_) a1).getD ([]:List Int)).length (aV aP (0:Int) ((fU (lst bh m_ e_) a1).getD ([]:List Int)))))],kill:=[o_] } else none
    | _=>none)
  | [(.c .nil),(.c (.lit (.int .i64 a1)))]=>bif dY [] H false [true,false] args then some { pre:=[(fU ([]:List Int) a1).isSome = true],val:=.row nid 1 0 ((fU ([]:List Int) a1).getD ([]:List Int)).length,eff:=[(nid,some (.row 3 1 ((fU ([]:List Int) a1).getD ([]:List Int)).length (aV aP (0:Int) ((fU ([]:List Int) a1).getD ([]:List Int)))))],kill:=[] } else none
  | _=>none
theorem QK:bR tP 46 (.mut Dm):=by
  refine MD (fn:=Tryz.f46) (c:=an Tryz.f46) (by kernel_rfl) (by kernel_rfl) (by kernel_rfl) (rs:=[.tmp 4]) (by kernel_rfl) (nt:=45) (by kernel_rfl) fun H nid args r h hp=>?_
  unfold Dm at h
  split at h
  · next o_ k_ f_ n_ a1 hv =>
    split at h
    · next t_ k2_ m_ e_ hg =>
      cases hb:(Nat.beq t_ 3&&Nat.beq k2_ 1&&Nat.beq k_ 1&&Nat.beq f_ 0&&dY [o_] H false [true,false] args) with
      | false=>rw [hb] at h; cases h
      | true =>
        rw [hb] at h
        simp only [Bool.and_eq_true,Nat.beq_eq] at hb
        obtain ⟨⟨⟨⟨rfl,rfl⟩,rfl⟩,rfl⟩,hk⟩:=hb
        cases h
        obtain ⟨hn,hp⟩:=ce hp
        obtain ⟨gr,hp⟩:=ce hp
        obtain ⟨g,hp⟩:=ce hp
        obtain ⟨x,hx⟩:=Option.isSome_iff_exists.1 g
        rw [hx]
        subst hn
        exact .inl ⟨false,[true,false],o_,3,1,_,e_,[.row 0 1 0 (lst bh _ e_).length,(i64 a1)],hg,hk,by rw [hv]; simp only [pB,cond_true,cond_false,OX]; exact (VLes.cons (VLe.rown (ac.of_ok (z:=(0:Int)) gr).len) (VLes.cons (VLe.rfl' _) VLes.nil)),rfl,ar.ent (dv.of (bM.cons rfl (VLe.rfl' _) (bM.cons rfl (VLe.rfl' _) bM.nil)) (cC.row rfl (ac.of_ok gr) cC.nil rfl) rfl) (@RY (lst bh _ e_) a1 _ (bn.2 ⟨x,hx,aj1 x⟩))⟩
    · cases h
  · next a1 hv =>
    cases hb:dY [] H false [true,false] args with
      | false=>rw [hb] at h; cases h
      | true =>
        rw [hb] at h
        cases h
        obtain ⟨g,hp⟩:=ce hp
        obtain ⟨x,hx⟩:=Option.isSome_iff_exists.1 g
        rw [hx]
        exact .inr ⟨false,[true,false],[.c .nil,(i64 a1)],hb,by rw [hv]; simp only [pB,cond_true,cond_false]; exact (VLes.cons (VLe.rfl' _) (VLes.cons (VLe.rfl' _) VLes.nil)),rfl,ar.ent (dv.trans (dv.nilrow 0 0 3 1 (aV aP (0:Int) []) (Nat.le_refl _) rfl) (dv.of (bM.cons rfl (VLe.rown rfl) (bM.cons rfl (VLe.rfl' _) bM.nil)) (cC.row rfl (ac.ls aP (0:Int) []) cC.nil rfl) rfl)) (@RY ([]:List Int) a1 _ (bn.2 ⟨x,hx,ab6 x⟩))⟩
  · cases h
abbrev e46:FE tP:=⟨46, .mut Dm,QK⟩
noncomputable def ux:List Code:=aA (an Tryz.f67)
noncomputable def nu:List Code:=aA (ah (ah (aQ ux 3)))
noncomputable def uG:List Code:=aA (ah (aQ nu 2))
noncomputable def ZW:List Code:=aA (ah (ah (aQ uG 1)))
def LI (x_1:(List Int)):bK:=.own true 3 1 (x_1).length (aV aP (0:Int) x_1)
def Tw (x_1:(List Int)):St:=⟨[sv 2 (.row 0 1 0 x_1.length)],[(ik 0 3 x_1)],1⟩
def oo (lists:(List (List ab))) (s:((List Int) × Int)):St:=match s with | (out_4,i_1)=>⟨[sv 0 (mA lists),sv 3 (.row 0 1 0 out_4.length),sv 4 (i64 i_1)],[(ik 0 3 out_4)],1⟩
def acP (lists:(List (List ab))) (s:(List Int)):St:=match s with | out_6=>⟨[sv 3 (.row 0 1 0 out_6.length)],[(ik 0 3 out_6)],1⟩
def ox (lists:(List (List ab))) (r:(((List Int)))) (K:KT):Prop:=match r with | s=>K (.exit 0) (acP lists s)
def Bv (lists:(List (List ab))) (out_9:(List Int)) (i_4:Int) (s:((List Int) × Int × Int)):St:=match s with | (out_1,i_5,k)=>⟨[sv 0 (mA lists),sv 3 (.row 0 1 0 out_1.length),sv 4 (i64 i_5),sv 5 (i64 k)],[(ik 0 3 out_1)],1⟩
def aeP (lists:(List (List ab))) (out_9:(List Int)) (i_4:Int) (s:(List Int) × Int):St:=match s with | (out_2,i_6)=>⟨[sv 0 (mA lists),sv 3 (.row 0 1 0 out_2.length),sv 4 (i64 i_6)],[(ik 0 3 out_2)],1⟩
def C4 (lists:(List (List ab))) (out_9:(List Int)) (i_4:Int) (r:(((List Int) × Int))) (K:KT):Prop:=match r with | s=>K (.exit 2) (aeP lists out_9 i_4 s)
def aik (lists:(List (List ab))) (out_1:(List Int)) (i_5 k:Int):St:=Bv lists ([]:List Int) (0:Int) (out_1,i_5,k)
def gK (lists:(List (List ab))) (out_1:(List Int)) (i_5 k:Int):PT _ (nE (Bv lists ([]:List Int) (0:Int)) (C4 lists ([]:List Int) (0:Int))) iK:=.g2 (0≤i_5) (i_5 < (lists.length:Int))<|.bf (decide (k < (((lists.getD (Int.toNat i_5) ([]:List ab))).length:Int))) (.g2 (0≤i_5) (i_5 < (lists.length:Int))<|.g2 (0≤k) (k < (((lists.getD (Int.toNat i_5) ([]:List ab))).length:Int))<|.bd (FO ((lists.getD (Int.toNat i_5) ([]:List ab)).getD (Int.toNat k) aq)) (aq,false) fun r_4=>.bf r_4.2 (.tv (out_1.length = out_1.length) (rfl)<|.lk bw out_1 fun L1_=>.bd (fU L1_ r_4.1.From) [] fun r_5=>.tv (r_5.length = r_5.length) (rfl)<|.lk bw r_5 fun L2_=>.bd (fU L2_ r_4.1.To) [] fun r_6=>.lf (some (Sum.inl (r_6,i_5,(ai (k+1))))) .normal _<|hh fun _=>l0) (.lf (some (Sum.inl (out_1,i_5,(ai (k+1))))) .normal _<|hh fun _=>l0)) (.lf (some (Sum.inr (out_1,i_5))) (.exit 2) (Bv lists ([]:List Int) (0:Int) (out_1,i_5,k))<|hh fun _=>lg (.cn [0,3,4]))
theorem aah {lists out_1 i_5 k}:Ax tP 43 ZW 0 iK (gK lists out_1 i_5 k) (aik lists out_1 i_5 k):=.tE mixed [e46,e90] [0,3,4,5] 4
def mF (lists:(List (List ab))) (out_9:(List Int)) (i_4:Int) (s:((List Int) × Int × Int)):Option (((List Int) × Int × Int) ⊕ (((List Int) × Int))):=match s with | (out_1,i_5,k)=>(gK lists out_1 i_5 k).opt
theorem aeq (lists out_9 i_4 s):Pp tP 43 (List.drop 0 ZW) (Bv lists out_9 i_4 s) (mF lists out_9 i_4 s) (cl (Bv lists out_9 i_4) (C4 lists out_9 i_4)):=fun K h=>match s,h with | (out_1,i_5,k),h=>(aah h)
theorem TJ (lists out_9 i_4):∀ r J K,C4 lists out_9 i_4 r K→C4 lists out_9 i_4 r (aH J K)
  | s,_,_,h=>h
def Uq (lists:(List (List ab))) (out_3:(List Int)) (i_7:Int):St:=⟨[sv 0 (mA lists),sv 3 (.row 0 1 0 out_3.length),sv 4 (i64 i_7)],[(ik 0 3 out_3)],1⟩
def E5 (lists:(List (List ab))) (out_3:(List Int)) (i_7:Int):PT _ (nE (oo lists) (ox lists)) iK:=.lf (some (Sum.inl (out_3,(ai (i_7+1))))) .normal _<|hh fun _=>l0
theorem acq {lists out_3 i_7}:Ax tP 43 nu 3 iK (E5 lists out_3 i_7) (Uq lists out_3 i_7):=.tE mixed [] [0,3,4] 1
def ai7 (lists:(List (List ab))) (out_9:(List Int)) (i_4:Int):St:=⟨[sv 0 (mA lists),sv 3 (.row 0 1 0 out_9.length),sv 4 (i64 i_4),sv 5 (i64 0)],[(ik 0 3 out_9)],1⟩
abbrev zE (lists:(List (List ab))) (out_9:(List Int)) (i_4:Int) (r:(((List Int) × Int))):Option (((List Int) × Int) ⊕ (((List Int)))):=match r with | (out_2,i_6)=>((E5 lists out_2 i_6).opt)
def ES (lists:(List (List ab))) (out_9:(List Int)) (i_4:Int):Option (((List Int) × Int) ⊕ (((List Int)))):=(fixL (mF lists out_9 i_4) (out_9,i_4,0)).bind (zE lists out_9 i_4)
theorem acG:List.drop 1 uG = .block 2 (.loop (ah (ah (aQ uG 1)))) :: List.drop 2 uG:=by kernel_rfl
theorem ahf (lists out_9 i_4 K):∀ r,W (zE lists out_9 i_4 r) (nE (oo lists) (ox lists) K)→C4 lists out_9 i_4 r (wK (bj 2 (aH (ar tP 43 (List.drop 2 uG) (bj 1 (aH (ar tP 43 (List.drop 3 nu) K) K))) (bj 1 (aH (ar tP 43 (List.drop 3 nu) K) K)))))
  | (out_2,i_6),h=>⟨(Uq lists out_2 i_6),(.refl _),(ar.end_ (by kernel_rfl:List.drop 2 uG = []) (acq h))⟩
theorem af3 {lists out_9 i_4 K} (h:W (ES lists out_9 i_4) (nE (oo lists) (ox lists) K)):ar tP 43 (List.drop 1 uG) (bj 1 (aH (ar tP 43 (List.drop 3 nu) K) K)) (ai7 lists out_9 i_4) :=
  ar.at_ acG (ar.cons_loop (aC.weak (aC.ent (.refl _) (aC.loopF (x:=ah (ah (aQ uG 1))) (f:=mF lists out_9 i_4) (emb:=Bv lists out_9 i_4) (E:=C4 lists out_9 i_4) (aeq lists out_9 i_4) (TJ lists out_9 i_4) (bT h (ahf lists out_9 i_4 K))))))
def akb (lists:(List (List ab))) (out_7:(List Int)) (i_3:Int):St:=⟨[sv 0 (mA lists),sv 3 (.row 0 1 0 out_7.length),sv 4 (i64 i_3)],[(ik 0 3 out_7)],1⟩
def EX (lists:(List (List ab))) (out_7:(List Int)) (i_3:Int):PT _ (nE (oo lists) (ox lists)) (dK tP 43 uG 1 (fun K=>(bj 1 (aH (ar tP 43 (List.drop 3 nu) K) K)))):=.lf (ES lists out_7 i_3) .normal _<|hh fun _ h=>l0 (af3 h)
theorem abt {lists out_7 i_3}:Ax tP 43 uG 0 (fun K=>(bj 1 (aH (ar tP 43 (List.drop 3 nu) K) K))) (EX lists out_7 i_3) (akb lists out_7 i_3):=.tD mixed [] [0,3,4,5] 1
def air (lists:(List (List ab))) (out_5:(List Int)) (i_2:Int):St:=⟨[sv 0 (mA lists),sv 3 (.row 0 1 0 out_5.length),sv 4 (i64 i_2)],[(ik 0 3 out_5)],1⟩
def Em (lists:(List (List ab))) (out_5:(List Int)) (i_2:Int):Option (((List Int) × Int) ⊕ (((List Int)))):=((EX lists out_5 i_2).opt)
theorem Z3:List.drop 2 nu = .block 1 (ah (aQ nu 2)) :: List.drop 3 nu:=by kernel_rfl
theorem acF {lists out_5 i_2 K} (h:W (Em lists out_5 i_2) (nE (oo lists) (ox lists) K)):ar tP 43 (List.drop 2 nu) K (air lists out_5 i_2) :=
  ar.at_ Z3 (ar.cons_block (ar.en (abt h) (.refl _)))
def aly (lists:(List (List ab))) (out_4:(List Int)) (i_1:Int):St:=oo lists (out_4,i_1)
def qm (lists:(List (List ab))) (out_4:(List Int)) (i_1:Int):PT _ (nE (oo lists) (ox lists)) (dK tP 43 nu 2 iK):=.bf (decide (i_1 < (lists.length:Int))) (.lf (Em lists out_4 i_1) .normal _<|hh fun _ h=>l0 (acF h)) (.lf (some (Sum.inr out_4)) (.exit 0) (oo lists (out_4,i_1))<|hh fun _=>lg (.cn [3]))
theorem acx {lists out_4 i_1}:Ax tP 43 nu 0 iK (qm lists out_4 i_1) (aly lists out_4 i_1):=.tD mixed [] [0,3,4] 2
def fT (lists:(List (List ab))) (s:((List Int) × Int)):Option (((List Int) × Int) ⊕ (((List Int)))):=match s with | (out_4,i_1)=>(qm lists out_4 i_1).opt
theorem afP (lists s):Pp tP 43 (List.drop 0 nu) (oo lists s) (fT lists s) (cl (oo lists) (ox lists)):=fun K h=>match s,h with | (out_4,i_1),h=>(acx h)
theorem Tl (lists):∀ r J K,ox lists r K→ox lists r (aH J K)
  | s,_,_,h=>h
def V0 (out_8:(List Int)):St:=⟨[sv 3 (.row 0 1 0 out_8.length)],[(ik 0 3 out_8)],1⟩
def Fb (out_8:(List Int)):PT _ (rE Tw) iK:=.lf (some out_8) .ret _<|hh fun _=>l0
theorem acB {out_8}:Ax tP 43 ux 4 iK (Fb out_8) (V0 out_8):=.tE mixed [] [2] 2
def al0 (lists:(List (List ab))):St:=⟨[sv 0 (mA lists),sv 3 (.c .nil),sv 4 (i64 0)],[],0⟩
abbrev zN (lists:(List (List ab))) (r:(((List Int)))):Option ((List Int)):=match r with | out_6=>((Fb out_6).opt)
def EP (lists:(List (List ab))):Option ((List Int)):=(fixL (fT lists) (([]:List Int),0)).bind (zN lists)
theorem afS:List.drop 3 ux = .block 0 (.loop (ah (ah (aQ ux 3)))) :: List.drop 4 ux:=by kernel_rfl
theorem ahZ (lists K):∀ r,W (zN lists r) (rE Tw K)→ox lists r (wK (bj 0 (aH (ar tP 43 (List.drop 4 ux) K) K)))
  | out_6,h=>⟨(V0 out_6),(.refl _),(acB h)⟩
theorem afM {lists K} (h:W (EP lists) (rE Tw K)):ar tP 43 (List.drop 3 ux) K (al0 lists) :=
  ar.at_ afS (ar.cons_loop (aC.weak (aC.ent (.trans (.nilrow 3 0 3 1 (aV aP (0:Int) []) (Nat.le_of_ble_eq_true rfl) rfl) (.cn [0,3,4])) (aC.loopF (x:=ah (ah (aQ ux 3))) (f:=fT lists) (emb:=oo lists) (E:=ox lists) (afP lists) (Tl lists) (bT h (ahZ lists K))))))
def aiq (lists:(List (List ab))):St:=⟨[sv 0 (mA lists)],[],0⟩
def Eo (lists:(List (List ab))):PT _ (rE Tw) (dK tP 43 ux 3 iK):=.lf (EP lists) .normal _<|hh fun _ h=>l0 (afM h)
theorem ad8 {lists}:Ax tP 43 ux 0 iK (Eo lists) (aiq lists):=.tD mixed [] [0,3,4] 3
def xB (lists:(List (List ab))):Option ((List Int)):=(Eo lists).opt
def GR:bU:=dI YN xB ([]:List Int) LI
theorem NP:bc tP 67 GR:=cD Tryz.f67 (an Tryz.f67) [.tmp 2] 43 fun u0 y h=>@ad8 u0 _ (bn.2 ⟨y,h,(cz (.row 0 1 0 y.length) (⟨_,_,_,rfl,rfl,rfl,fun _ _=>rfl,fun _ i hi d hd=>DT _ d hd⟩))⟩)
abbrev e67:FE tP:=⟨67, .pure GR,NP⟩
noncomputable def amj:List Code:=aA (an Tryz.f91)
def HC (x_1:Bool):bK:=.data (bl x_1)
def aow (x_1:Bool):St:=⟨[sv 2 (bl x_1)],[],0⟩
def aio (day:Int):St:=⟨[sv 0 (i64 day)],[],0⟩
def yr (day:Int):PT _ (rE aow) iK:=.lf (some (bif (decide (0≤day)) then (decide (day≤73048)) else false)) .ret _<|hh fun _=>l0
theorem afH {day}:Ax tP 9 amj 0 iK (yr day) (aio day):=.tE mixed [] [2] 3
def qh (day:Int):Option (Bool):=(yr day).opt
def Ah:bU:=dI (aI .i64) qh false HC
theorem I0:bc tP 91 Ah:=cD Tryz.f91 (an Tryz.f91) [.tmp 2] 9 fun u0 y h=>@afH u0 _ (bn.2 ⟨y,h,(cz (bl y) (VLe.rfl' _))⟩)
abbrev e91:FE tP:=⟨91, .pure Ah,I0⟩
noncomputable def u6:List Code:=aA (an Tryz.f68)
noncomputable def Zg:List Code:=aA (ah (ah (aQ u6 2)))
def HG (x_1:Bool):bK:=.data (bl x_1)
def OG (x_1:Bool):St:=⟨[sv 4 (bl x_1)],[],0⟩
def Cr (l:(List ab)) (day:Int) (s:(Int)):St:=match s with | i_1=>⟨[sv 0 (cF l),sv 1 (i64 day),sv 5 (i64 i_1)],[],0⟩
def afL (l:(List ab)) (day:Int) (s:Unit):St:=match s with | ()=>⟨[sv 4 (bl true)],[],0⟩
def afq (l:(List ab)) (day:Int) (s:Unit):St:=match s with | ()=>⟨[],[],0⟩
def Cu (l:(List ab)) (day:Int) (r:((Unit) ⊕ (Unit))) (K:KT):Prop:=match r with | (.inl s)=>K .ret (afL l day s) | (.inr s)=>K (.exit 0) (afq l day s)
def aiB (l:(List ab)) (day i_1:Int):St:=Cr l day i_1
def eK (l:(List ab)) (day i_1:Int):PT _ (nE (Cr l day) (Cu l day)) iK:=.bf (decide (i_1 < (l.length:Int))) (.g2 (0≤i_1) (i_1 < (l.length:Int))<|.g1 (((decide ((l.getD (Int.toNat i_1) aq).From≤day))&&true) = true→0≤i_1)<|.g1 (((decide ((l.getD (Int.toNat i_1) aq).From≤day))&&true) = true→i_1 < (l.length:Int))<|.g1 (((bif (decide ((l.getD (Int.toNat i_1) aq).From≤day)) then (decide (day < (l.getD (Int.toNat i_1) aq).To)) else false)&&true) = true→(qh day).isSome = true)<|.bf (bif (bif (decide ((l.getD (Int.toNat i_1) aq).From≤day)) then (decide (day < (l.getD (Int.toNat i_1) aq).To)) else false) then ((qh day).getD false) else false) (.lf (some (Sum.inr (Sum.inl ()))) .ret _<|hh fun _=>lx [4] [20,21,22,23,24,25,26,29,30] [sv 0 (cF l),sv 1 (i64 day),sv 5 (i64 i_1)]) (.lf (some (Sum.inl (ai (i_1+1)))) .normal _<|hh fun _=>lx [0,1,5] [20,21,22,23,24,25,26,29,30] [])) (.lf (some (Sum.inr (Sum.inr ()))) (.exit 0) (Cr l day i_1)<|hh fun _=>lg (.cn []))
theorem abs {l day i_1}:Ax tP 32 Zg 0 iK (eK l day i_1) (aiB l day i_1):=.tE mixed [e91] [0,1,4,5,20,21,22,23,24,25,26,29,30] 4
def jK (l:(List ab)) (day:Int) (s:(Int)):Option ((Int) ⊕ ((Unit) ⊕ (Unit))):=match s with | i_1=>(eK l day i_1).opt
theorem acs (l day s):Pp tP 32 (List.drop 0 Zg) (Cr l day s) (jK l day s) (cl (Cr l day) (Cu l day)):=fun K h=>match s,h with | i_1,h=>(abs h)
theorem TV (l day):∀ r J K,Cu l day r K→Cu l day r (aH J K)
  | (.inl s),_,_,h=>h
  | (.inr s),_,_,h=>h
def WG:St:=⟨[],[],0⟩
def yw:PT _ (rE OG) iK:=.lf (some false) .ret _<|hh fun _=>l0
theorem abB:Ax tP 32 u6 3 iK yw WG:=.tE mixed [] [4] 2
def alL (l:(List ab)) (day:Int):St:=⟨[sv 0 (cF l),sv 1 (i64 day),sv 5 (i64 0)],[],0⟩
abbrev nP (l:(List ab)) (day:Int) (r:((Unit) ⊕ (Unit))):Option (Bool):=match r with | (.inl ())=>(some true) | (.inr ())=>yw.opt
def x9 (l:(List ab)) (day:Int):Option (Bool):=(fixL (jK l day) 0).bind (nP l day)
theorem afi:List.drop 2 u6 = .block 0 (.loop (ah (ah (aQ u6 2)))) :: List.drop 3 u6:=by kernel_rfl
theorem ahd (l day K):∀ r,W (nP l day r) (rE OG K)→Cu l day r (wK (bj 0 (aH (ar tP 32 (List.drop 3 u6) K) K)))
  | (.inl ()),h=>⟨(OG true),(.refl _),h⟩
  | (.inr ()),h=>⟨(WG),(.refl _),(abB h)⟩
theorem adF {l day K} (h:W (x9 l day) (rE OG K)):ar tP 32 (List.drop 2 u6) K (alL l day) :=
  ar.at_ afi (ar.cons_loop (aC.weak (aC.ent (.refl _) (aC.loopF (x:=ah (ah (aQ u6 2))) (f:=jK l day) (emb:=Cr l day) (E:=Cu l day) (acs l day) (TV l day) (bT h (ahd l day K))))))
def ahI (l:(List ab)) (day:Int):St:=⟨[sv 0 (cF l),sv 1 (i64 day)],[],0⟩
def yT (l:(List ab)) (day:Int):PT _ (rE OG) (dK tP 32 u6 2 iK):=.lf (x9 l day) .normal _<|hh fun _ h=>l0 (adF h)
theorem abi {l day}:Ax tP 32 u6 0 iK (yT l day) (ahI l day):=.tD mixed [] [0,1,5,20,21,22,23,24,25,26,29,30] 2
def mL (l:(List ab)) (day:Int):Option (Bool):=(yT l day).opt
def zH:bU:=fH jc (aI .i64) mL false HG
theorem IH:bc tP 68 zH:=dA Tryz.f68 (an Tryz.f68) [.tmp 4] 32 fun u0 u1 y h=>@abi u0 u1 _ (bn.2 ⟨y,h,(cz (bl y) (VLe.rfl' _))⟩)
abbrev e68:FE tP:=⟨68, .pure zH,IH⟩
noncomputable def anm:List Code:=aA (an Tryz.f69)
def Qb (x_1:(List ab)):bK:=.own true 59 2 (x_1).length (aV aO aq x_1)
def an9 (x_1:(List ab)):St:=⟨[sv 4 (.row 0 2 0 x_1.length)],[(bp 0 59 x_1)],1⟩
def alg (l:(List ab)) (s_1:ab):St:=⟨[sv 0 (cF l),sv 1 (.ag (aO s_1))],[],0⟩
def uz (l:(List ab)) (s_1:ab):PT _ (rE an9) iK:=.g1 (((decide (0 < (l.length:Int)))&&true) = true→0≤(ai ((l.length:Int) - 1)))<|.g1 (((decide (0 < (l.length:Int)))&&true) = true→(ai ((l.length:Int) - 1)) < (l.length:Int))<|.bf (bif (decide (0 < (l.length:Int))) then ((l.getD (Int.toNat (ai ((l.length:Int) - 1))) aq).To == s_1.From) else false) (.gc l.length 16<|.g2 (0≤(ai ((l.length:Int) - 1))) ((ai ((l.length:Int) - 1)) < (l.length:Int))<|.lf (some (l.set (0+(Int.toNat (ai ((l.length:Int) - 1)))) (ab.mk (l.getD (0+(Int.toNat (ai ((l.length:Int) - 1)))) aq).From s_1.To))) .ret (⟨[sv 4 (.row 0 2 0 l.length)],[(0,some (.row 59 2 l.length (fun q=>bif Nat.beq q (0+(Int.toNat (ai ((l.length:Int) - 1)))) then (aO (ab.s_To (l.getD (0+(Int.toNat (ai ((l.length:Int) - 1)))) aq) s_1.To)) else (bE l) q)))],1⟩)<|hh fun _=>lg (.of (.cons rfl (.rown (mW rfl)) .nil) (.row rfl (ac.set .b (0+(Int.toNat (ai ((l.length:Int) - 1)))) (ab.s_To (l.getD (0+(Int.toNat (ai ((l.length:Int) - 1)))) aq) s_1.To) rfl) .nil rfl) rfl)) (.gc l.length 16<|.tv (l.length = l.length) rfl<|.gc (l.length+1) 16<|.lf (some (l++([s_1]:List ab))) .ret (⟨[sv 4 (.row 0 2 0 (l.length+1))],[(0,some (.row 59 2 (l.length+1) (fun i=>bif Nat.blt i l.length then (bE l) i else (fun i=>(dq 2 (aO s_1)) (0+i)) (i - l.length))))],1⟩)<|hh fun _=>lg (.of (.cons rfl (.rown (bY rfl rfl)) .nil) (.row rfl (ac.app .b (ac.zero (ac.l1 (enc:=aO) (z:=aq) 2 s_1 rfl))) .nil rfl) rfl))
theorem acX {l s_1}:Ax tP 37 anm 0 iK (uz l s_1) (alg l s_1):=.tE mixed [] [4] 6
def Jg (l:(List ab)) (s_1:ab):Option ((List ab)):=(uz l s_1).opt
def Jv:bU:=fH jc yB Jg ([]:List ab) Qb
theorem Q3:bc tP 69 Jv:=dA Tryz.f69 (an Tryz.f69) [.tmp 4] 37 fun u0 u1 y h=>@acX u0 u1 _ (bn.2 ⟨y,h,(cz (.row 0 2 0 y.length) (⟨_,_,_,rfl,rfl,rfl,fun _ _=>rfl,fun _ i hi d hd=>eA _ d hd⟩))⟩)
abbrev e69:FE tP:=⟨69, .pure Jv,Q3⟩
noncomputable def uK:List Code:=aA (an Tryz.f43)
noncomputable def ZU:List Code:=aA (ah (ah (aQ uK 4)))
def IL (x_1:(List ab)):bK:=.own true 59 2 (x_1).length (aV aO aq x_1)
def Ts (x_1:(List ab)):St:=⟨[sv 6 (.row 0 2 0 x_1.length)],[(bp 0 59 x_1)],1⟩
def BN (a b:(List ab)) (kind:Int) (e_1:(List Int)) (s:((List ab) × Int)):St:=match s with | (out_1,i_1)=>⟨[sv 0 (cF a),sv 1 (cF b),sv 2 (i64 kind),sv 7 (.row 0 1 0 e_1.length),sv 8 (.row 1 2 0 out_1.length),sv 9 (i64 i_1)],[(ik 0 3 e_1),(bp 1 59 out_1)],2⟩
def aaP (a b:(List ab)) (kind:Int) (e_1:(List Int)) (s:(List ab)):St:=match s with | out_2=>⟨[sv 8 (.row 0 2 0 out_2.length)],[(bp 0 59 out_2)],1⟩
def B2 (a b:(List ab)) (kind:Int) (e_1:(List Int)) (r:(((List ab)))) (K:KT):Prop:=match r with | s=>K (.exit 0) (aaP a b kind e_1 s)
def ahD (a b:(List ab)) (kind:Int) (e_1:(List Int)) (out_1:(List ab)) (i_1:Int):St:=BN a b kind e_1 (out_1,i_1)
def gy (a b:(List ab)) (kind:Int) (e_1:(List Int)) (out_1:(List ab)) (i_1:Int):PT _ (nE (BN a b kind e_1) (B2 a b kind e_1)) iK:=.bf (decide ((ai (i_1+1)) < (e_1.length:Int))) (.g2 (0≤i_1) (i_1 < (e_1.length:Int))<|.lk mP a fun L1_=>.bd (mL L1_ (e_1.getD (0+(Int.toNat i_1)) (0:Int))) false fun r_5=>.g2 (0≤i_1) (i_1 < (e_1.length:Int))<|.lk mP b fun L2_=>.bd (mL L2_ (e_1.getD (0+(Int.toNat i_1)) (0:Int))) false fun r_6=>.bf (bif (bif (bif (bif (kind == 1) then r_5 else false) then r_6 else false) then true else (bif (kind == 2) then (bif r_5 then true else r_6) else false)) then true else (bif (bif (kind == 3) then r_5 else false) then (!r_6) else false)) (.g2 (0≤i_1) (i_1 < (e_1.length:Int))<|.g2 (0≤(ai (i_1+1))) ((ai (i_1+1)) < (e_1.length:Int))<|.tv (aJ aO bB 2 2 out_1.length (fun i=>(bE out_1) (0+i))) (ac.ok aW (ac.zero .b))<|.ls (a:=lst bB out_1.length (fun i=>(bE out_1) (0+i))) (lr aW (ac.zero .b)) fun L3_=>.bd (Jg L3_ (ab.mk (e_1.getD (0+(Int.toNat i_1)) (0:Int)) (e_1.getD (0+(Int.toNat (ai (i_1+1)))) (0:Int)))) [] fun r_7=>.lf (some (Sum.inl (r_7,(ai (i_1+1))))) .normal _<|hh fun _=>lx [0,1,2,7,8,9] [38,41,44,45,46,47,48,49,50,51,54,55,56,57,58,59,60,61,62] []) (.lf (some (Sum.inl (out_1,(ai (i_1+1))))) .normal _<|hh fun _=>lx [0,1,2,7,8,9] [38,41,44,45,46,47,48,49,50,51,54,55,56,57,58,59,60,61,62] [])) (.lf (some (Sum.inr out_1)) (.exit 0) (BN a b kind e_1 (out_1,i_1))<|hh fun _=>lg (.cn [8]))
theorem ads {a b kind e_1 out_1 i_1}:Ax tP 77 ZU 0 iK (gy a b kind e_1 out_1 i_1) (ahD a b kind e_1 out_1 i_1):=.tE mixed [e68,e69] [0,1,2,7,8,9,38,41,44,45,46,47,48,49,50,51,54,55,56,57,58,59,60,61,62] 4
def iP (a b:(List ab)) (kind:Int) (e_1:(List Int)) (s:((List ab) × Int)):Option (((List ab) × Int) ⊕ (((List ab)))):=match s with | (out_1,i_1)=>(gy a b kind e_1 out_1 i_1).opt
theorem adQ (a b kind e_1 s):Pp tP 77 (List.drop 0 ZU) (BN a b kind e_1 s) (iP a b kind e_1 s) (cl (BN a b kind e_1) (B2 a b kind e_1)):=fun K h=>match s,h with | (out_1,i_1),h=>(ads h)
theorem SU (a b kind e_1):∀ r J K,B2 a b kind e_1 r K→B2 a b kind e_1 r (aH J K)
  | s,_,_,h=>h
def We (out_3:(List ab)):St:=⟨[sv 8 (.row 0 2 0 out_3.length)],[(bp 0 59 out_3)],1⟩
def z6 (out_3:(List ab)):PT _ (rE Ts) iK:=.lf (some out_3) .ret _<|hh fun _=>l0
theorem adN {out_3}:Ax tP 77 uK 5 iK (z6 out_3) (We out_3):=.tE mixed [] [6] 2
def ahE (a b:(List ab)) (kind:Int) (e_1:(List Int)):St:=⟨[sv 0 (cF a),sv 1 (cF b),sv 2 (i64 kind),sv 7 (.row 0 1 0 e_1.length),sv 8 (.c .nil),sv 9 (i64 0)],[(ik 0 3 e_1)],1⟩
abbrev wT (a b:(List ab)) (kind:Int) (e_1:(List Int)) (r:(((List ab)))):Option ((List ab)):=match r with | out_2=>((z6 out_2).opt)
def zD (a b:(List ab)) (kind:Int) (e_1:(List Int)):Option ((List ab)):=(fixL (iP a b kind e_1) (([]:List ab),0)).bind (wT a b kind e_1)
theorem aeT:List.drop 4 uK = .block 0 (.loop (ah (ah (aQ uK 4)))) :: List.drop 5 uK:=by kernel_rfl
theorem aiz (a b kind e_1 K):∀ r,W (wT a b kind e_1 r) (rE Ts K)→B2 a b kind e_1 r (wK (bj 0 (aH (ar tP 77 (List.drop 5 uK) K) K)))
  | out_2,h=>⟨(We out_2),(.refl _),(adN h)⟩
theorem afa {a b kind e_1 K} (h:W (zD a b kind e_1) (rE Ts K)):ar tP 77 (List.drop 4 uK) K (ahE a b kind e_1) :=
  ar.at_ aeT (ar.cons_loop (aC.weak (aC.ent (.trans (.nilrow 8 1 59 2 (aV aO aq []) (Nat.le_of_ble_eq_true rfl) rfl) (.cn [0,1,2,7,8,9])) (aC.loopF (x:=ah (ah (aQ uK 4))) (f:=iP a b kind e_1) (emb:=BN a b kind e_1) (E:=B2 a b kind e_1) (adQ a b kind e_1) (SU a b kind e_1) (bT h (aiz a b kind e_1 K))))))
def ahn (a b:(List ab)) (kind:Int):St:=⟨[sv 0 (cF a),sv 1 (cF b),sv 2 (i64 kind)],[],0⟩
def zq (a b:(List ab)) (kind:Int):PT _ (rE Ts) (dK tP 77 uK 4 iK):=.tv (aJ DF DP 1 1 2 (fun i=>(fun i=>(List.take 1 (List.drop (i*1) [(.sl 2 a.length (bE a)),(.sl 2 b.length (bE b))]))) (0+i))) (ac.ok wZ (ac.zero (ac.lits (el:=(fun i=>(List.take 1 (List.drop (i*1) [(.sl 2 a.length (bE a)),(.sl 2 b.length (bE b))])))) (z:=([]:List ab)) (l:=([a,b]:List (List ab))) ⟨.refl _, .refl _,trivial⟩)))<|.ls (a:=lst DP 2 (fun i=>(fun i=>(List.take 1 (List.drop (i*1) [(.sl 2 a.length (bE a)),(.sl 2 b.length (bE b))]))) (0+i))) (lr wZ (ac.zero (ac.lits (el:=(fun i=>(List.take 1 (List.drop (i*1) [(.sl 2 a.length (bE a)),(.sl 2 b.length (bE b))])))) (z:=([]:List ab)) (l:=([a,b]:List (List ab))) ⟨.refl _, .refl _,trivial⟩))) fun L1_=>.bd (xB L1_) [] fun r_8=>.lf (zD a b kind r_8) .normal _<|hh fun _ h=>l0 (afa h)
theorem abE {a b kind}:Ax tP 77 uK 0 iK (zq a b kind) (ahn a b kind):=.tD mixed [e67] [0,1,2,7,8,9,38,41,44,45,46,47,48,49,50,51,54,55,56,57,58,59,60,61,62] 4
def iI (a b:(List ab)) (kind:Int):Option ((List ab)):=(zq a b kind).opt
def Bo:bU:=yL jc jc (aI .i64) iI ([]:List ab) IL
theorem K0:bc tP 43 Bo:=sK Tryz.f43 (an Tryz.f43) [.tmp 6] 77 fun u0 u1 u2 y h=>@abE u0 u1 u2 _ (bn.2 ⟨y,h,(cz (.row 0 2 0 y.length) (⟨_,_,_,rfl,rfl,rfl,fun _ _=>rfl,fun _ i hi d hd=>eA _ d hd⟩))⟩)
abbrev e43:FE tP:=⟨43, .pure Bo,K0⟩
noncomputable def amG:List Code:=aA (an Tryz.f42)
def G0 (x_1:(List ab)):bK:=.own true 59 2 (x_1).length (aV aO aq x_1)
def anJ (x_1:(List ab)):St:=⟨[sv 2 (.row 0 2 0 x_1.length)],[(bp 0 59 x_1)],1⟩
def akG (l:(List ab)):St:=⟨[sv 0 (cF l)],[],0⟩
def w5 (l:(List ab)):PT _ (rE anJ) iK:=.lk mP l fun L1_=>.tv (aJ aO bB 2 0 0 (fun _=>[])) (ac.okN aW (ac.nil aO aq _))<|.ls (a:=lst bB 0 (fun _=>[])) (lr aW (ac.nil aO aq _)) fun L2_=>.bd (iI L1_ L2_ 2) [] fun r_2=>.lf (some r_2) .ret _<|hh fun _=>l0
theorem afE {l}:Ax tP 5 amG 0 iK (w5 l) (akG l):=.tE mixed [e43] [2] 3
def ll (l:(List ab)):Option ((List ab)):=(w5 l).opt
def ym:bU:=dI jc ll ([]:List ab) G0
theorem HE:bc tP 42 ym:=cD Tryz.f42 (an Tryz.f42) [.tmp 2] 5 fun u0 y h=>@afE u0 _ (bn.2 ⟨y,h,(cz (.row 0 2 0 y.length) (⟨_,_,_,rfl,rfl,rfl,fun _ _=>rfl,fun _ i hi d hd=>eA _ d hd⟩))⟩)
abbrev e42:FE tP:=⟨42, .pure ym,HE⟩
noncomputable def ut:List Code:=aA (an Tryz.f14)
noncomputable def ZN:List Code:=aA (ah (ah (aQ ut 3)))
def Fz (x_1:(List ab)):bK:=.own true 59 2 (x_1).length (aV aO aq x_1)
def R6 (x_1:(List ab)):St:=⟨[sv 6 (.row 0 2 0 x_1.length)],[(bp 0 59 x_1)],1⟩
def CX (claims:(List ao)) (state rank:Int) (s:((List ab) × Int)):St:=match s with | (out_1,i_1)=>⟨[sv 0 (er claims),sv 1 (i64 state),sv 2 (i64 rank),sv 7 (.row 0 2 0 out_1.length),sv 8 (i64 i_1)],[(bp 0 59 out_1)],1⟩
def ac9 (claims:(List ao)) (state rank:Int) (s:(List ab)):St:=match s with | out_2=>⟨[sv 7 (.row 0 2 0 out_2.length)],[(bp 0 59 out_2)],1⟩
def Ck (claims:(List ao)) (state rank:Int) (r:(((List ab)))) (K:KT):Prop:=match r with | s=>K (.exit 0) (ac9 claims state rank s)
def akW (claims:(List ao)) (state rank:Int) (out_1:(List ab)) (i_1:Int):St:=CX claims state rank (out_1,i_1)
def gf (claims:(List ao)) (state rank:Int) (out_1:(List ab)) (i_1:Int):PT _ (nE (CX claims state rank) (Ck claims state rank)) iK:=.bf (decide (i_1 < (claims.length:Int))) (.g2 (0≤i_1) (i_1 < (claims.length:Int))<|.g1 (((!(rank == 0))&&(((claims.getD (Int.toNat i_1) cG).State == state)&&true)) = true→0≤i_1)<|.g1 (((!(rank == 0))&&(((claims.getD (Int.toNat i_1) cG).State == state)&&true)) = true→i_1 < (claims.length:Int))<|.bf (bif ((claims.getD (Int.toNat i_1) cG).State == state) then (bif (rank == 0) then true else ((claims.getD (Int.toNat i_1) cG).Rank == rank)) else false) (.g2 (0≤i_1) (i_1 < (claims.length:Int))<|.tv (out_1.length = out_1.length) rfl<|.gc (out_1.length+1) 16<|.lf (some (Sum.inl ((out_1++([(claims.getD (Int.toNat i_1) cG).Span]:List ab)),(ai (i_1+1))))) .normal (⟨[sv 0 (er claims),sv 1 (i64 state),sv 2 (i64 rank),sv 7 (.row 0 2 0 (out_1.length+1)),sv 8 (i64 (ai (i_1+1))),un 23,un 24,un 25,un 26,un 27,un 28,un 29,un 30,un 31,un 32,un 33],[(0,some (.row 59 2 (out_1.length+1) (fun i=>bif Nat.blt i out_1.length then (bE out_1) i else (fun i=>(dq 2 (aO ((claims.getD (Int.toNat i_1) cG).Span))) (0+i)) (i - out_1.length))))],1⟩)<|hh fun _=>lg (.of (.qs 3 (.cons rfl (.rown (bY rfl rfl)) (.q rfl .nil))) (.row rfl (ac.app .b (ac.zero (ac.l1 (enc:=aO) (z:=aq) 2 ((claims.getD (Int.toNat i_1) cG).Span) rfl))) .nil rfl) rfl)) (.lf (some (Sum.inl (out_1,(ai (i_1+1))))) .normal _<|hh fun _=>lx [0,1,2,7,8] [23,24,25,26,27,28,29,30,31,32,33] [])) (.lf (some (Sum.inr out_1)) (.exit 0) (CX claims state rank (out_1,i_1))<|hh fun _=>lg (.cn [7]))
theorem ab1 {claims state rank out_1 i_1}:Ax tP 45 ZN 0 iK (gf claims state rank out_1 i_1) (akW claims state rank out_1 i_1):=.tE mixed [] [0,1,2,7,8,23,24,25,26,27,28,29,30,31,32,33] 4
def iG (claims:(List ao)) (state rank:Int) (s:((List ab) × Int)):Option (((List ab) × Int) ⊕ (((List ab)))):=match s with | (out_1,i_1)=>(gf claims state rank out_1 i_1).opt
theorem afu (claims state rank s):Pp tP 45 (List.drop 0 ZN) (CX claims state rank s) (iG claims state rank s) (cl (CX claims state rank) (Ck claims state rank)):=fun K h=>match s,h with | (out_1,i_1),h=>(ab1 h)
theorem Tf (claims state rank):∀ r J K,Ck claims state rank r K→Ck claims state rank r (aH J K)
  | s,_,_,h=>h
def V1 (out_3:(List ab)):St:=⟨[sv 7 (.row 0 2 0 out_3.length)],[(bp 0 59 out_3)],1⟩
def ku (out_3:(List ab)):PT _ (rE R6) iK:=.tv (aJ aO bB 2 2 out_3.length (fun i=>(bE out_3) (0+i))) (ac.ok aW (ac.zero .b))<|.ls (a:=lst bB out_3.length (fun i=>(bE out_3) (0+i))) (lr aW (ac.zero .b)) fun L1_=>.bd (ll L1_) [] fun r_2=>.lf (some r_2) .ret _<|hh fun _=>l0
theorem abo {out_3}:Ax tP 45 ut 4 iK (ku out_3) (V1 out_3):=.tE mixed [e42] [6] 2
def akz (claims:(List ao)) (state rank:Int):St:=⟨[sv 0 (er claims),sv 1 (i64 state),sv 2 (i64 rank),sv 7 (.c .nil),sv 8 (i64 0)],[],0⟩
abbrev sE (claims:(List ao)) (state rank:Int) (r:(((List ab)))):Option ((List ab)):=match r with | out_2=>((ku out_2).opt)
def vH (claims:(List ao)) (state rank:Int):Option ((List ab)):=(fixL (iG claims state rank) (([]:List ab),0)).bind (sE claims state rank)
theorem aeg:List.drop 3 ut = .block 0 (.loop (ah (ah (aQ ut 3)))) :: List.drop 4 ut:=by kernel_rfl
theorem akX (claims state rank K):∀ r,W (sE claims state rank r) (rE R6 K)→Ck claims state rank r (wK (bj 0 (aH (ar tP 45 (List.drop 4 ut) K) K)))
  | out_2,h=>⟨(V1 out_2),(.refl _),(abo h)⟩
theorem adn {claims state rank K} (h:W (vH claims state rank) (rE R6 K)):ar tP 45 (List.drop 3 ut) K (akz claims state rank) :=
  ar.at_ aeg (ar.cons_loop (aC.weak (aC.ent (.trans (.nilrow 7 0 59 2 (aV aO aq []) (Nat.le_of_ble_eq_true rfl) rfl) (.cn [0,1,2,7,8])) (aC.loopF (x:=ah (ah (aQ ut 3))) (f:=iG claims state rank) (emb:=CX claims state rank) (E:=Ck claims state rank) (afu claims state rank) (Tf claims state rank) (bT h (akX claims state rank K))))))
def aiG (claims:(List ao)) (state rank:Int):St:=⟨[sv 0 (er claims),sv 1 (i64 state),sv 2 (i64 rank)],[],0⟩
def vT (claims:(List ao)) (state rank:Int):PT _ (rE R6) (dK tP 45 ut 3 iK):=.lf (vH claims state rank) .normal _<|hh fun _ h=>l0 (adn h)
theorem aeD {claims state rank}:Ax tP 45 ut 0 iK (vT claims state rank) (aiG claims state rank):=.tD mixed [] [0,1,2,7,8,23,24,25,26,27,28,29,30,31,32,33] 3
def sw (claims:(List ao)) (state rank:Int):Option ((List ab)):=(vT claims state rank).opt
def w6:bU:=yL XB (aI .i64) (aI .i64) sw ([]:List ab) Fz
theorem Gg:bc tP 14 w6:=sK Tryz.f14 (an Tryz.f14) [.tmp 6] 45 fun u0 u1 u2 y h=>@aeD u0 u1 u2 _ (bn.2 ⟨y,h,(cz (.row 0 2 0 y.length) (⟨_,_,_,rfl,rfl,rfl,fun _ _=>rfl,fun _ i hi d hd=>eA _ d hd⟩))⟩)
abbrev fK:FE tP:=⟨14, .pure w6,Gg⟩
noncomputable def uH:List Code:=aA (an Tryz.f44)
noncomputable def ZO:List Code:=aA (ah (ah (aQ uH 3)))
def HF (x_1:(List ae)):bK:=.own true 70 14 (x_1).length (aV aR aU x_1)
def Sj (x_1:(List ae)):St:=⟨[sv 2 (.row 0 14 0 x_1.length)],[(bP 0 70 x_1)],1⟩
def BG (l:(List ae)) (s:((List ae) × Int)):St:=match s with | (out_1,i_1)=>⟨[sv 0 (bk l),sv 3 (.row 0 14 0 out_1.length),sv 4 (i64 i_1)],[(bP 0 70 out_1)],1⟩
def aaZ (l:(List ae)) (s:(List ae)):St:=match s with | out_2=>⟨[sv 3 (.row 0 14 0 out_2.length)],[(bP 0 70 out_2)],1⟩
def Bw (l:(List ae)) (r:(((List ae)))) (K:KT):Prop:=match r with | s=>K (.exit 0) (aaZ l s)
def alO (l out_1:(List ae)) (i_1:Int):St:=BG l (out_1,i_1)
def ip (l out_1:(List ae)) (i_1:Int):PT _ (nE (BG l) (Bw l)) iK:=.bf (decide (i_1 < (l.length:Int))) (.g2 (0≤i_1) (i_1 < (l.length:Int))<|.bd (eZ (l.getD (Int.toNat i_1) aU)) false fun r_2=>.g1 ((r_2&&true) = true→0≤i_1)<|.g1 ((r_2&&true) = true→i_1 < (l.length:Int))<|.bf (bif r_2 then (!(l.getD (Int.toNat i_1) aU).Withdrawn) else false) (.g2 (0≤i_1) (i_1 < (l.length:Int))<|.tv (out_1.length = out_1.length) rfl<|.gc (out_1.length+1) 112<|.lf (some (Sum.inl ((out_1++([(l.getD (Int.toNat i_1) aU)]:List ae)),(ai (i_1+1))))) .normal (⟨[sv 0 (bk l),sv 3 (.row 0 14 0 (out_1.length+1)),sv 4 (i64 (ai (i_1+1))),un 17,un 18,un 19,un 20,un 21,un 22],[(0,some (.row 70 14 (out_1.length+1) (fun i=>bif Nat.blt i out_1.length then (et out_1) i else (fun i=>(dq 14 (aR (l.getD (Int.toNat i_1) aU))) (0+i)) (i - out_1.length))))],1⟩)<|hh fun _=>lg (.of (.q rfl (.cons rfl (.rown (bY rfl rfl)) (.q rfl .nil))) (.row rfl (ac.app .b (ac.zero (ac.l1 (enc:=aR) (z:=aU) 14 (l.getD (Int.toNat i_1) aU) rfl))) .nil rfl) rfl)) (.lf (some (Sum.inl (out_1,(ai (i_1+1))))) .normal _<|hh fun _=>lx [0,3,4] [17,18,19,20,21,22] [])) (.lf (some (Sum.inr out_1)) (.exit 0) (BG l (out_1,i_1))<|hh fun _=>lg (.cn [3]))
theorem aaV {l out_1 i_1}:Ax tP 32 ZO 0 iK (ip l out_1 i_1) (alO l out_1 i_1):=.tE mixed [ZY] [0,3,4,17,18,19,20,21,22] 4
def mv (l:(List ae)) (s:((List ae) × Int)):Option (((List ae) × Int) ⊕ (((List ae)))):=match s with | (out_1,i_1)=>(ip l out_1 i_1).opt
theorem afp (l s):Pp tP 32 (List.drop 0 ZO) (BG l s) (mv l s) (cl (BG l) (Bw l)):=fun K h=>match s,h with | (out_1,i_1),h=>(aaV h)
theorem TE (l):∀ r J K,Bw l r K→Bw l r (aH J K)
  | s,_,_,h=>h
def UI (out_3:(List ae)):St:=⟨[sv 3 (.row 0 14 0 out_3.length)],[(bP 0 70 out_3)],1⟩
def y9 (out_3:(List ae)):PT _ (rE Sj) iK:=.lf (some out_3) .ret _<|hh fun _=>l0
theorem aaD {out_3}:Ax tP 32 uH 4 iK (y9 out_3) (UI out_3):=.tE mixed [] [2] 2
def akp (l:(List ae)):St:=⟨[sv 0 (bk l),sv 3 (.c .nil),sv 4 (i64 0)],[],0⟩
abbrev vq (l:(List ae)) (r:(((List ae)))):Option ((List ae)):=match r with | out_2=>((y9 out_2).opt)
def yf (l:(List ae)):Option ((List ae)):=(fixL (mv l) (([]:List ae),0)).bind (vq l)
theorem aet:List.drop 3 uH = .block 0 (.loop (ah (ah (aQ uH 3)))) :: List.drop 4 uH:=by kernel_rfl
theorem aln (l K):∀ r,W (vq l r) (rE Sj K)→Bw l r (wK (bj 0 (aH (ar tP 32 (List.drop 4 uH) K) K)))
  | out_2,h=>⟨(UI out_2),(.refl _),(aaD h)⟩
theorem aai {l K} (h:W (yf l) (rE Sj K)):ar tP 32 (List.drop 3 uH) K (akp l) :=
  ar.at_ aet (ar.cons_loop (aC.weak (aC.ent (.trans (.nilrow 3 0 70 14 (aV aR aU []) (Nat.le_of_ble_eq_true rfl) rfl) (.cn [0,3,4])) (aC.loopF (x:=ah (ah (aQ uH 3))) (f:=mv l) (emb:=BG l) (E:=Bw l) (afp l) (TE l) (bT h (aln l K))))))
def aji (l:(List ae)):St:=⟨[sv 0 (bk l)],[],0⟩
def xV (l:(List ae)):PT _ (rE Sj) (dK tP 32 uH 3 iK):=.lf (yf l) .normal _<|hh fun _ h=>l0 (aai h)
theorem aef {l}:Ax tP 32 uH 0 iK (xV l) (aji l):=.tD mixed [] [0,3,4,17,18,19,20,21,22] 3
def iY (l:(List ae)):Option ((List ae)):=(xV l).opt
def zL:bU:=dI ii iY ([]:List ae) HF
theorem IK:bc tP 44 zL:=cD Tryz.f44 (an Tryz.f44) [.tmp 2] 32 fun u0 y h=>@aef u0 _ (bn.2 ⟨y,h,(cz (.row 0 14 0 y.length) (⟨_,_,_,rfl,rfl,rfl,fun _ _=>rfl,fun _ i hi d hd=>lY _ d hd⟩))⟩)
abbrev e44:FE tP:=⟨44, .pure zL,IK⟩
noncomputable def ur:List Code:=aA (an Tryz.f92)
noncomputable def ZV:List Code:=aA (ah (ah (aQ ur 4)))
def Jw (x_1:(Int × Bool)):bK:=.data (.tup [(i64 x_1.1),(bl x_1.2)])
def TD (x_1:(Int × Bool)):St:=⟨[sv 4 (i64 x_1.1),sv 5 (bl x_1.2)],[],0⟩
def Ci (kind:Int) (c:(List ae)) (s:(Int × Bool × Int)):St:=match s with | (day,ok,i_1)=>⟨[sv 1 (i64 kind),sv 6 (.row 0 14 0 c.length),sv 7 (i64 day),sv 8 (bl ok),sv 9 (i64 i_1)],[(bP 0 70 c)],1⟩
def abW (kind:Int) (c:(List ae)) (s:Int × Bool):St:=match s with | (day_1,ok_1)=>⟨[sv 7 (i64 day_1),sv 8 (bl ok_1)],[],0⟩
def Ch (kind:Int) (c:(List ae)) (r:((Int × Bool))) (K:KT):Prop:=match r with | s=>K (.exit 0) (abW kind c s)
def ajf (kind:Int) (c:(List ae)) (day:Int) (ok:Bool) (i_1:Int):St:=Ci kind c (day,ok,i_1)
def jw (kind:Int) (c:(List ae)) (day:Int) (ok:Bool) (i_1:Int):PT _ (nE (Ci kind c) (Ch kind c)) iK:=.bf (decide (i_1 < (c.length:Int))) (.g2 (0≤i_1) (i_1 < (c.length:Int))<|.g1 (((!(!ok))&&(((c.getD (0+(Int.toNat i_1)) aU).Kind == kind)&&true)) = true→0≤i_1)<|.g1 (((!(!ok))&&(((c.getD (0+(Int.toNat i_1)) aU).Kind == kind)&&true)) = true→i_1 < (c.length:Int))<|.bf (bif ((c.getD (0+(Int.toNat i_1)) aU).Kind == kind) then (bif (!ok) then true else (decide (((c.getD (0+(Int.toNat i_1)) aU).Span).From < day))) else false) (.g2 (0≤i_1) (i_1 < (c.length:Int))<|.lf (some (Sum.inl (((c.getD (0+(Int.toNat i_1)) aU).Span).From,true,(ai (i_1+1))))) .normal _<|hh fun _=>lx [1,6,7,8,9] [26,27,28,29,30,31,32,33,34,35,36,37] []) (.lf (some (Sum.inl (day,ok,(ai (i_1+1))))) .normal _<|hh fun _=>lx [1,6,7,8,9] [26,27,28,29,30,31,32,33,34,35,36,37] [])) (.lf (some (Sum.inr (day,ok))) (.exit 0) (Ci kind c (day,ok,i_1))<|hh fun _=>lg (.cn [7,8]))
theorem abA {kind c day ok i_1}:Ax tP 47 ZV 0 iK (jw kind c day ok i_1) (ajf kind c day ok i_1):=.tE mixed [] [1,6,7,8,9,26,27,28,29,30,31,32,33,34,35,36,37] 4
def li (kind:Int) (c:(List ae)) (s:(Int × Bool × Int)):Option ((Int × Bool × Int) ⊕ ((Int × Bool))):=match s with | (day,ok,i_1)=>(jw kind c day ok i_1).opt
theorem abV (kind c s):Pp tP 47 (List.drop 0 ZV) (Ci kind c s) (li kind c s) (cl (Ci kind c) (Ch kind c)):=fun K h=>match s,h with | (day,ok,i_1),h=>(abA h)
theorem Te (kind c):∀ r J K,Ch kind c r K→Ch kind c r (aH J K)
  | s,_,_,h=>h
def Wi (day_2:Int) (ok_2:Bool):St:=⟨[sv 7 (i64 day_2),sv 8 (bl ok_2)],[],0⟩
def Bc (day_2:Int) (ok_2:Bool):PT _ (rE TD) iK:=.lf (some (day_2,ok_2)) .ret _<|hh fun _=>l0
theorem adW {day_2 ok_2}:Ax tP 47 ur 5 iK (Bc day_2 ok_2) (Wi day_2 ok_2):=.tE mixed [] [4,5] 2
def ajm (kind:Int) (c:(List ae)):St:=⟨[sv 1 (i64 kind),sv 6 (.row 0 14 0 c.length),sv 7 (i64 0),sv 8 (bl false),sv 9 (i64 0)],[(bP 0 70 c)],1⟩
abbrev yC (kind:Int) (c:(List ae)) (r:((Int × Bool))):Option ((Int × Bool)):=match r with | (day_1,ok_1)=>((Bc day_1 ok_1).opt)
def A8 (kind:Int) (c:(List ae)):Option ((Int × Bool)):=(fixL (li kind c) (0,false,0)).bind (yC kind c)
theorem aaN:List.drop 4 ur = .block 0 (.loop (ah (ah (aQ ur 4)))) :: List.drop 5 ur:=by kernel_rfl
theorem ah8 (kind c K):∀ r,W (yC kind c r) (rE TD K)→Ch kind c r (wK (bj 0 (aH (ar tP 47 (List.drop 5 ur) K) K)))
  | (day_1,ok_1),h=>⟨(Wi day_1 ok_1),(.refl _),(adW h)⟩
theorem aba {kind c K} (h:W (A8 kind c) (rE TD K)):ar tP 47 (List.drop 4 ur) K (ajm kind c) :=
  ar.at_ aaN (ar.cons_loop (aC.weak (aC.ent (.refl _) (aC.loopF (x:=ah (ah (aQ ur 4))) (f:=li kind c) (emb:=Ci kind c) (E:=Ch kind c) (abV kind c) (Te kind c) (bT h (ah8 kind c K))))))
def ali (l:(List ae)) (kind:Int):St:=⟨[sv 0 (bk l),sv 1 (i64 kind)],[],0⟩
def Bm (l:(List ae)) (kind:Int):PT _ (rE TD) (dK tP 47 ur 4 iK):=.lk jG l fun L1_=>.bd (iY L1_) [] fun r_2=>.lf (A8 kind r_2) .normal _<|hh fun _ h=>l0 (aba h)
theorem agp {l kind}:Ax tP 47 ur 0 iK (Bm l kind) (ali l kind):=.tD mixed [e44] [1,6,7,8,9,26,27,28,29,30,31,32,33,34,35,36,37] 4
def uR (l:(List ae)) (kind:Int):Option ((Int × Bool)):=(Bm l kind).opt
def Et:bU:=fH ii (aI .i64) uR ((0:Int),false) Jw
theorem Mg:bc tP 92 Et:=dA Tryz.f92 (an Tryz.f92) [.tmp 4, .tmp 5] 47 fun u0 u1 y h=>@agp u0 u1 _ (bn.2 ⟨y,h,(cz (.tup [(i64 y.1),(bl y.2)]) (VLe.tup (VLes.cons (VLe.rfl' _) (VLes.cons (VLe.rfl' _) (VLes.nil)))))⟩)
abbrev e92:FE tP:=⟨92, .pure Et,Mg⟩
noncomputable def amX:List Code:=aA (an Tryz.f70)
def Kh (x_1:(Int × Bool)):bK:=.data (.tup [(i64 x_1.1),(bl x_1.2)])
def an5 (x_1:(Int × Bool)):St:=⟨[sv 2 (i64 x_1.1),sv 3 (bl x_1.2)],[],0⟩
def aj8 (l:(List ae)):St:=⟨[sv 0 (bk l)],[],0⟩
def oH (l:(List ae)):PT _ (rE an5) iK:=.lk jG l fun L1_=>.bd (uR L1_ 11) (0,false) fun r_2=>.lf (some (r_2.1,r_2.2)) .ret _<|hh fun _=>l0
theorem acy {l}:Ax tP 8 amX 0 iK (oH l) (aj8 l):=.tE mixed [e92] [2,3] 3
def AX (l:(List ae)):Option ((Int × Bool)):=(oH l).opt
def EY:bU:=dI ii AX ((0:Int),false) Kh
theorem Mj:bc tP 70 EY:=cD Tryz.f70 (an Tryz.f70) [.tmp 2, .tmp 3] 8 fun u0 y h=>@acy u0 _ (bn.2 ⟨y,h,(cz (.tup [(i64 y.1),(bl y.2)]) (VLe.tup (VLes.cons (VLe.rfl' _) (VLes.cons (VLe.rfl' _) (VLes.nil)))))⟩)
abbrev e70:FE tP:=⟨70, .pure EY,Mj⟩
noncomputable def amW:List Code:=aA (an Tryz.f71)
def JV (x_1:(Int × Bool)):bK:=.data (.tup [(i64 x_1.1),(bl x_1.2)])
def aod (x_1:(Int × Bool)):St:=⟨[sv 2 (i64 x_1.1),sv 3 (bl x_1.2)],[],0⟩
def alZ (l:(List ae)):St:=⟨[sv 0 (bk l)],[],0⟩
def oK (l:(List ae)):PT _ (rE aod) iK:=.lk jG l fun L1_=>.bd (uR L1_ 12) (0,false) fun r_2=>.lf (some (r_2.1,r_2.2)) .ret _<|hh fun _=>l0
theorem ad2 {l}:Ax tP 8 amW 0 iK (oK l) (alZ l):=.tE mixed [e92] [2,3] 3
def AP (l:(List ae)):Option ((Int × Bool)):=(oK l).opt
def Ff:bU:=dI ii AP ((0:Int),false) JV
theorem Lx:bc tP 71 Ff:=cD Tryz.f71 (an Tryz.f71) [.tmp 2, .tmp 3] 8 fun u0 y h=>@ad2 u0 _ (bn.2 ⟨y,h,(cz (.tup [(i64 y.1),(bl y.2)]) (VLe.tup (VLes.cons (VLe.rfl' _) (VLes.cons (VLe.rfl' _) (VLes.nil)))))⟩)
abbrev e71:FE tP:=⟨71, .pure Ff,Lx⟩
noncomputable def TY:List Code:=aA (an Tryz.f45)
def LZ (x_1:ab):bK:=.data (.agg [(i64 x_1.From),(i64 x_1.To)])
def alD (x_1:ab):St:=⟨[sv 2 (.ptr 0 2 0 0)],[(0,some (.box [(i64 x_1.From),(i64 x_1.To)]))],1⟩
def ahG (from_1 to_1:Int):St:=⟨[sv 2 (.ptr 0 2 0 0),sv 3 (i64 from_1),sv 5 (i64 to_1)],[(0,some (.bx (aO (ab.mk 0 0))))],1⟩
def qk (from_1 to_1:Int):PT _ (rE alD) iK:=.bf (decide (to_1 < from_1)) (.lf (some (ab.mk 0 0)) .ret _<|hh fun _=>l0) (.lf (some (ab.mk from_1 (ai (to_1+1)))) .ret _<|hh fun _=>l0)
theorem RU {from_1 to_1}:Ax tP 27 TY 5 iK (qk from_1 to_1) (ahG from_1 to_1):=.tE mixed [] [2] 4
def ajP (l:(List ae)):St:=⟨[sv 0 (bk l)],[],0⟩
def qw (l:(List ae)):PT _ (rE alD) (dK tP 27 TY 5 iK):=.lk jG l fun L1_=>.bd (AX L1_) (0,false) fun r_3=>.tv (P2 l) (kb cf)<|.bd (AP L1_) (0,false) fun r_4=>.bf (!r_4.2) (.lf ((qk r_3.1 73048).opt) .normal _<|hh fun _ h=>l0 (RU h)) (.lf ((qk r_3.1 r_4.1).opt) .normal _<|hh fun _ h=>l0 (RU h))
theorem afb {l}:Ax tP 27 TY 0 iK (qw l) (ajP l):=.tD mixed [e70,e71] [2,3,5] 5
def xe (l:(List ae)):Option (ab):=(qw l).opt
def Ge:bU:=dI ii xe aq LZ
theorem NE:bc tP 45 Ge:=cD Tryz.f45 (an Tryz.f45) [.cell 2 59] 27 fun u0 y h=>@afb u0 _ (bn.2 ⟨y,h,(cz (.agg [(i64 y.From),(i64 y.To)]) (VLe.rfl' _))⟩)
abbrev Rh:FE tP:=⟨45, .pure Ge,NE⟩
noncomputable def aml:List Code:=aA (an Tryz.f15)
def Nr (x_1:(List ab)):bK:=.own true 59 2 (x_1).length (aV aO aq x_1)
def aoe (x_1:(List ab)):St:=⟨[sv 4 (.row 0 2 0 x_1.length)],[(bp 0 59 x_1)],1⟩
def aiQ (l:(List ab)) (s_1:ab):St:=⟨[sv 0 (cF l),sv 1 (.ag (aO s_1))],[],0⟩
def F9 (l:(List ab)) (s_1:ab):PT _ (rE aoe) iK:=.lk mP l fun L1_=>.tv (aJ aO bB 2 2 1 (fun i=>(dq 2 (aO s_1)) (0+i))) (ac.ok aW (ac.zero (ac.l1 (enc:=aO) (z:=aq) 2 s_1 rfl)))<|.ls (a:=lst bB 1 (fun i=>(dq 2 (aO s_1)) (0+i))) (lr aW (ac.zero (ac.l1 (enc:=aO) (z:=aq) 2 s_1 rfl))) fun L2_=>.bd (iI L1_ L2_ 1) [] fun r_2=>.lf (some r_2) .ret _<|hh fun _=>l0
theorem adG {l s_1}:Ax tP 9 aml 0 iK (F9 l s_1) (aiQ l s_1):=.tE mixed [e43] [4] 3
def wc (l:(List ab)) (s_1:ab):Option ((List ab)):=(F9 l s_1).opt
def HU:bU:=fH jc yB wc ([]:List ab) Nr
theorem Pt:bc tP 15 HU:=dA Tryz.f15 (an Tryz.f15) [.tmp 4] 9 fun u0 u1 y h=>@adG u0 u1 _ (bn.2 ⟨y,h,(cz (.row 0 2 0 y.length) (⟨_,_,_,rfl,rfl,rfl,fun _ _=>rfl,fun _ i hi d hd=>eA _ d hd⟩))⟩)
abbrev e15:FE tP:=⟨15, .pure HU,Pt⟩
noncomputable def uJ:List Code:=aA (an Tryz.f16)
noncomputable def Zz:List Code:=aA (ah (ah (aQ uJ 4)))
def KH (x_1:(List ab)):bK:=.own true 59 2 (x_1).length (aV aO aq x_1)
def Tj (x_1:(List ab)):St:=⟨[sv 6 (.row 0 2 0 x_1.length)],[(bp 0 59 x_1)],1⟩
def CG (l:(List ae)) (kind state:Int) (c:(List ae)) (s:((List ab) × Int)):St:=match s with | (out_1,i_1)=>⟨[sv 0 (bk l),sv 1 (i64 kind),sv 2 (i64 state),sv 7 (.row 0 14 0 c.length),sv 8 (.row 1 2 0 out_1.length),sv 9 (i64 i_1)],[(bP 0 70 c),(bp 1 59 out_1)],2⟩
def ace (l:(List ae)) (kind state:Int) (c:(List ae)) (s:(List ab)):St:=match s with | out_2=>⟨[sv 0 (bk l),sv 8 (.row 0 2 0 out_2.length)],[(bp 0 59 out_2)],1⟩
def A5 (l:(List ae)) (kind state:Int) (c:(List ae)) (r:(((List ab)))) (K:KT):Prop:=match r with | s=>K (.exit 0) (ace l kind state c s)
def alw (l:(List ae)) (kind state:Int) (c:(List ae)) (out_1:(List ab)) (i_1:Int):St:=CG l kind state c (out_1,i_1)
def jC (l:(List ae)) (kind state:Int) (c:(List ae)) (out_1:(List ab)) (i_1:Int):PT _ (nE (CG l kind state c) (A5 l kind state c)) iK:=.bf (decide (i_1 < (c.length:Int))) (.g2 (0≤i_1) (i_1 < (c.length:Int))<|.g1 ((((c.getD (0+(Int.toNat i_1)) aU).Kind == kind)&&true) = true→0≤i_1)<|.g1 ((((c.getD (0+(Int.toNat i_1)) aU).Kind == kind)&&true) = true→i_1 < (c.length:Int))<|.bf (bif ((c.getD (0+(Int.toNat i_1)) aU).Kind == kind) then ((c.getD (0+(Int.toNat i_1)) aU).State == state) else false) (.g2 (0≤i_1) (i_1 < (c.length:Int))<|.tv (out_1.length = out_1.length) rfl<|.gc (out_1.length+1) 16<|.lf (some (Sum.inl ((out_1++([(c.getD (0+(Int.toNat i_1)) aU).Span]:List ab)),(ai (i_1+1))))) .normal (⟨[sv 0 (bk l),sv 1 (i64 kind),sv 2 (i64 state),sv 7 (.row 0 14 0 c.length),sv 8 (.row 1 2 0 (out_1.length+1)),sv 9 (i64 (ai (i_1+1))),un 26,un 27,un 28,un 29,un 30,un 31,un 32],[(bP 0 70 c),(1,some (.row 59 2 (out_1.length+1) (fun i=>bif Nat.blt i out_1.length then (bE out_1) i else (fun i=>(dq 2 (aO ((c.getD (0+(Int.toNat i_1)) aU).Span))) (0+i)) (i - out_1.length))))],2⟩)<|hh fun _=>lg (.of (.qs 4 (.cons rfl (.rown (bY rfl rfl)) (.q rfl .nil))) (.same rfl (.row rfl (ac.app .b (ac.zero (ac.l1 (enc:=aO) (z:=aq) 2 ((c.getD (0+(Int.toNat i_1)) aU).Span) rfl))) .nil rfl)) rfl)) (.lf (some (Sum.inl (out_1,(ai (i_1+1))))) .normal _<|hh fun _=>lx [0,1,2,7,8,9] [26,27,28,29,30,31,32] [])) (.lf (some (Sum.inr out_1)) (.exit 0) (CG l kind state c (out_1,i_1))<|hh fun _=>lg (.cn [0,8]))
theorem aeV {l kind state c out_1 i_1}:Ax tP 46 Zz 0 iK (jC l kind state c out_1 i_1) (alw l kind state c out_1 i_1):=.tE mixed [] [0,1,2,7,8,9,26,27,28,29,30,31,32] 4
def ir (l:(List ae)) (kind state:Int) (c:(List ae)) (s:((List ab) × Int)):Option (((List ab) × Int) ⊕ (((List ab)))):=match s with | (out_1,i_1)=>(jC l kind state c out_1 i_1).opt
theorem ad1 (l kind state c s):Pp tP 46 (List.drop 0 Zz) (CG l kind state c s) (ir l kind state c s) (cl (CG l kind state c) (A5 l kind state c)):=fun K h=>match s,h with | (out_1,i_1),h=>(aeV h)
theorem Tt (l kind state c):∀ r J K,A5 l kind state c r K→A5 l kind state c r (aH J K)
  | s,_,_,h=>h
def Ve (l:(List ae)) (out_3:(List ab)):St:=⟨[sv 0 (bk l),sv 8 (.row 0 2 0 out_3.length)],[(bp 0 59 out_3)],1⟩
def Cx (l:(List ae)) (out_3:(List ab)):PT _ (rE Tj) iK:=.lk jG l fun L1_=>.bd (xe L1_) aq fun r_4=>.tv (aJ aO bB 2 2 out_3.length (fun i=>(bE out_3) (0+i))) (ac.ok aW (ac.zero .b))<|.ls (a:=lst bB out_3.length (fun i=>(bE out_3) (0+i))) (lr aW (ac.zero .b)) fun L2_=>.bd (wc L2_ r_4) [] fun r_5=>.lf (some r_5) .ret _<|hh fun _=>l0
theorem aeR {l out_3}:Ax tP 46 uJ 5 iK (Cx l out_3) (Ve l out_3):=.tE mixed [e15,Rh] [6] 2
def aj2 (l:(List ae)) (kind state:Int) (c:(List ae)):St:=⟨[sv 0 (bk l),sv 1 (i64 kind),sv 2 (i64 state),sv 7 (.row 0 14 0 c.length),sv 8 (.c .nil),sv 9 (i64 0)],[(bP 0 70 c)],1⟩
abbrev y8 (l:(List ae)) (kind state:Int) (c:(List ae)) (r:(((List ab)))):Option ((List ab)):=match r with | out_2=>((Cx l out_2).opt)
def CP (l:(List ae)) (kind state:Int) (c:(List ae)):Option ((List ab)):=(fixL (ir l kind state c) (([]:List ab),0)).bind (y8 l kind state c)
theorem acS:List.drop 4 uJ = .block 0 (.loop (ah (ah (aQ uJ 4)))) :: List.drop 5 uJ:=by kernel_rfl
theorem ajh (l kind state c K):∀ r,W (y8 l kind state c r) (rE Tj K)→A5 l kind state c r (wK (bj 0 (aH (ar tP 46 (List.drop 5 uJ) K) K)))
  | out_2,h=>⟨(Ve l out_2),(.refl _),(aeR h)⟩
theorem abY {l kind state c K} (h:W (CP l kind state c) (rE Tj K)):ar tP 46 (List.drop 4 uJ) K (aj2 l kind state c) :=
  ar.at_ acS (ar.cons_loop (aC.weak (aC.ent (.trans (.nilrow 8 1 59 2 (aV aO aq []) (Nat.le_of_ble_eq_true rfl) rfl) (.cn [0,1,2,7,8,9])) (aC.loopF (x:=ah (ah (aQ uJ 4))) (f:=ir l kind state c) (emb:=CG l kind state c) (E:=A5 l kind state c) (ad1 l kind state c) (Tt l kind state c) (bT h (ajh l kind state c K))))))
def ajO (l:(List ae)) (kind state:Int):St:=⟨[sv 0 (bk l),sv 1 (i64 kind),sv 2 (i64 state)],[],0⟩
def Bp (l:(List ae)) (kind state:Int):PT _ (rE Tj) (dK tP 46 uJ 4 iK):=.lk jG l fun L1_=>.bd (iY L1_) [] fun r_6=>.lf (CP l kind state r_6) .normal _<|hh fun _ h=>l0 (abY h)
theorem ad5 {l kind state}:Ax tP 46 uJ 0 iK (Bp l kind state) (ajO l kind state):=.tD mixed [e44] [0,1,2,7,8,9,26,27,28,29,30,31,32] 4
def AD (l:(List ae)) (kind state:Int):Option ((List ab)):=(Bp l kind state).opt
def Ek:bU:=yL ii (aI .i64) (aI .i64) AD ([]:List ab) KH
theorem LT:bc tP 16 Ek:=sK Tryz.f16 (an Tryz.f16) [.tmp 6] 46 fun u0 u1 u2 y h=>@ad5 u0 u1 u2 _ (bn.2 ⟨y,h,(cz (.row 0 2 0 y.length) (⟨_,_,_,rfl,rfl,rfl,fun _ _=>rfl,fun _ i hi d hd=>eA _ d hd⟩))⟩)
abbrev Rz:FE tP:=⟨16, .pure Ek,LT⟩
noncomputable def amR:List Code:=aA (an Tryz.f17)
def HH (x_1:(List ab)):bK:=.own true 59 2 (x_1).length (aV aO aq x_1)
def aol (x_1:(List ab)):St:=⟨[sv 4 (.row 0 2 0 x_1.length)],[(bp 0 59 x_1)],1⟩
def alz (a b:(List ab)):St:=⟨[sv 0 (cF a),sv 1 (cF b)],[],0⟩
def yN (a b:(List ab)):PT _ (rE aol) iK:=.lk mP a fun L1_=>.lk mP b fun L2_=>.bd (iI L1_ L2_ 3) [] fun r_2=>.lf (some r_2) .ret _<|hh fun _=>l0
theorem abn {a b}:Ax tP 8 amR 0 iK (yN a b) (alz a b):=.tE mixed [e43] [4] 3
def wE (a b:(List ab)):Option ((List ab)):=(yN a b).opt
def zK:bU:=fH jc jc wE ([]:List ab) HH
theorem I6:bc tP 17 zK:=dA Tryz.f17 (an Tryz.f17) [.tmp 4] 8 fun u0 u1 y h=>@abn u0 u1 _ (bn.2 ⟨y,h,(cz (.row 0 2 0 y.length) (⟨_,_,_,rfl,rfl,rfl,fun _ _=>rfl,fun _ i hi d hd=>eA _ d hd⟩))⟩)
abbrev fD:FE tP:=⟨17, .pure zK,I6⟩
noncomputable def uw:List Code:=aA (an Tryz.f19)
noncomputable def Y7:List Code:=aA (ah (ah (aQ uw 4)))
def GJ (x_1:Bool):bK:=.data (bl x_1)
def Py (x_1:Bool):St:=⟨[sv 4 (bl x_1)],[],0⟩
def BQ (a b:(List ab)) (s:(Int)):St:=match s with | i_1=>⟨[sv 0 (cF a),sv 1 (cF b),sv 5 (i64 i_1)],[],0⟩
def afA (a b:(List ab)) (s:Unit):St:=match s with | ()=>⟨[sv 4 (bl false)],[],0⟩
def acU (a b:(List ab)) (s:Unit):St:=match s with | ()=>⟨[],[],0⟩
def BC (a b:(List ab)) (r:((Unit) ⊕ (Unit))) (K:KT):Prop:=match r with | (.inl s)=>K .ret (afA a b s) | (.inr s)=>K (.exit 0) (acU a b s)
def alm (a b:(List ab)) (i_1:Int):St:=BQ a b i_1
def gI (a b:(List ab)) (i_1:Int):PT _ (nE (BQ a b) (BC a b)) iK:=.bf (decide (i_1 < (a.length:Int))) (.g2 (0≤i_1) (i_1 < (a.length:Int))<|.g2 (0≤i_1) (i_1 < (b.length:Int))<|.bf (!(((a.getD (Int.toNat i_1) aq).From == (b.getD (Int.toNat i_1) aq).From)&&(((a.getD (Int.toNat i_1) aq).To == (b.getD (Int.toNat i_1) aq).To)&&true))) (.lf (some (Sum.inr (Sum.inl ()))) .ret _<|hh fun _=>lx [4] [] [sv 0 (cF a),sv 1 (cF b),sv 5 (i64 i_1)]) (.lf (some (Sum.inl (ai (i_1+1)))) .normal _<|hh fun _=>l0)) (.lf (some (Sum.inr (Sum.inr ()))) (.exit 0) (BQ a b i_1)<|hh fun _=>lg (.cn []))
theorem adP {a b i_1}:Ax tP 26 Y7 0 iK (gI a b i_1) (alm a b i_1):=.tE mixed [] [0,1,4,5] 4
def jb (a b:(List ab)) (s:(Int)):Option ((Int) ⊕ ((Unit) ⊕ (Unit))):=match s with | i_1=>(gI a b i_1).opt
theorem adK (a b s):Pp tP 26 (List.drop 0 Y7) (BQ a b s) (jb a b s) (cl (BQ a b) (BC a b)):=fun K h=>match s,h with | i_1,h=>(adP h)
theorem R1 (a b):∀ r J K,BC a b r K→BC a b r (aH J K)
  | (.inl s),_,_,h=>h
  | (.inr s),_,_,h=>h
def U6:St:=⟨[],[],0⟩
def w8:PT _ (rE Py) iK:=.lf (some true) .ret _<|hh fun _=>l0
theorem abk:Ax tP 26 uw 5 iK w8 U6:=.tE mixed [] [4] 2
def ajB (a b:(List ab)):St:=⟨[sv 0 (cF a),sv 1 (cF b),sv 5 (i64 0)],[],0⟩
abbrev tg (a b:(List ab)) (r:((Unit) ⊕ (Unit))):Option (Bool):=match r with | (.inl ())=>(some false) | (.inr ())=>w8.opt
def xd (a b:(List ab)):Option (Bool):=(fixL (jb a b) 0).bind (tg a b)
theorem afQ:List.drop 4 uw = .block 0 (.loop (ah (ah (aQ uw 4)))) :: List.drop 5 uw:=by kernel_rfl
theorem ah3 (a b K):∀ r,W (tg a b r) (rE Py K)→BC a b r (wK (bj 0 (aH (ar tP 26 (List.drop 5 uw) K) K)))
  | (.inl ()),h=>⟨(Py false),(.refl _),h⟩
  | (.inr ()),h=>⟨(U6),(.refl _),(abk h)⟩
theorem af4 {a b K} (h:W (xd a b) (rE Py K)):ar tP 26 (List.drop 4 uw) K (ajB a b) :=
  ar.at_ afQ (ar.cons_loop (aC.weak (aC.ent (.refl _) (aC.loopF (x:=ah (ah (aQ uw 4))) (f:=jb a b) (emb:=BQ a b) (E:=BC a b) (adK a b) (R1 a b) (bT h (ah3 a b K))))))
def alN (a b:(List ab)):St:=⟨[sv 0 (cF a),sv 1 (cF b)],[],0⟩
def kX (a b:(List ab)):PT _ (rE Py) (dK tP 26 uw 4 iK):=.bf ((a.length:Int) != (b.length:Int)) (.lf (some false) .ret _<|hh fun _=>lx [4] [] [sv 0 (cF a),sv 1 (cF b)]) (.lf (xd a b) .normal _<|hh fun _ h=>lz (af4 h) [0,1,5] [] [sv 4 (bl false)])
theorem aff {a b}:Ax tP 26 uw 0 iK (kX a b) (alN a b):=.tD mixed [] [0,1,4,5] 4
def jv (a b:(List ab)):Option (Bool):=(kX a b).opt
def yq:bU:=fH jc jc jv false GJ
theorem Hy:bc tP 19 yq:=dA Tryz.f19 (an Tryz.f19) [.tmp 4] 26 fun u0 u1 y h=>@aff u0 u1 _ (bn.2 ⟨y,h,(cz (bl y) (VLe.rfl' _))⟩)
abbrev Mv:FE tP:=⟨19, .pure yq,Hy⟩
noncomputable def uB:List Code:=aA (an Tryz.f20)
noncomputable def Zn:List Code:=aA (ah (ah (aQ uB 4)))
def Nv (x_1:Int):bK:=.data (i64 x_1)
def Si (x_1:Int):St:=⟨[sv 2 (i64 x_1)],[],0⟩
def BE (m:(List ab)) (s:(Int × Int)):St:=match s with | (n,i_1)=>⟨[sv 3 (i64 n),sv 4 (.row 0 2 0 m.length),sv 5 (i64 i_1)],[(bp 0 59 m)],1⟩
def act (m:(List ab)) (s:Int):St:=match s with | n_1=>⟨[sv 3 (i64 n_1)],[],0⟩
def CD (m:(List ab)) (r:((Int))) (K:KT):Prop:=match r with | s=>K (.exit 0) (act m s)
def ahz (n:Int) (m:(List ab)) (i_1:Int):St:=BE m (n,i_1)
def lm (n:Int) (m:(List ab)) (i_1:Int):PT _ (nE (BE m) (CD m)) iK:=.bf (decide (i_1 < (m.length:Int))) (.g2 (0≤i_1) (i_1 < (m.length:Int))<|.g2 (0≤i_1) (i_1 < (m.length:Int))<|.lf (some (Sum.inl ((ai (n+(ai ((m.getD (0+(Int.toNat i_1)) aq).To - (m.getD (0+(Int.toNat i_1)) aq).From)))),(ai (i_1+1))))) .normal _<|hh fun _=>l0) (.lf (some (Sum.inr n)) (.exit 0) (BE m (n,i_1))<|hh fun _=>lg (.cn [3]))
theorem acd {n m i_1}:Ax tP 28 Zn 0 iK (lm n m i_1) (ahz n m i_1):=.tE mixed [] [3,4,5] 4
def lE (m:(List ab)) (s:(Int × Int)):Option ((Int × Int) ⊕ ((Int))):=match s with | (n,i_1)=>(lm n m i_1).opt
theorem aeb (m s):Pp tP 28 (List.drop 0 Zn) (BE m s) (lE m s) (cl (BE m) (CD m)):=fun K h=>match s,h with | (n,i_1),h=>(acd h)
theorem Tz (m):∀ r J K,CD m r K→CD m r (aH J K)
  | s,_,_,h=>h
def Wc (n_2:Int):St:=⟨[sv 3 (i64 n_2)],[],0⟩
def FK (n_2:Int):PT _ (rE Si) iK:=.lf (some n_2) .ret _<|hh fun _=>l0
theorem aco {n_2}:Ax tP 28 uB 5 iK (FK n_2) (Wc n_2):=.tE mixed [] [2] 2
def aiP (m:(List ab)):St:=⟨[sv 3 (i64 0),sv 4 (.row 0 2 0 m.length),sv 5 (i64 0)],[(bp 0 59 m)],1⟩
abbrev BV (m:(List ab)) (r:((Int))):Option (Int):=match r with | n_1=>((FK n_1).opt)
def F6 (m:(List ab)):Option (Int):=(fixL (lE m) (0,0)).bind (BV m)
theorem agE:List.drop 4 uB = .block 0 (.loop (ah (ah (aQ uB 4)))) :: List.drop 5 uB:=by kernel_rfl
theorem alb (m K):∀ r,W (BV m r) (rE Si K)→CD m r (wK (bj 0 (aH (ar tP 28 (List.drop 5 uB) K) K)))
  | n_1,h=>⟨(Wc n_1),(.refl _),(aco h)⟩
theorem ad3 {m K} (h:W (F6 m) (rE Si K)):ar tP 28 (List.drop 4 uB) K (aiP m) :=
  ar.at_ agE (ar.cons_loop (aC.weak (aC.ent (.refl _) (aC.loopF (x:=ah (ah (aQ uB 4))) (f:=lE m) (emb:=BE m) (E:=CD m) (aeb m) (Tz m) (bT h (alb m K))))))
def akH (l:(List ab)):St:=⟨[sv 0 (cF l)],[],0⟩
def FC (l:(List ab)):PT _ (rE Si) (dK tP 28 uB 4 iK):=.lk mP l fun L1_=>.bd (ll L1_) [] fun r_2=>.lf (F6 r_2) .normal _<|hh fun _ h=>l0 (ad3 h)
theorem abG {l}:Ax tP 28 uB 0 iK (FC l) (akH l):=.tD mixed [e42] [3,4,5] 4
def zp (l:(List ab)):Option (Int):=(FC l).opt
def HW:bU:=dI jc zp (0:Int) Nv
theorem Qg:bc tP 20 HW:=cD Tryz.f20 (an Tryz.f20) [.tmp 2] 28 fun u0 y h=>@abG u0 _ (bn.2 ⟨y,h,(cz (i64 y) (VLe.rfl' _))⟩)
abbrev fM:FE tP:=⟨20, .pure HW,Qg⟩
end
end Go.Ax
