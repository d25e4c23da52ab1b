import Derived.Test.YtgamnldjlncdlaaGreatZF2
import Derived.Test.YtgamnldjlncdlaaGreatRows
/- Types of the program, and functions of it: printed by a program, checked by the kernel. -/
set_option linter.all false
set_option maxRecDepth 100000
namespace Go.Ax
open Go.Proofs Go.Proofs.YtgamnldjlncdlaaGreat
noncomputable section
attribute [local irreducible] PT.opt
noncomputable def mO:List Code:=aA (an Tryz.f109)
noncomputable def UC:List Code:=aA (ah (ah (aQ mO 11)))
def AO (x_1:(ByteArray × Bool)):bK:=.data (.tup [(aX x_1.1),(bl x_1.2)])
def JG (x_1:(ByteArray × Bool)):St:=⟨[sv 4 (aX x_1.1),sv 5 (bl x_1.2)],[],0⟩
def xM (dim:Int) (s_1:ByteArray) (rest:Int) (s:(ByteArray × Int × Int)):St:=match s with | (s_2,rest_1,k)=>⟨[sv 1 (i64 dim),sv 7 (aX s_2),sv 8 (i64 rest_1),sv 9 (i64 k)],[],0⟩
def Xn (dim:Int) (s_1:ByteArray) (rest:Int) (s:ByteArray):St:=match s with | s_3=>⟨[sv 1 (i64 dim),sv 7 (aX s_3)],[],0⟩
def xP (dim:Int) (s_1:ByteArray) (rest:Int) (r:((ByteArray))) (K:KT):Prop:=match r with | s=>K (.exit 0) (Xn dim s_1 rest s)
def ade (dim:Int) (s_2:ByteArray) (rest_1 k:Int):St:=xM dim (ak []) (0:Int) (s_2,rest_1,k)
def eF (dim:Int) (s_2:ByteArray) (rest_1 k:Int):PT _ (nE (xM dim (ak []) (0:Int)) (xP dim (ak []) (0:Int))) iK:=.bf (decide (0 < rest_1)) (.g1 (k≠0)<|.g1 (k≠0)<|.g3 (0≤(ai (Int.tdiv rest_1 k))) ((ai (Int.tdiv rest_1 k))≤(ai ((ai (Int.tdiv rest_1 k))+1))) ((ai ((ai (Int.tdiv rest_1 k))+1))≤((10:Nat):Int))<|.g1 (s_2.size+((ak [48,49,50,51,52,53,54,55,56,57]).extract (Int.toNat (ai (Int.tdiv rest_1 k))) (Int.toNat (ai ((ai (Int.tdiv rest_1 k))+1)))).size≤9223372036854775807)<|.g1 (k≠0)<|.tv ((10:Int)≠0) (by decide)<|.lf (some (Sum.inl ((s_2++((ak [48,49,50,51,52,53,54,55,56,57]).extract (Int.toNat (ai (Int.tdiv rest_1 k))) (Int.toNat (ai ((ai (Int.tdiv rest_1 k))+1))))),(Int.tmod rest_1 k),(ai (Int.tdiv k 10))))) .normal _<|hh fun _=>l0) (.lf (some (Sum.inr s_2)) (.exit 0) (xM dim (ak []) (0:Int) (s_2,rest_1,k))<|hh fun _=>lg (.cn [1,7]))
theorem Yz {dim s_2 rest_1 k}:Ax tP 81 UC 0 iK (eF dim s_2 rest_1 k) (ade dim s_2 rest_1 k):=.tE mixed [] [1,7,8,9] 4
def lM (dim:Int) (s_1:ByteArray) (rest:Int) (s:(ByteArray × Int × Int)):Option ((ByteArray × Int × Int) ⊕ ((ByteArray))):=match s with | (s_2,rest_1,k)=>(eF dim s_2 rest_1 k).opt
theorem Ys (dim s_1 rest s):Pp tP 81 (List.drop 0 UC) (xM dim s_1 rest s) (lM dim s_1 rest s) (cl (xM dim s_1 rest) (xP dim s_1 rest)):=fun K h=>match s,h with | (s_2,rest_1,k),h=>(Yz h)
theorem QR (dim s_1 rest):∀ r J K,xP dim s_1 rest r K→xP dim s_1 rest r (aH J K)
  | s,_,_,h=>h
def Rt (dim:Int) (s_4:ByteArray):St:=⟨[sv 1 (i64 dim),sv 7 (aX s_4)],[],0⟩
def iN (dim:Int) (s_4:ByteArray):PT _ (rE JG) iK:=.g2 (0≤(ai (dim - 2))) ((ai (dim - 2)) < ((3:Nat):Int))<|.g1 (s_4.size+(([(ak []),(ak [100]),(ak [109])]:List ByteArray).getD (0+(Int.toNat (ai (dim - 2)))) (ak [])).size≤9223372036854775807)<|.lf (some ((s_4++(([(ak []),(ak [100]),(ak [109])]:List ByteArray).getD (0+(Int.toNat (ai (dim - 2)))) (ak []))),true)) .ret _<|hh fun _=>l0
theorem WX {dim s_4}:Ax tP 81 mO 12 iK (iN dim s_4) (Rt dim s_4):=.tE mixed [] [4,5] 2
def adH (dim:Int) (s_1:ByteArray) (rest:Int):St:=⟨[sv 1 (i64 dim),sv 7 (aX s_1),sv 8 (i64 rest),sv 9 (i64 1000)],[],0⟩
abbrev pq (dim:Int) (s_1:ByteArray) (rest:Int) (r:((ByteArray))):Option ((ByteArray × Bool)):=match r with | s_3=>((iN dim s_3).opt)
def ln (dim:Int) (s_1:ByteArray) (rest:Int):Option ((ByteArray × Bool)):=(fixL (lM dim s_1 rest) (s_1,rest,1000)).bind (pq dim s_1 rest)
theorem YF:List.drop 11 mO = .block 0 (.loop (ah (ah (aQ mO 11)))) :: List.drop 12 mO:=by kernel_rfl
theorem agb (dim s_1 rest K):∀ r,W (pq dim s_1 rest r) (rE JG K)→xP dim s_1 rest r (wK (bj 0 (aH (ar tP 81 (List.drop 12 mO) K) K)))
  | s_3,h=>⟨(Rt dim s_3),(.refl _),(WX h)⟩
theorem XX {dim s_1 rest K} (h:W (ln dim s_1 rest) (rE JG K)):ar tP 81 (List.drop 11 mO) K (adH dim s_1 rest) :=
  ar.at_ YF (ar.cons_loop (aC.weak (aC.ent (.refl _) (aC.loopF (x:=ah (ah (aQ mO 11))) (f:=lM dim s_1 rest) (emb:=xM dim s_1 rest) (E:=xP dim s_1 rest) (Ys dim s_1 rest) (QR dim s_1 rest) (bT h (agb dim s_1 rest K))))))
def Z5 (dim:Int) (s_1:ByteArray) (rest:Int):St:=⟨[sv 1 (i64 dim),sv 7 (aX s_1),sv 8 (i64 rest)],[],0⟩
def eD (dim:Int) (s_1:ByteArray) (rest:Int):PT _ (rE JG) (dK tP 81 mO 11 iK):=.lf (ln dim s_1 rest) .normal _<|hh fun _ h=>l0 (XX h)
theorem Of {dim s_1 rest}:Ax tP 81 mO 10 iK (eD dim s_1 rest) (Z5 dim s_1 rest):=.tD mixed [] [1,7,8,9] 1
def Z1 (value:aF) (dim:Int):St:=⟨[sv 0 (.ag (mj value)),sv 1 (i64 dim)],[],0⟩
def lI (value:aF) (dim:Int):PT _ (rE JG) (dK tP 81 mO 10 iK):=.bd (eT value) false fun r_3=>.g1 (((!(bif (!r_3) then true else (decide (value.Num < 0))))&&true) = true→value.Den≠0)<|.bf (bif (bif (bif (bif (!r_3) then true else (decide (value.Num < 0))) then true else ((Int.tmod 10000 value.Den) != 0)) then true else (decide (dim < 2))) then true else (decide (4 < dim))) (.lf (some ((ak []),false)) .ret _<|hh fun _=>lx [4,5] [] [sv 1 (i64 dim)]) (.g1 (value.Den≠0)<|.bf (decide (999999999 < (ai (Int.tdiv value.Num value.Den)))) (.lf (some ((ak []),false)) .ret _<|hh fun _=>lx [4,5] [] [sv 1 (i64 dim)]) (.bd (jS (aF.mk (ai (Int.tdiv value.Num value.Den)) 1)) (ak []) fun r_4=>.g1 (value.Den≠0)<|.bf (decide (0 < (ai ((ai (value.Num - (ai ((ai (Int.tdiv value.Num value.Den))*value.Den))))*(ai (Int.tdiv 10000 value.Den)))))) (.g1 (r_4.size+(ak [46]).size≤9223372036854775807)<|.lf ((eD dim (r_4++(ak [46])) (ai ((ai (value.Num - (ai ((ai (Int.tdiv value.Num value.Den))*value.Den))))*(ai (Int.tdiv 10000 value.Den))))).opt) .normal _<|hh fun _ h=>lz (Of h) [1,7,8] [] [sv 4 (aX (ak [])),sv 5 (bl false)]) (.lf ((eD dim r_4 (ai ((ai (value.Num - (ai ((ai (Int.tdiv value.Num value.Den))*value.Den))))*(ai (Int.tdiv 10000 value.Den))))).opt) .normal _<|hh fun _ h=>lz (Of h) [1,7,8] [] [sv 4 (aX (ak [])),sv 5 (bl false)])))
theorem Xl {value dim}:Ax tP 81 mO 0 iK (lI value dim) (Z1 value dim):=.tD mixed [ak2,anT] [1,4,5,7,8] 10
def kp (value:aF) (dim:Int):Option ((ByteArray × Bool)):=(lI value dim).opt
def sD:bU:=fH Du (aI .i64) kp ((ak []),false) AO
theorem B8:bc tP 109 sD:=dA Tryz.f109 (an Tryz.f109) [.tmp 4, .tmp 5] 81 fun u0 u1 y h=>@Xl u0 u1 _ (bn.2 ⟨y,h,(cz (.tup [(aX y.1),(bl y.2)]) (VLe.tup (VLes.cons (VLe.rfl' _) (VLes.cons (VLe.rfl' _) (VLes.nil)))))⟩)
abbrev anS:FE tP:=⟨109, .pure sD,B8⟩
noncomputable def akd:List Code:=aA (an Tryz.f145)
def KP (x_1:Bool):bK:=.data (bl x_1)
def ane (x_1:Bool):St:=⟨[sv 2 (bl x_1)],[],0⟩
def afg (c:Int):St:=⟨[sv 0 (.c (.lit (.int .u8 c)))],[],0⟩
def CI (c:Int):PT _ (rE ane) iK:=.lf (some (bif (decide (97≤c)) then (decide (c≤122)) else false)) .ret _<|hh fun _=>l0
theorem YZ {c}:Ax tP 9 akd 0 iK (CI c) (afg c):=.tE mixed [] [2] 3
def IB (c:Int):Option (Bool):=(CI c).opt
def Eu:bU:=dI (aI .u8) IB false KP
theorem Lm:bc tP 145 Eu:=cD Tryz.f145 (an Tryz.f145) [.tmp 2] 9 fun u0 y h=>@YZ u0 _ (bn.2 ⟨y,h,(cz (bl y) (VLe.rfl' _))⟩)
abbrev an7:FE tP:=⟨145, .pure Eu,Lm⟩
noncomputable def aiR:List Code:=aA (an Tryz.f146)
def LP (x_1:Bool):bK:=.data (bl x_1)
def amq (x_1:Bool):St:=⟨[sv 2 (bl x_1)],[],0⟩
def af8 (c:Int):St:=⟨[sv 0 (.c (.lit (.int .u8 c)))],[],0⟩
def Ey (c:Int):PT _ (rE amq) iK:=.lf (some (bif (decide (48≤c)) then (decide (c≤57)) else false)) .ret _<|hh fun _=>l0
theorem XK {c}:Ax tP 9 aiR 0 iK (Ey c) (af8 c):=.tE mixed [] [2] 3
def rI (c:Int):Option (Bool):=(Ey c).opt
def FD:bU:=dI (aI .u8) rI false LP
theorem NR:bc tP 146 FD:=cD Tryz.f146 (an Tryz.f146) [.tmp 2] 9 fun u0 y h=>@XK u0 _ (bn.2 ⟨y,h,(cz (bl y) (VLe.rfl' _))⟩)
abbrev aor:FE tP:=⟨146, .pure FD,NR⟩
noncomputable def pO:List Code:=aA (an Tryz.f136)
noncomputable def UL:List Code:=aA (ah (ah (aQ pO 2)))
def Kv (x_1:Bool):bK:=.data (bl x_1)
def KD (x_1:Bool):St:=⟨[sv 2 (bl x_1)],[],0⟩
def xQ (s_1:ByteArray) (s:(Int)):St:=match s with | i_1=>⟨[sv 0 (aX s_1),sv 3 (i64 i_1)],[],0⟩
def WV (s_1:ByteArray) (s:Unit):St:=match s with | ()=>⟨[sv 2 (bl false)],[],0⟩
def W0 (s_1:ByteArray) (s:Unit):St:=match s with | ()=>⟨[sv 0 (aX s_1)],[],0⟩
def xK (s_1:ByteArray) (r:((Unit) ⊕ (Unit))) (K:KT):Prop:=match r with | (.inl s)=>K .ret (WV s_1 s) | (.inr s)=>K (.exit 0) (W0 s_1 s)
def afk (s_1:ByteArray) (i_1:Int):St:=xQ s_1 i_1
def oQ (s_1:ByteArray) (i_1:Int):PT _ (nE (xQ s_1) (xK s_1)) iK:=.bf (decide (i_1 < (s_1.size:Int))) (.g2 (0≤i_1) (i_1 < (s_1.size:Int))<|.bd (IB ((s_1.data.getD (Int.toNat i_1) 0).toNat:Int)) false fun r_2=>.g1 (((!(i_1 == 0))&&((!r_2)&&true)) = true→0≤i_1)<|.g1 (((!(i_1 == 0))&&((!r_2)&&true)) = true→i_1 < (s_1.size:Int))<|.g1 (((!(i_1 == 0))&&((!r_2)&&true)) = true→(rI ((s_1.data.getD (Int.toNat i_1) 0).toNat:Int)).isSome = true)<|.g1 (((!((rI ((s_1.data.getD (Int.toNat i_1) 0).toNat:Int)).getD false))&&((!(i_1 == 0))&&((!r_2)&&true))) = true→0≤i_1)<|.g1 (((!((rI ((s_1.data.getD (Int.toNat i_1) 0).toNat:Int)).getD false))&&((!(i_1 == 0))&&((!r_2)&&true))) = true→i_1 < (s_1.size:Int))<|.bf (bif (!r_2) then (bif (i_1 == 0) then true else (bif (!((rI ((s_1.data.getD (Int.toNat i_1) 0).toNat:Int)).getD false)) then (((s_1.data.getD (Int.toNat i_1) 0).toNat:Int) != 95) else false)) else false) (.lf (some (Sum.inr (Sum.inl ()))) .ret _<|hh fun _=>lx [2] [16,17,18,19,20,21,22,23,24,25,26,27,28,29,30] [sv 0 (aX s_1),sv 3 (i64 i_1)]) (.lf (some (Sum.inl (ai (i_1+1)))) .normal _<|hh fun _=>lx [0,3] [16,17,18,19,20,21,22,23,24,25,26,27,28,29,30] [])) (.lf (some (Sum.inr (Sum.inr ()))) (.exit 0) (xQ s_1 i_1)<|hh fun _=>lg (.cn [0]))
theorem YI {s_1 i_1}:Ax tP 40 UL 0 iK (oQ s_1 i_1) (afk s_1 i_1):=.tE mixed [an7,aor] [0,2,3,16,17,18,19,20,21,22,23,24,25,26,27,28,29,30,36,37,38] 4
def tR (s_1:ByteArray) (s:(Int)):Option ((Int) ⊕ ((Unit) ⊕ (Unit))):=match s with | i_1=>(oQ s_1 i_1).opt
theorem X1 (s_1 s):Pp tP 40 (List.drop 0 UL) (xQ s_1 s) (tR s_1 s) (cl (xQ s_1) (xK s_1)):=fun K h=>match s,h with | i_1,h=>(YI h)
theorem QS (s_1):∀ r J K,xK s_1 r K→xK s_1 r (aH J K)
  | (.inl s),_,_,h=>h
  | (.inr s),_,_,h=>h
def Re (s_1:ByteArray):St:=⟨[sv 0 (aX s_1)],[],0⟩
def BP (s_1:ByteArray):PT _ (rE KD) iK:=.lf (some (bif (decide (1≤(s_1.size:Int))) then (decide ((s_1.size:Int)≤12)) else false)) .ret _<|hh fun _=>l0
theorem Xm {s_1}:Ax tP 40 pO 3 iK (BP s_1) (Re s_1):=.tE mixed [] [2] 2
def aey (s_1:ByteArray):St:=⟨[sv 0 (aX s_1),sv 3 (i64 0)],[],0⟩
abbrev yb (s_1:ByteArray) (r:((Unit) ⊕ (Unit))):Option (Bool):=match r with | (.inl ())=>(some false) | (.inr ())=>((BP s_1).opt)
def tp (s_1:ByteArray):Option (Bool):=(fixL (tR s_1) 0).bind (yb s_1)
theorem XC:List.drop 2 pO = .block 0 (.loop (ah (ah (aQ pO 2)))) :: List.drop 3 pO:=by kernel_rfl
theorem aaS (s_1 K):∀ r,W (yb s_1 r) (rE KD K)→xK s_1 r (wK (bj 0 (aH (ar tP 40 (List.drop 3 pO) K) K)))
  | (.inl ()),h=>⟨(KD false),(.refl _),h⟩
  | (.inr ()),h=>⟨(Re s_1),(.refl _),(Xm h)⟩
theorem YV {s_1 K} (h:W (tp s_1) (rE KD K)):ar tP 40 (List.drop 2 pO) K (aey s_1) :=
  ar.at_ XC (ar.cons_loop (aC.weak (aC.ent (.refl _) (aC.loopF (x:=ah (ah (aQ pO 2))) (f:=tR s_1) (emb:=xQ s_1) (E:=xK s_1) (X1 s_1) (QS s_1) (bT h (aaS s_1 K))))))
def abv (s_1:ByteArray):St:=⟨[sv 0 (aX s_1)],[],0⟩
def tw (s_1:ByteArray):PT _ (rE KD) (dK tP 40 pO 2 iK):=.lf (tp s_1) .normal _<|hh fun _ h=>l0 (YV h)
theorem XM {s_1}:Ax tP 40 pO 0 iK (tw s_1) (abv s_1):=.tD mixed [] [0,3,16,17,18,19,20,21,22,23,24,25,26,27,28,29,30,36,37,38] 2
def uy (s_1:ByteArray):Option (Bool):=(tw s_1).opt
def Er:bU:=dI aS uy false Kv
theorem LG:bc tP 136 Er:=cD Tryz.f136 (an Tryz.f136) [.tmp 2] 40 fun u0 y h=>@XM u0 _ (bn.2 ⟨y,h,(cz (bl y) (VLe.rfl' _))⟩)
abbrev aop:FE tP:=⟨136, .pure Er,LG⟩
noncomputable def PC:List Code:=aA (an Tryz.f137)
def Jc (x_1:Bool):bK:=.data (bl x_1)
def ZE (x_1:Bool):St:=⟨[sv 2 (bl x_1)],[],0⟩
def ac6:St:=⟨[],[],0⟩
def bI:PT _ (rE ZE) iK:=.lf (some false) .ret _<|hh fun _=>l0
theorem dB:Ax tP 27 PC 3 iK bI ac6:=.tE mixed [] [2] 2
def agf (s_1:ByteArray):St:=⟨[sv 0 (aX s_1)],[],0⟩
def sS (s_1:ByteArray):PT _ (rE ZE) (dK tP 27 PC 3 iK):=.bf (s_1.toList == (ak [97,110,100]).toList) (.bf (s_1.toList == (ak [97,110,100]).toList) (.lf (some true) .ret _<|hh fun _=>l0) (.lf bI.opt .normal _<|hh fun _ h=>lz (dB h) [] [] [sv 2 (bl false)])) (.bf (s_1.toList == (ak [98,101,115,116]).toList) (.bf (s_1.toList == (ak [98,101,115,116]).toList) (.lf (some true) .ret _<|hh fun _=>l0) (.lf bI.opt .normal _<|hh fun _ h=>lz (dB h) [] [] [sv 2 (bl false)])) (.bf (s_1.toList == (ak [98,121]).toList) (.bf (s_1.toList == (ak [98,121]).toList) (.lf (some true) .ret _<|hh fun _=>l0) (.lf bI.opt .normal _<|hh fun _ h=>lz (dB h) [] [] [sv 2 (bl false)])) (.bf (s_1.toList == (ak [99,114,101,100,105,116]).toList) (.bf (s_1.toList == (ak [99,114,101,100,105,116]).toList) (.lf (some true) .ret _<|hh fun _=>l0) (.lf bI.opt .normal _<|hh fun _ h=>lz (dB h) [] [] [sv 2 (bl false)])) (.bf (s_1.toList == (ak [99,117,114,114,101,110,99,121]).toList) (.bf (s_1.toList == (ak [99,117,114,114,101,110,99,121]).toList) (.lf (some true) .ret _<|hh fun _=>l0) (.lf bI.opt .normal _<|hh fun _ h=>lz (dB h) [] [] [sv 2 (bl false)])) (.bf (s_1.toList == (ak [101,108,115,101]).toList) (.bf (s_1.toList == (ak [101,108,115,101]).toList) (.lf (some true) .ret _<|hh fun _=>l0) (.lf bI.opt .normal _<|hh fun _ h=>lz (dB h) [] [] [sv 2 (bl false)])) (.bf (s_1.toList == (ak [102,108,111,111,114]).toList) (.bf (s_1.toList == (ak [102,108,111,111,114]).toList) (.lf (some true) .ret _<|hh fun _=>l0) (.lf bI.opt .normal _<|hh fun _ h=>lz (dB h) [] [] [sv 2 (bl false)])) (.bf (s_1.toList == (ak [102,114,111,109]).toList) (.bf (s_1.toList == (ak [102,114,111,109]).toList) (.lf (some true) .ret _<|hh fun _=>l0) (.lf bI.opt .normal _<|hh fun _ h=>lz (dB h) [] [] [sv 2 (bl false)])) (.bf (s_1.toList == (ak [103,114,97,110,116]).toList) (.bf (s_1.toList == (ak [103,114,97,110,116]).toList) (.lf (some true) .ret _<|hh fun _=>l0) (.lf bI.opt .normal _<|hh fun _ h=>lz (dB h) [] [] [sv 2 (bl false)])) (.bf (s_1.toList == (ak [105,102]).toList) (.bf (s_1.toList == (ak [105,102]).toList) (.lf (some true) .ret _<|hh fun _=>l0) (.lf bI.opt .normal _<|hh fun _ h=>lz (dB h) [] [] [sv 2 (bl false)])) (.bf (s_1.toList == (ak [105,110,100,101,120]).toList) (.bf (s_1.toList == (ak [105,110,100,101,120]).toList) (.lf (some true) .ret _<|hh fun _=>l0) (.lf bI.opt .normal _<|hh fun _ h=>lz (dB h) [] [] [sv 2 (bl false)])) (.bf (s_1.toList == (ak [108,101,116]).toList) (.bf (s_1.toList == (ak [108,101,116]).toList) (.lf (some true) .ret _<|hh fun _=>l0) (.lf bI.opt .normal _<|hh fun _ h=>lz (dB h) [] [] [sv 2 (bl false)])) (.bf (s_1.toList == (ak [108,105,109,105,116]).toList) (.bf (s_1.toList == (ak [108,105,109,105,116]).toList) (.lf (some true) .ret _<|hh fun _=>l0) (.lf bI.opt .normal _<|hh fun _ h=>lz (dB h) [] [] [sv 2 (bl false)])) (.bf (s_1.toList == (ak [109,97,120]).toList) (.bf (s_1.toList == (ak [109,97,120]).toList) (.lf (some true) .ret _<|hh fun _=>l0) (.lf bI.opt .normal _<|hh fun _ h=>lz (dB h) [] [] [sv 2 (bl false)])) (.bf (s_1.toList == (ak [109,105,110]).toList) (.bf (s_1.toList == (ak [109,105,110]).toList) (.lf (some true) .ret _<|hh fun _=>l0) (.lf bI.opt .normal _<|hh fun _ h=>lz (dB h) [] [] [sv 2 (bl false)])) (.bf (s_1.toList == (ak [110,111,116]).toList) (.bf (s_1.toList == (ak [110,111,116]).toList) (.lf (some true) .ret _<|hh fun _=>l0) (.lf bI.opt .normal _<|hh fun _ h=>lz (dB h) [] [] [sv 2 (bl false)])) (.bf (s_1.toList == (ak [111,114]).toList) (.bf (s_1.toList == (ak [111,114]).toList) (.lf (some true) .ret _<|hh fun _=>l0) (.lf bI.opt .normal _<|hh fun _ h=>lz (dB h) [] [] [sv 2 (bl false)])) (.bf (s_1.toList == (ak [112,97,121]).toList) (.bf (s_1.toList == (ak [112,97,121]).toList) (.lf (some true) .ret _<|hh fun _=>l0) (.lf bI.opt .normal _<|hh fun _ h=>lz (dB h) [] [] [sv 2 (bl false)])) (.bf (s_1.toList == (ak [114,101,100,117,99,101]).toList) (.bf (s_1.toList == (ak [114,101,100,117,99,101]).toList) (.lf (some true) .ret _<|hh fun _=>l0) (.lf bI.opt .normal _<|hh fun _ h=>lz (dB h) [] [] [sv 2 (bl false)])) (.bf (s_1.toList == (ak [114,111,117,110,100]).toList) (.bf (s_1.toList == (ak [114,111,117,110,100]).toList) (.lf (some true) .ret _<|hh fun _=>l0) (.lf bI.opt .normal _<|hh fun _ h=>lz (dB h) [] [] [sv 2 (bl false)])) (.bf (s_1.toList == (ak [115,116,97,116,117,116,101]).toList) (.bf (s_1.toList == (ak [115,116,97,116,117,116,101]).toList) (.lf (some true) .ret _<|hh fun _=>l0) (.lf bI.opt .normal _<|hh fun _ h=>lz (dB h) [] [] [sv 2 (bl false)])) (.bf (s_1.toList == (ak [116,104,101,110]).toList) (.lf (some true) .ret _<|hh fun _=>l0) (.lf bI.opt .normal _<|hh fun _ h=>lz (dB h) [] [] [sv 2 (bl false)]))))))))))))))))))))))
theorem Xu {s_1}:Ax tP 27 PC 0 iK (sS s_1) (agf s_1):=.tD mixed [] [2] 3
def ov (s_1:ByteArray):Option (Bool):=(sS s_1).opt
def BL:bU:=dI aS ov false Jc
theorem KZ:bc tP 137 BL:=cD Tryz.f137 (an Tryz.f137) [.tmp 2] 27 fun u0 y h=>@Xu u0 _ (bn.2 ⟨y,h,(cz (bl y) (VLe.rfl' _))⟩)
abbrev aox:FE tP:=⟨137, .pure BL,KZ⟩
noncomputable def ak3:List Code:=aA (an Tryz.f110)
def Kp (x_1:Bool):bK:=.data (bl x_1)
def amU (x_1:Bool):St:=⟨[sv 2 (bl x_1)],[],0⟩
def adw (s_1:ByteArray):St:=⟨[sv 0 (aX s_1)],[],0⟩
def tF (s_1:ByteArray):PT _ (rE amU) iK:=.bd (uy s_1) false fun r_2=>.g1 ((r_2&&true) = true→(ov s_1).isSome = true)<|.lf (some (bif r_2 then (!((ov s_1).getD false)) else false)) .ret _<|hh fun _=>l0
theorem Xj {s_1}:Ax tP 10 ak3 0 iK (tF s_1) (adw s_1):=.tE mixed [aop,aox] [2] 3
def mV (s_1:ByteArray):Option (Bool):=(tF s_1).opt
def E6:bU:=dI aS mV false Kp
theorem Lt:bc tP 110 E6:=cD Tryz.f110 (an Tryz.f110) [.tmp 2] 10 fun u0 y h=>@Xj u0 _ (bn.2 ⟨y,h,(cz (bl y) (VLe.rfl' _))⟩)
abbrev aoC:FE tP:=⟨110, .pure E6,Lt⟩
def mR:List V→Option ((ay) × List Prop)
  | [(.agg [(.c (.lit (.int .i64 a1))),(.c (.lit (.int .i64 a2))),(.c (.lit (.int .i64 a3))),(.c (.lit (.int .i64 a4))),(.c (.lit (.string a5))),(.c (.sl k6 n7 e8))])]=>bif true then some (((ay.mk a1 (aF.mk a2 a3) a4 a5 (lst dGExpr n7 e8))),[aJ ee dGExpr 6 k6 n7 e8]) else none
  | _=>none
def kj (x_1:Bool):bK:=.data (bl x_1)
class Pz where
  F:ay→Option (Bool)
  ok:bc tP 87 (pL mR kj false (fun a=>F a))
section
variable [Pz]
abbrev LN:=(pL mR kj false (fun a=>Pz.F a))
abbrev amK:FE tP:=⟨87, .pure LN,Pz.ok⟩
noncomputable def qv:List Code:=aA (an Tryz.f87)
noncomputable def Zw:List Code:=aA (ah (ah (aQ qv 7)))
def I9 (x_1:Bool):St:=⟨[sv 2 (bl x_1)],[],0⟩
theorem aiE (x_1:Bool):eC tP [.tmp 2] (dN (kj x_1)) .ret (I9 x_1) :=
  eC.intro (v:=(bl x_1)) (by kernel_rfl) ((VLe.rfl' _))
def Ba (zero:Bool) (e_1:ay) (s:(Int)):St:=match s with | i_1=>⟨[sv 1 (.ptr 0 6 0 0),sv 3 (bl zero),sv 6 (i64 i_1)],[(0,some (.box [(i64 e_1.Op),(i64 e_1.Value.Num),(i64 e_1.Value.Den),(i64 e_1.Dim),(aX e_1.Name),(bm e_1.Args)]))],1⟩
def aaO (zero:Bool) (e_1:ay) (s:Unit):St:=match s with | ()=>⟨[sv 2 (bl false)],[],0⟩
def ab3 (zero:Bool) (e_1:ay) (s:Unit):St:=match s with | ()=>⟨[sv 3 (bl zero)],[],0⟩
def Cv (zero:Bool) (e_1:ay) (r:((Unit) ⊕ (Unit))) (K:KT):Prop:=match r with | (.inl s)=>K .ret (aaO zero e_1 s) | (.inr s)=>K (.exit 1) (ab3 zero e_1 s)
def aix (zero:Bool) (i_1:Int) (e_1:ay):St:=Ba zero e_1 i_1
def l4 (zero:Bool) (i_1:Int) (e_1:ay):PT _ (nE (Ba zero e_1) (Cv zero e_1)) iK:=.bf (decide (i_1 < (e_1.Args.length:Int))) (.g2 (0≤i_1) (i_1 < (e_1.Args.length:Int))<|.tv (aJ ee dGExpr 6 6 (((e_1.Args.getD (Int.toNat i_1) aM).Args).length) (aGExpr ((e_1.Args.getD (Int.toNat i_1) aM).Args))) (ac.ok eY (ac.aGExpr ((e_1.Args.getD (Int.toNat i_1) aM).Args)))<|.ls (a:=lst dGExpr (((e_1.Args.getD (Int.toNat i_1) aM).Args).length) (aGExpr ((e_1.Args.getD (Int.toNat i_1) aM).Args))) (lr eY (ac.aGExpr ((e_1.Args.getD (Int.toNat i_1) aM).Args))) fun L1_=>.bd (Pz.F (ay.mk (e_1.Args.getD (Int.toNat i_1) aM).Op (aF.mk ((e_1.Args.getD (Int.toNat i_1) aM).Value).Num ((e_1.Args.getD (Int.toNat i_1) aM).Value).Den) (e_1.Args.getD (Int.toNat i_1) aM).Dim (e_1.Args.getD (Int.toNat i_1) aM).Name L1_)) false fun r_4=>.bf (!r_4) (.lf (some (Sum.inr (Sum.inl ()))) .ret (⟨[sv 1 (.ptr 0 6 0 0),sv 2 (bl false),sv 3 (bl zero),sv 6 (i64 i_1)],[(0,some (.box [(i64 e_1.Op),(i64 e_1.Value.Num),(i64 e_1.Value.Den),(i64 e_1.Dim),(aX e_1.Name),(bm e_1.Args)]))],1⟩)<|hh fun _=>lg (.cn [2])) (.lf (some (Sum.inl (ai (i_1+1)))) .normal _<|hh fun _=>l0)) (.lf (some (Sum.inr (Sum.inr ()))) (.exit 1) (Ba zero e_1 i_1)<|hh fun _=>lg (.cn [3]))
theorem abD {zero i_1 e_1}:Ax tP 105 Zw 0 iK (l4 zero i_1 e_1) (aix zero i_1 e_1):=.tE mixed [amK] [1,2,3,6] 4
def qA (zero:Bool) (e_1:ay) (s:(Int)):Option ((Int) ⊕ ((Unit) ⊕ (Unit))):=match s with | i_1=>(l4 zero i_1 e_1).opt
theorem agw (zero e_1 s):Pp tP 105 (List.drop 0 Zw) (Ba zero e_1 s) (qA zero e_1 s) (cl (Ba zero e_1) (Cv zero e_1)):=fun K h=>match s,h with | i_1,h=>(abD h)
theorem Sp (zero e_1):∀ r J K,Cv zero e_1 r K→Cv zero e_1 r (aH J K)
  | (.inl s),_,_,h=>h
  | (.inr s),_,_,h=>h
def V8 (zero:Bool):St:=⟨[sv 3 (bl zero)],[],0⟩
def yh (zero:Bool):PT _ (rE I9) iK:=.lf (some zero) .ret _<|hh fun _=>l0
theorem ae2 {zero}:Ax tP 105 qv 8 iK (yh zero) (V8 zero):=.tE mixed [] [2] 2
def aju (zero:Bool) (e_1:ay):St:=⟨[sv 1 (.ptr 0 6 0 0),sv 3 (bl zero),sv 6 (i64 0)],[(0,some (.box [(i64 e_1.Op),(i64 e_1.Value.Num),(i64 e_1.Value.Den),(i64 e_1.Dim),(aX e_1.Name),(bm e_1.Args)]))],1⟩
abbrev vN (zero:Bool) (e_1:ay) (r:((Unit) ⊕ (Unit))):Option (Bool):=match r with | (.inl ())=>(some false) | (.inr ())=>((yh zero).opt)
def qB (zero:Bool) (e_1:ay):Option (Bool):=(fixL (qA zero e_1) 0).bind (vN zero e_1)
theorem aag:List.drop 7 qv = .block 1 (.loop (ah (ah (aQ qv 7)))) :: List.drop 8 qv:=by kernel_rfl
theorem ah6 (zero e_1 K):∀ r,W (vN zero e_1 r) (rE I9 K)→Cv zero e_1 r (wK (bj 1 (aH (ar tP 105 (List.drop 8 qv) K) K)))
  | (.inl ()),h=>⟨(I9 false),(.refl _),h⟩
  | (.inr ()),h=>⟨(V8 zero),(.refl _),(ae2 h)⟩
theorem aaA {zero e_1 K} (h:W (qB zero e_1) (rE I9 K)):ar tP 105 (List.drop 7 qv) K (aju zero e_1) :=
  ar.at_ aag (ar.cons_loop (aC.weak (aC.ent (.refl _) (aC.loopF (x:=ah (ah (aQ qv 7))) (f:=qA zero e_1) (emb:=Ba zero e_1) (E:=Cv zero e_1) (agw zero e_1) (Sp zero e_1) (bT h (ah6 zero e_1 K))))))
def ak7 (zero:Bool) (e_1:ay):St:=⟨[sv 1 (.ptr 0 6 0 0),sv 3 (bl zero),sv 29 (i64 e_1.Op)],[(0,some (.box [(i64 e_1.Op),(i64 e_1.Value.Num),(i64 e_1.Value.Den),(i64 e_1.Dim),(aX e_1.Name),(bm e_1.Args)]))],1⟩
def qQ (zero:Bool) (e_1:ay):PT _ (rE I9) (dK tP 105 qv 7 iK):=.bf (e_1.Op == 1) (.bd (kp e_1.Value e_1.Dim) ((ak []),false) fun r_5=>.lf (some (bif r_5.2 then (e_1.Name.toList == (ak []).toList) else false)) .ret (⟨[sv 1 (.ptr 0 6 0 0),sv 2 (bl (bif r_5.2 then (e_1.Name.toList == (ak []).toList) else false)),sv 3 (bl zero)],[(0,some (.box [(i64 e_1.Op),(i64 e_1.Value.Num),(i64 e_1.Value.Den),(i64 e_1.Dim),(aX e_1.Name),(bm e_1.Args)]))],1⟩)<|hh fun _=>lg (.cn [2])) (.bf (e_1.Op == 2) (.g1 (((bif ((e_1.Value.Num == 0)&&((e_1.Value.Den == 0)&&true)) then (e_1.Dim == 0) else false)&&true) = true→(mV e_1.Name).isSome = true)<|.lf (some (bif (bif ((e_1.Value.Num == 0)&&((e_1.Value.Den == 0)&&true)) then (e_1.Dim == 0) else false) then ((mV e_1.Name).getD false) else false)) .ret (⟨[sv 1 (.ptr 0 6 0 0),sv 2 (bl (bif (bif ((e_1.Value.Num == 0)&&((e_1.Value.Den == 0)&&true)) then (e_1.Dim == 0) else false) then ((mV e_1.Name).getD false) else false)),sv 3 (bl zero)],[(0,some (.box [(i64 e_1.Op),(i64 e_1.Value.Num),(i64 e_1.Value.Den),(i64 e_1.Dim),(aX e_1.Name),(bm e_1.Args)]))],1⟩)<|hh fun _=>lg (.cn [2])) (.bf (e_1.Op == 3) (.lf (some (bif (bif (bif (bif (e_1.Dim == 0) then (e_1.Name.toList == (ak []).toList) else false) then (e_1.Value.Den == 1) else false) then (decide (1≤e_1.Value.Num)) else false) then (decide (e_1.Value.Num≤45)) else false)) .ret (⟨[sv 1 (.ptr 0 6 0 0),sv 2 (bl (bif (bif (bif (bif (e_1.Dim == 0) then (e_1.Name.toList == (ak []).toList) else false) then (e_1.Value.Den == 1) else false) then (decide (1≤e_1.Value.Num)) else false) then (decide (e_1.Value.Num≤45)) else false)),sv 3 (bl zero)],[(0,some (.box [(i64 e_1.Op),(i64 e_1.Value.Num),(i64 e_1.Value.Den),(i64 e_1.Dim),(aX e_1.Name),(bm e_1.Args)]))],1⟩)<|hh fun _=>lg (.cn [2])) (.lf (qB zero e_1) .normal _<|hh fun _ h=>l0 (aaA h))))
theorem aaB {zero e_1}:Ax tP 105 qv 5 iK (qQ zero e_1) (ak7 zero e_1):=.tD mixed [anS,aoC] [1,2,3,6] 2
def aj4 (e_1:ay):St:=⟨[sv 0 (.agg [(i64 e_1.Op),(i64 e_1.Value.Num),(i64 e_1.Value.Den),(i64 e_1.Dim),(aX e_1.Name),(bm e_1.Args)])],[],0⟩
def qC (e_1:ay):PT _ (rE I9) (dK tP 105 qv 5 iK):=.bd (zA e_1.Op) 0 fun r_6=>.bf ((e_1.Args.length:Int) != r_6) (.lf (some false) .ret (⟨[sv 1 (.ptr 0 6 0 0),sv 2 (bl false)],[(0,some (.box [(i64 e_1.Op),(i64 e_1.Value.Num),(i64 e_1.Value.Den),(i64 e_1.Dim),(aX e_1.Name),(bm e_1.Args)]))],1⟩)<|hh fun _=>lg (.cn [2])) (.lf ((qQ (bif (bif ((e_1.Value.Num == 0)&&((e_1.Value.Den == 0)&&true)) then (e_1.Dim == 0) else false) then (e_1.Name.toList == (ak []).toList) else false) e_1).opt) .normal _<|hh fun _ h=>lz (aaB h) [1,3,29] [] [sv 2 (bl false)])
theorem aav {e_1}:Ax tP 105 qv 0 iK (qC e_1) (aj4 e_1):=.tD mixed [aoA] [1,2,3,29,42,43,44,53,54,55,58,59,60,68,69,70,73,74,75,76,79,80,81,82,85,86,87,88] 5
def qg (e_1:ay):Option (Bool):=(qC e_1).opt
theorem Ja:bc tP 87 (pL mR kj false (fun a=>qg a)):=by
  refine Od (fn:=Tryz.f87) (c:=an Tryz.f87) (by kernel_rfl) (by kernel_rfl) (by kernel_rfl) (rs:=[.tmp 2]) (by kernel_rfl) (nt:=105) (by kernel_rfl) fun vs a ps h hp y hy=>?_
  unfold mR at h
  split at h
  · next a1 a2 a3 a4 a5 k6 n7 e8 =>
    cases hb:(true) with
    | false=>rw [hb] at h; cases h
    | true =>
      rw [hb] at h
      cases h
      obtain ⟨g0,hp⟩:=ce hp
      exact ⟨[(.agg [(i64 (ay.mk a1 (aF.mk a2 a3) a4 a5 (lst dGExpr n7 e8)).Op),(i64 ((ay.mk a1 (aF.mk a2 a3) a4 a5 (lst dGExpr n7 e8)).Value).Num),(i64 ((ay.mk a1 (aF.mk a2 a3) a4 a5 (lst dGExpr n7 e8)).Value).Den),(i64 (ay.mk a1 (aF.mk a2 a3) a4 a5 (lst dGExpr n7 e8)).Dim),(aX ((ay.mk a1 (aF.mk a2 a3) a4 a5 (lst dGExpr n7 e8)).Name)),(bm ((ay.mk a1 (aF.mk a2 a3) a4 a5 (lst dGExpr n7 e8)).Args))])],(VLes.cons (VLe.agg (VLes.cons (VLe.rfl' _) (VLes.cons (VLe.rfl' _) (VLes.cons (VLe.rfl' _) (VLes.cons (VLe.rfl' _) (VLes.cons (VLe.rfl' _) (VLes.cons (VLe.slk g0.1 (ac.of_ok g0)) VLes.nil))))))) VLes.nil),rfl, @aav _ (ay.mk a1 (aF.mk a2 a3) a4 a5 (lst dGExpr n7 e8)) _ (bn.2 ⟨y,hy,aiE y⟩)⟩
  · cases h
end
abbrev vD:Nat→Pz
  | 0=>⟨fun _=>none,AU⟩
  | n+1=>⟨@qg (vD n), @Ja (vD n)⟩
def ui (e_1:ay):Option (Bool):=t7 fun n=>(vD n).F e_1
def ET:=(pL mR kj false (fun a=>ui a))
theorem Kz:bc tP 87 ET:=DR (F:=fun n (a:ay)=>(vD n).F  a) fun n=>(vD n).ok
abbrev e87:FE tP:=⟨87, .pure ET,Kz⟩
noncomputable def amL:List Code:=aA (an Tryz.f65)
def nM (x_1:Bool):bK:=.data (bl x_1)
def ake (x_1:Bool):St:=⟨[sv 2 (bl x_1)],[],0⟩
theorem ah7 (x_1:Bool):eC tP [.tmp 2] (dN (nM x_1)) .ret (ake x_1) :=
  eC.intro (v:=(bl x_1)) (by kernel_rfl) ((VLe.rfl' _))
def Vn (e_1:ay):St:=⟨[sv 0 (.agg [(i64 e_1.Op),(i64 e_1.Value.Num),(i64 e_1.Value.Den),(i64 e_1.Dim),(aX e_1.Name),(bm e_1.Args)])],[],0⟩
def pG (e_1:ay):PT _ (rE ake) iK:=.lk Vx e_1.Args fun L1_=>.bd (Dh (ay.mk e_1.Op (aF.mk e_1.Value.Num e_1.Value.Den) e_1.Dim e_1.Name L1_)) 0 fun r_2=>.tv (((decide (r_2≤10))&&true) = true→Vl e_1.Args) (fun _=>kb eY)<|.g1 (((decide (r_2≤10))&&true) = true→(ry (ay.mk e_1.Op (aF.mk e_1.Value.Num e_1.Value.Den) e_1.Dim e_1.Name L1_)).isSome = true)<|.tv (((bif (decide (r_2≤10)) then (decide (((ry (ay.mk e_1.Op (aF.mk e_1.Value.Num e_1.Value.Den) e_1.Dim e_1.Name L1_)).getD 0)≤60)) else false)&&true) = true→Vl e_1.Args) (fun _=>kb eY)<|.g1 (((bif (decide (r_2≤10)) then (decide (((ry (ay.mk e_1.Op (aF.mk e_1.Value.Num e_1.Value.Den) e_1.Dim e_1.Name L1_)).getD 0)≤60)) else false)&&true) = true→(ui (ay.mk e_1.Op (aF.mk e_1.Value.Num e_1.Value.Den) e_1.Dim e_1.Name L1_)).isSome = true)<|.lf (some (bif (bif (decide (r_2≤10)) then (decide (((ry (ay.mk e_1.Op (aF.mk e_1.Value.Num e_1.Value.Den) e_1.Dim e_1.Name L1_)).getD 0)≤60)) else false) then ((ui (ay.mk e_1.Op (aF.mk e_1.Value.Num e_1.Value.Den) e_1.Dim e_1.Name L1_)).getD false) else false)) .ret _<|hh fun _=>l0
theorem agD {e_1}:Ax tP 15 amL 0 iK (pG e_1) (Vn e_1):=.tE mixed [e85,e86,e87] [2] 3
def jA (e_1:ay):Option (Bool):=(pG e_1).opt
theorem ah2 (e_1:ay) (y_:Bool) (h:jA e_1 = some y_):ar tP 15 (aA (an Tryz.f65)) (eC tP [.tmp 2] (dN (nM y_))) (Vn e_1) :=
  @agD e_1 _ (bn.2 ⟨y_,h,ah7 y_⟩)
def qV:bU
  | [(.agg [(.c (.lit (.int .i64 a1))),(.c (.lit (.int .i64 a2))),(.c (.lit (.int .i64 a3))),(.c (.lit (.int .i64 a4))),(.c (.lit (.string a5))),(.c (.sl k6 n7 e8))])]=>some ([aJ ee dGExpr 6 k6 n7 e8,(jA (ay.mk a1 (aF.mk a2 a3) a4 a5 (lst dGExpr n7 e8))).isSome = true],(nM ((jA (ay.mk a1 (aF.mk a2 a3) a4 a5 (lst dGExpr n7 e8))).getD false)))
  | _=>none
theorem HJ:bc tP 65 qV:=by
  refine nT (fn:=Tryz.f65) (c:=an Tryz.f65) (by kernel_rfl) (by kernel_rfl) (by kernel_rfl) (rs:=[.tmp 2]) (by kernel_rfl) (nt:=15) (by kernel_rfl) fun vs p out h hp=>?_
  unfold qV at h
  split at h
  · next a1 a2 a3 a4 a5 k6 n7 e8 =>
    cases h
    obtain ⟨g0,hp⟩:=ce hp
    obtain ⟨g,hp⟩:=ce hp
    obtain ⟨x,hx⟩:=Option.isSome_iff_exists.1 g
    rw [hx]
    exact ⟨[(.agg [(i64 (ay.mk a1 (aF.mk a2 a3) a4 a5 (lst dGExpr n7 e8)).Op),(i64 ((ay.mk a1 (aF.mk a2 a3) a4 a5 (lst dGExpr n7 e8)).Value).Num),(i64 ((ay.mk a1 (aF.mk a2 a3) a4 a5 (lst dGExpr n7 e8)).Value).Den),(i64 (ay.mk a1 (aF.mk a2 a3) a4 a5 (lst dGExpr n7 e8)).Dim),(aX ((ay.mk a1 (aF.mk a2 a3) a4 a5 (lst dGExpr n7 e8)).Name)),(bm ((ay.mk a1 (aF.mk a2 a3) a4 a5 (lst dGExpr n7 e8)).Args))])],(VLes.cons (VLe.agg (VLes.cons (VLe.rfl' _) (VLes.cons (VLe.rfl' _) (VLes.cons (VLe.rfl' _) (VLes.cons (VLe.rfl' _) (VLes.cons (VLe.rfl' _) (VLes.cons (VLe.slk g0.1 (ac.of_ok g0)) VLes.nil))))))) VLes.nil),rfl,ah2 (ay.mk a1 (aF.mk a2 a3) a4 a5 (lst dGExpr n7 e8)) x hx⟩
  · cases h
abbrev e65:FE tP:=⟨65, .pure qV,HJ⟩
def gB:List V→List Ob→Option ((aa × Int × (List au)) × List Prop)
  | [(.ptr p1 k2 i3 j4),(.c (.lit (.int .i64 a5))),(.row q6 k7 f8 n9)],[.box [(.c (.sl k10 n11 C9)),(.c (.lit (.int .i64 a13))),(.c (.lit (.int .i64 a14)))], .row t15 k16 m17 MQ]=>bif Nat.beq p1 0&&Nat.beq k2 3&&Nat.beq i3 0&&Nat.beq j4 0&&Nat.beq q6 1&&Nat.beq k7 2&&Nat.beq f8 0&&Nat.beq t15 103&&Nat.beq k16 2 then some (((aa.mk (lst bh n11 C9) a13 a14),a5,(lst cW m17 MQ)),[aJ aP bh 1 k10 n11 C9,n9 = m17,aJ dU cW 2 2 m17 MQ]) else none
  | _,_=>none
def fJ (x_1:(ay × aa)):V:=(.agg [(i64 x_1.1.Op),(i64 x_1.1.Value.Num),(i64 x_1.1.Value.Den),(i64 x_1.1.Dim),(aX x_1.1.Name),(bm x_1.1.Args)])
def fI (os:List Ob) (x_1:(ay × aa)):List Ob:=[(.box [(fG x_1.2.l),(i64 x_1.2.at_),(i64 x_1.2.left)]),K6 os 1]
class vp where
  F:aa→Int→(List au)→Option ((ay × aa))
  ok:bR tP 66 (.mut (lF true [true,false,true] (lN gB fJ fI [false,false] (aM,af) (fun a=>F a.1 a.2.1 a.2.2))))
section
variable [vp]
abbrev CT:=(lF true [true,false,true] (lN gB fJ fI [false,false] (aM,af) (fun a=>vp.F a.1 a.2.1 a.2.2)))
abbrev Z7:FE tP:=⟨66, .mut CT,vp.ok⟩
noncomputable def m2:List Code:=aA (an Tryz.f66)
noncomputable def RS:List Code:=aA (ah (ah (aQ m2 6)))
def Gp (env:(List au)) (x_1:(ay × aa)):St:=⟨[sv 6 (.ptr 0 6 0 0),sv 1000000 (.ptr 1 3 0 0),sv 1000001 (.row 2 2 0 env.length)],[(0,some (.box [(i64 x_1.1.Op),(i64 x_1.1.Value.Num),(i64 x_1.1.Value.Den),(i64 x_1.1.Dim),(aX x_1.1.Name),(bm x_1.1.Args)])),(1,some (.box [(fG x_1.2.l),(i64 x_1.2.at_),(i64 x_1.2.left)])),(aD 2 103 env)],3⟩
theorem XG (env:(List au)) (x_1:(ay × aa)) {ps:List Prop} {c0:List V} {t1 n1:Nat} {e1:Nat→List D} (h0:c0.length = 3) (h1:n1 = env.length) (o1:pD (.row 103 2 env.length (aV dU cw env)) (.row t1 2 n1 e1)):eo tP [.cell 6 98] (fun σ v=>∃ qs,ql true [.box c0, .row t1 2 n1 e1] ⟨ps,fJ x_1,fI [.box c0, .row t1 2 n1 e1] x_1,[false,false]⟩ qs σ v) .ret (Gp env x_1) :=
  eo.intro (v:=(.agg [(i64 x_1.1.Op),(i64 x_1.1.Value.Num),(i64 x_1.1.Value.Den),(i64 x_1.1.Dim),(aX x_1.1.Name),(bm x_1.1.Args)])) (by kernel_rfl) ⟨[1,2],rfl,rfl,VLe.rfl' _,(.inl rfl),⟨⟨_,rfl,show VLes _ _ from VLes.rfl' _,rfl,rfl,(.inl rfl), .inr ⟨trivial,by rw [dg,h0]; rfl⟩⟩,⟨⟨_,rfl,o1,rfl,rfl,(.inl rfl), .inr ⟨h1,by rw [dg,h1]; rfl⟩⟩,trivial⟩⟩⟩
def tW (dim:Int) (env:(List au)) (names:(List ByteArray)) (s_2:aa) (s:((List ByteArray) × Int)):St:=match s with | (names_1,i_1)=>⟨[sv 0 (.ptr 0 3 0 0),sv 1 (i64 dim),sv 2 (.row 1 2 0 env.length),sv 6 (.ptr 2 6 0 0),sv 8 (.row 3 1 0 names_1.length),sv 9 (i64 i_1),sv 1000000 (.ptr 0 3 0 0),sv 1000001 (.row 1 2 0 env.length)],[(0,some (.bx (aj s_2))),(aD 1 103 env),(2,some (.box [(i64 0),(i64 0),(i64 0),(i64 0),(aX (ak [])),(.c .nil)])),(wH 3 9 names_1)],4⟩
def Vg (dim:Int) (env:(List au)) (names:(List ByteArray)) (s_2:aa) (s:(List ByteArray)):St:=match s with | names_2=>⟨[sv 0 (.ptr 0 3 0 0),sv 1 (i64 dim),sv 6 (.ptr 1 6 0 0),sv 8 (.row 2 1 0 names_2.length),sv 1000000 (.ptr 0 3 0 0),sv 1000001 (.row 3 2 0 env.length)],[(0,some (.bx (aj s_2))),(1,some (.box [(i64 0),(i64 0),(i64 0),(i64 0),(aX (ak [])),(.c .nil)])),(wH 2 9 names_2),(aD 3 103 env)],4⟩
def tY (dim:Int) (env:(List au)) (names:(List ByteArray)) (s_2:aa) (r:(((List ByteArray)))) (K:KT):Prop:=match r with | s=>K (.exit 0) (Vg dim env names s_2 s)
def Xb (dim:Int) (env:(List au)) (names_1:(List ByteArray)) (i_1:Int) (s_2:aa):St:=tW dim env ([]:List ByteArray) s_2 (names_1,i_1)
def gY (dim:Int) (env:(List au)) (names_1:(List ByteArray)) (i_1:Int) (s_2:aa):PT _ (nE (tW dim env ([]:List ByteArray) s_2) (tY dim env ([]:List ByteArray) s_2)) iK:=.bf (decide (i_1 < (env.length:Int))) (.g2 (0≤i_1) (i_1 < (env.length:Int))<|.bf ((env.getD (0+(Int.toNat i_1)) cw).Dim == dim) (.g2 (0≤i_1) (i_1 < (env.length:Int))<|.tv (names_1.length = names_1.length) rfl<|.gc (names_1.length+1) 16<|.lf (some (Sum.inl ((names_1++([(env.getD (0+(Int.toNat i_1)) cw).Name]:List ByteArray)),(ai (i_1+1))))) .normal (⟨[sv 0 (.ptr 0 3 0 0),sv 1 (i64 dim),sv 2 (.row 1 2 0 env.length),sv 6 (.ptr 2 6 0 0),sv 8 (.row 3 1 0 (names_1.length+1)),sv 9 (i64 (ai (i_1+1))),sv 1000000 (.ptr 0 3 0 0),sv 1000001 (.row 1 2 0 env.length)],[(0,some (.bx (aj s_2))),(aD 1 103 env),(2,some (.box [(i64 0),(i64 0),(i64 0),(i64 0),(aX (ak [])),(.c .nil)])),(3,some (.row 9 1 (names_1.length+1) (fun i=>bif Nat.blt i names_1.length then (Sc names_1) i else (fun i=>(Sc ([(env.getD (0+(Int.toNat i_1)) cw).Name]:List ByteArray)) (0+i)) (i - names_1.length))))],4⟩)<|hh fun _=>lg (.of (.qs 4 (.cons rfl (.rown (bY rfl rfl)) (.qs 3 .nil))) (.same rfl (.same rfl (.same rfl (.row rfl (ac.app .b (ac.zero (ac.ls Dd (ak []) ([(env.getD (0+(Int.toNat i_1)) cw).Name]:List ByteArray)))) .nil rfl)))) rfl)) (.lf (some (Sum.inl (names_1,(ai (i_1+1))))) .normal _<|hh fun _=>l0)) (.lf (some (Sum.inr names_1)) (.exit 0) (tW dim env ([]:List ByteArray) s_2 (names_1,i_1))<|hh fun _=>lg (.cn [0,1,6,8,1000000,1000001]))
theorem Wh {dim env names_1 i_1 s_2}:Ax tP 90 RS 0 iK (gY dim env names_1 i_1 s_2) (Xb dim env names_1 i_1 s_2):=.tE mixed [] [0,1,2,6,8,9,76,77,78,79,1000000,1000001] 4
def j9 (dim:Int) (env:(List au)) (names:(List ByteArray)) (s_2:aa) (s:((List ByteArray) × Int)):Option (((List ByteArray) × Int) ⊕ (((List ByteArray)))):=match s with | (names_1,i_1)=>(gY dim env names_1 i_1 s_2).opt
theorem Wg (dim env names s_2 s):Pp tP 90 (List.drop 0 RS) (tW dim env names s_2 s) (j9 dim env names s_2 s) (cl (tW dim env names s_2) (tY dim env names s_2)):=fun K h=>match s,h with | (names_1,i_1),h=>(Wh h)
theorem Pl (dim env names s_2):∀ r J K,tY dim env names s_2 r K→tY dim env names s_2 r (aH J K)
  | s,_,_,h=>h
def PH (dim:Int) (names_3:(List ByteArray)) (env:(List au)) (s_2:aa):St:=⟨[sv 0 (.ptr 0 3 0 0),sv 1 (i64 dim),sv 6 (.ptr 1 6 0 0),sv 8 (.row 2 1 0 names_3.length),sv 1000000 (.ptr 0 3 0 0),sv 1000001 (.row 3 2 0 env.length)],[(0,some (.bx (aj s_2))),(1,some (.box [(i64 0),(i64 0),(i64 0),(i64 0),(aX (ak [])),(.c .nil)])),(wH 2 9 names_3),(aD 3 103 env)],4⟩
def gO (dim:Int) (names_3:(List ByteArray)) (env:(List au)) (s_2:aa):PT _ (rE (Gp env)) iK:=.lk bw s_2.l fun L1_=>.bd (bi (aa.mk L1_ s_2.at_ s_2.left) (ai ((names_3.length:Int)+3))) (0,af) fun r_9=>.bf (decide (r_9.1 < (names_3.length:Int))) (.g2 (0≤r_9.1) (r_9.1 < (names_3.length:Int))<|.lf (some ((ay.mk 2 (aF.mk 0 0) 0 (names_3.getD (0+(Int.toNat r_9.1)) (ak [])) ([]:List ay)),r_9.2)) .ret (⟨[sv 6 (.ptr 0 6 0 0),sv 1000000 (.ptr 1 3 0 0),sv 1000001 (.row 2 2 0 env.length)],[(0,some (.box [(i64 2),(i64 0),(i64 0),(i64 0),(aX (names_3.getD (0+(Int.toNat r_9.1)) (ak []))),(.c .nil)])),(1,some (.bx (aj r_9.2))),(aD 2 103 env)],3⟩)<|hh fun _=>lg (.of (.qs 3 .nil) (.box rfl (.cons .r (.cons .r (.cons .r (.cons .r (.cons .r (.cons (.nilsl ee aM 6) .nil)))))) (.same rfl (.same rfl .nil))) rfl)) (.bf (bif (dim == 4) then (r_9.1 == (names_3.length:Int)) else false) (.lk bw r_9.2.l fun L2_=>.bd (bi (aa.mk L2_ r_9.2.at_ r_9.2.left) 5) (0,af) fun r_10=>.lf (some ((ay.mk 3 (aF.mk (ai (1+r_10.1)) 1) 0 (ak []) ([]:List ay)),r_10.2)) .ret (⟨[sv 6 (.ptr 0 6 0 0),sv 1000000 (.ptr 1 3 0 0),sv 1000001 (.row 2 2 0 env.length)],[(0,some (.box [(i64 3),(i64 (ai (1+r_10.1))),(i64 1),(i64 0),(aX (ak [])),(.c .nil)])),(1,some (.bx (aj r_10.2))),(aD 2 103 env)],3⟩)<|hh fun _=>lg (.of (.qs 3 .nil) (.box rfl (.cons .r (.cons .r (.cons .r (.cons .r (.cons .r (.cons (.nilsl ee aM 6) .nil)))))) (.same rfl (.same rfl .nil))) rfl)) (.lk bw r_9.2.l fun L3_=>.bd (iL (aa.mk L3_ r_9.2.at_ r_9.2.left)) (gp,af) fun r_11=>.lf (some ((ay.mk 1 r_11.1 dim (ak []) ([]:List ay)),r_11.2)) .ret (⟨[sv 6 (.ptr 0 6 0 0),sv 1000000 (.ptr 1 3 0 0),sv 1000001 (.row 2 2 0 env.length)],[(0,some (.box [(i64 1),(i64 r_11.1.Num),(i64 r_11.1.Den),(i64 dim),(aX (ak [])),(.c .nil)])),(1,some (.bx (aj r_11.2))),(aD 2 103 env)],3⟩)<|hh fun _=>lg (.of (.qs 3 .nil) (.box rfl (.cons .r (.cons .r (.cons .r (.cons .r (.cons .r (.cons (.nilsl ee aM 6) .nil)))))) (.same rfl (.same rfl .nil))) rfl)))
theorem WF {dim names_3 env s_2}:Ax tP 90 m2 7 iK (gO dim names_3 env s_2) (PH dim names_3 env s_2):=.tE mixed [RC,e89] [6,1000000,1000001] 7
def Xs (dim:Int) (env:(List au)) (names:(List ByteArray)) (s_2:aa):St:=⟨[sv 0 (.ptr 0 3 0 0),sv 1 (i64 dim),sv 2 (.row 1 2 0 env.length),sv 6 (.ptr 2 6 0 0),sv 8 (.row 3 1 0 names.length),sv 9 (i64 0),sv 1000000 (.ptr 0 3 0 0),sv 1000001 (.row 1 2 0 env.length)],[(0,some (.bx (aj s_2))),(aD 1 103 env),(2,some (.box [(i64 0),(i64 0),(i64 0),(i64 0),(aX (ak [])),(.c .nil)])),(wH 3 9 names)],4⟩
abbrev nz (dim:Int) (env:(List au)) (names:(List ByteArray)) (s_2:aa) (r:(((List ByteArray)))):Option ((ay × aa)):=match r with | names_2=>((gO dim names_2 env s_2).opt)
def kc (dim:Int) (env:(List au)) (names:(List ByteArray)) (s_2:aa):Option ((ay × aa)):=(fixL (j9 dim env names s_2) (names,0)).bind (nz dim env names s_2)
theorem VC:List.drop 6 m2 = .block 0 (.loop (ah (ah (aQ m2 6)))) :: List.drop 7 m2:=by kernel_rfl
theorem W4 (dim env names s_2 K):∀ r,W (nz dim env names s_2 r) (rE (Gp env) K)→tY dim env names s_2 r (wK (bj 0 (aH (ar tP 90 (List.drop 7 m2) K) K)))
  | names_2,h=>⟨(PH dim names_2 env s_2),(.refl _),(WF h)⟩
theorem Wm {dim env names s_2 K} (h:W (kc dim env names s_2) (rE (Gp env) K)):ar tP 90 (List.drop 6 m2) K (Xs dim env names s_2) :=
  ar.at_ VC (ar.cons_loop (aC.weak (aC.ent (.refl _) (aC.loopF (x:=ah (ah (aQ m2 6))) (f:=j9 dim env names s_2) (emb:=tW dim env names s_2) (E:=tY dim env names s_2) (Wg dim env names s_2) (Pl dim env names s_2) (bT h (W4 dim env names s_2 K))))))
def YH (dim:Int) (env:(List au)) (s_1:aa):St:=⟨[sv 0 (.ptr 0 3 0 0),sv 1 (i64 dim),sv 2 (.row 1 2 0 env.length),sv 1000000 (.ptr 0 3 0 0),sv 1000001 (.row 1 2 0 env.length)],[(0,some (.bx (aj s_1))),(aD 1 103 env)],2⟩
def gW (dim:Int) (env:(List au)) (s_1:aa):PT _ (rE (Gp env)) (dK tP 90 m2 6 iK):=.bf (dim == 1) (.lk bw s_1.l fun L1_=>.bd (bi (aa.mk L1_ s_1.at_ (ai (s_1.left - 1))) 3) (0,af) fun r_12=>.lk bw r_12.2.l fun L2_=>.bd (bi (aa.mk L2_ r_12.2.at_ r_12.2.left) 6) (0,af) fun r_13=>.lk bw r_13.2.l fun L3_=>.tv (env.length = env.length) (rfl)<|.lk bg env fun L4_=>.bd (vp.F (aa.mk L3_ r_13.2.at_ r_13.2.left) (ai (2+r_12.1)) L4_) (aM,af) fun r_14=>.lk bw r_14.2.l fun L5_=>.tv (env.length = env.length) (rfl)<|.tv (zU env) (kb ib)<|.bd (vp.F (aa.mk L5_ r_14.2.at_ r_14.2.left) (ai (2+r_12.1)) L4_) (aM,af) fun r_15=>.lf (some ((ay.mk (ai (11+r_13.1)) (aF.mk 0 0) 0 (ak []) ([r_14.1,r_15.1]:List ay)),r_15.2)) .ret (⟨[sv 0 (.ptr 0 3 0 0),sv 1 (i64 dim),sv 2 (.row 1 2 0 env.length),sv 6 (.ptr 2 6 0 0),sv 1000000 (.ptr 0 3 0 0),sv 1000001 (.row 1 2 0 env.length)],[(0,some (.bx (aj r_15.2))),(aD 1 103 env),(2,some (.box [(i64 (ai (11+r_13.1))),(i64 0),(i64 0),(i64 0),(aX (ak [])),(.row 3 6 0 2)])),(3,some (.row 98 6 2 (fun i=>(List.take 6 (List.drop (i*6) [(di r_14.1.Op),(di r_14.1.Value.Num),(di r_14.1.Value.Den),(di r_14.1.Dim),(ds r_14.1.Name),(.sl 6 r_14.1.Args.length (dZ r_14.1.Args)),(di r_15.1.Op),(di r_15.1.Value.Num),(di r_15.1.Value.Den),(di r_15.1.Dim),(ds r_15.1.Name),(.sl 6 r_15.1.Args.length (dZ r_15.1.Args))])))))],4⟩)<|hh fun _=>lg (.trans (.fz 3 98 6 2 (fun i=>(List.take 6 (List.drop (i*6) [(di r_14.1.Op),(di r_14.1.Value.Num),(di r_14.1.Value.Den),(di r_14.1.Dim),(ds r_14.1.Name),(.sl 6 r_14.1.Args.length (dZ r_14.1.Args)),(di r_15.1.Op),(di r_15.1.Value.Num),(di r_15.1.Value.Den),(di r_15.1.Dim),(ds r_15.1.Name),(.sl 6 r_15.1.Args.length (dZ r_15.1.Args))]))) rfl) (.trans (.cn [6,1000000,1000001]) (.of (σ:=⟨[sv 6 (.ptr 0 6 0 0),sv 1000000 (.ptr 1 3 0 0),sv 1000001 (.row 2 2 0 env.length)],[(0,some (.box [(i64 (ai (11+r_13.1))),(i64 0),(i64 0),(i64 0),(aX (ak [])),(.c (.sl 6 2 (fun i=>(fun i=>(List.take 6 (List.drop (i*6) [(di r_14.1.Op),(di r_14.1.Value.Num),(di r_14.1.Value.Den),(di r_14.1.Dim),(ds r_14.1.Name),(.sl 6 r_14.1.Args.length (dZ r_14.1.Args)),(di r_15.1.Op),(di r_15.1.Value.Num),(di r_15.1.Value.Den),(di r_15.1.Dim),(ds r_15.1.Name),(.sl 6 r_15.1.Args.length (dZ r_15.1.Args))]))) (0+i))))])),(1,some (.bx (aj r_15.2))),(aD 2 103 env)],3⟩) (.qs 3 .nil) (.box rfl (.cons .r (.cons .r (.cons .r (.cons .r (.cons .r (.cons (.sl (ac.zero (ac.lits (enc:=ee) (el:=(fun i=>(List.take 6 (List.drop (i*6) [(di r_14.1.Op),(di r_14.1.Value.Num),(di r_14.1.Value.Den),(di r_14.1.Dim),(ds r_14.1.Name),(.sl 6 r_14.1.Args.length (dZ r_14.1.Args)),(di r_15.1.Op),(di r_15.1.Value.Num),(di r_15.1.Value.Den),(di r_15.1.Dim),(ds r_15.1.Name),(.sl 6 r_15.1.Args.length (dZ r_15.1.Args))])))) (z:=aM) (l:=([r_14.1,r_15.1]:List ay)) ⟨(be.cons (.refl _) (be.cons (.refl _) (be.cons (.refl _) (be.cons (.refl _) (be.cons (.refl _) (be.cons (mr (fun _=>rfl) .b) be.nil)))))),(be.cons (.refl _) (be.cons (.refl _) (be.cons (.refl _) (be.cons (.refl _) (be.cons (.refl _) (be.cons (mr (fun _=>rfl) .b) be.nil)))))),trivial⟩))) .nil)))))) (.same rfl (.same rfl .nil))) rfl)))) (.bd (vk dim) [] fun r_16=>.lf (kc dim env r_16 (aa.mk s_1.l s_1.at_ (ai (s_1.left - 1)))) .normal _<|hh fun _ h=>l0 (Wm h))
theorem UE {dim env s_1}:Ax tP 90 m2 0 iK (gW dim env s_1) (YH dim env s_1):=.tD mixed [Z7,RC,e88] [0,1,2,6,8,9,76,77,78,79,1000000,1000001] 6
def fa (s_1:aa) (dim:Int) (env:(List au)):Option ((ay × aa)):=(gW dim env s_1).opt
theorem zh:bR tP 66 (.mut (lF true [true,false,true] (lN gB fJ fI [false,false] (aM,af) (fun a=>fa a.1 a.2.1 a.2.2)))):=by
  refine mo (fn:=Tryz.f66) (c:=an Tryz.f66) (by kernel_rfl) (by kernel_rfl) (by kernel_rfl) (rs:=[.cell 6 98]) (by kernel_rfl) (nt:=90) (by kernel_rfl) fun vs os a ps h hp y hy qs=>?_
  unfold gB at h
  split at h
  · next p1 k2 i3 j4 a5 q6 k7 f8 n9 k10 n11 C9 a13 a14 t15 k16 m17 MQ =>
    cases hb:(Nat.beq p1 0&&Nat.beq k2 3&&Nat.beq i3 0&&Nat.beq j4 0&&Nat.beq q6 1&&Nat.beq k7 2&&Nat.beq f8 0&&Nat.beq t15 103&&Nat.beq k16 2) with
    | false=>rw [hb] at h; cases h
    | true =>
      rw [hb] at h
      simp only [Bool.and_eq_true,Nat.beq_eq] at hb
      obtain ⟨⟨⟨⟨⟨⟨⟨⟨rfl,rfl⟩,rfl⟩,rfl⟩,rfl⟩,rfl⟩,rfl⟩,rfl⟩,rfl⟩:=hb
      cases h
      obtain ⟨g0,hp⟩:=ce hp
      obtain ⟨ho2,hp⟩:=ce hp
      obtain ⟨go2,hp⟩:=ce hp
      subst ho2
      exact ⟨[.ptr 0 3 0 0,(i64 a5), .row 1 2 0 (lst cW _ MQ).length],(VLes.cons (VLe.rfl' _) (VLes.cons (VLe.rfl' _) (VLes.cons (VLe.rown (ac.of_ok (z:=cw) go2).len) VLes.nil))),rfl,ar.ent (dv.of (bM.cons rfl (VLe.rfl' _) (bM.cons rfl (VLe.rfl' _) (bM.cons rfl (VLe.rfl' _) (bM.cons rfl (VLe.rfl' _) (bM.cons rfl (VLe.rown (ac.of_ok (z:=cw) go2).len) bM.nil))))) (cC.box rfl (VLes.cons (VLe.slk g0.1 (ac.of_ok g0)) (VLes.cons (VLe.rfl' _) (VLes.cons (VLe.rfl' _) VLes.nil))) (cC.row rfl (ac.of_ok go2) cC.nil rfl)) rfl) (@UE _ a5 (lst cW _ MQ) (aa.mk (lst bh n11 C9) a13 a14) _ (bn.2 ⟨y,hy,XG (lst cW _ MQ) y rfl (ac.of_ok (z:=cw) go2).len (Hf go2 fun _=>rfl)⟩))⟩
  · cases h
end
abbrev mt:Nat→vp
  | 0=>⟨fun _ _ _=>none,Ic⟩
  | n+1=>⟨@fa (mt n), @zh (mt n)⟩
def cd (s_1:aa) (dim:Int) (env:(List au)):Option ((ay × aa)):=t7 fun n=>(mt n).F s_1 dim env
def rY:=(lF true [true,false,true] (lN gB fJ fI [false,false] (aM,af) (fun a=>cd a.1 a.2.1 a.2.2)))
theorem AM:bR tP 66 (.mut rY):=Kb (F:=fun n (a:aa × Int × (List au))=>(mt n).F  a.1 a.2.1 a.2.2) fun n=>(mt n).ok
abbrev N0:FE tP:=⟨66, .mut rY,AM⟩
end
end Go.Ax
