import Derived.Test.YtgamnldjlncdlaaGreatZF2
import Derived.Test.YtgamnldjlncdlaaGreatRows
/- Types of the program, and functions of it: printed by a program, checked by the kernel. -/
set_option linter.all false
set_option maxRecDepth 100000
namespace Go.Ax
open Go.Proofs Go.Proofs.YtgamnldjlncdlaaGreat
noncomputable section
attribute [local irreducible] PT.opt
noncomputable def m4:List Code:=aA (ao Tryz.f109)
noncomputable def VZ:List Code:=aA (ah (ah (aP m4 11)))
def Bk (x_1:(ByteArray × Bool)):bN:=.data (.tup [(bc x_1.1),(bl x_1.2)])
def LC (x_1:(ByteArray × Bool)):St:=⟨[sv 4 (bc x_1.1),sv 5 (bl x_1.2)],[],0⟩
def yj (dim:Int) (s_1:ByteArray) (rest:Int) (s:(ByteArray × Int × Int)):St:=match s with | (s_2,rest_1,k)=>⟨[sv 1 (i64 dim),sv 7 (bc s_2),sv 8 (i64 rest_1),sv 9 (i64 k)],[],0⟩
def YD (dim:Int) (s_1:ByteArray) (rest:Int) (s:ByteArray):St:=match s with | s_3=>⟨[sv 1 (i64 dim),sv 7 (bc s_3)],[],0⟩
def yd (dim:Int) (s_1:ByteArray) (rest:Int) (r:((ByteArray))) (K:KT):Prop:=match r with | s=>K (.exit 0) (YD dim s_1 rest s)
def agt (dim:Int) (s_2:ByteArray) (rest_1 k:Int):St:=yj dim (am []) (0:Int) (s_2,rest_1,k)
def eA (dim:Int) (s_2:ByteArray) (rest_1 k:Int):PT _ (nE (yj dim (am []) (0:Int)) (yd dim (am []) (0:Int))) iK:=.bf (decide (0 < rest_1)) (.g1 (k≠0)<|.g1 (k≠0)<|.g3 (0≤(ai (Int.tdiv rest_1 k))) ((ai (Int.tdiv rest_1 k))≤(ai ((ai (Int.tdiv rest_1 k))+1))) ((ai ((ai (Int.tdiv rest_1 k))+1))≤((10:Nat):Int))<|.g1 (s_2.size+((am [48,49,50,51,52,53,54,55,56,57]).extract (Int.toNat (ai (Int.tdiv rest_1 k))) (Int.toNat (ai ((ai (Int.tdiv rest_1 k))+1)))).size≤9223372036854775807)<|.g1 (k≠0)<|.tv ((10:Int)≠0) (by decide)<|.lf (some (Sum.inl ((s_2++((am [48,49,50,51,52,53,54,55,56,57]).extract (Int.toNat (ai (Int.tdiv rest_1 k))) (Int.toNat (ai ((ai (Int.tdiv rest_1 k))+1))))),(Int.tmod rest_1 k),(ai (Int.tdiv k 10))))) .normal _<|hh fun _=>l0) (.lf (some (Sum.inr s_2)) (.exit 0) (yj dim (am []) (0:Int) (s_2,rest_1,k))<|hh fun _=>lg (.cn [1,7]))
theorem Y0 {dim s_2 rest_1 k}:Ax tP 81 VZ 0 iK (eA dim s_2 rest_1 k) (agt dim s_2 rest_1 k):=.tE mixed [] [1,7,8,9] 4
def lv (dim:Int) (s_1:ByteArray) (rest:Int) (s:(ByteArray × Int × Int)):Option ((ByteArray × Int × Int) ⊕ ((ByteArray))):=match s with | (s_2,rest_1,k)=>(eA dim s_2 rest_1 k).opt
theorem Z9 (dim s_1 rest s):Pp tP 81 (List.drop 0 VZ) (yj dim s_1 rest s) (lv dim s_1 rest s) (cd (yj dim s_1 rest) (yd dim s_1 rest)):=fun K h=>match s,h with | (s_2,rest_1,k),h=>(Y0 h)
theorem RN (dim s_1 rest):∀ r J K,yd dim s_1 rest r K→yd dim s_1 rest r (aE J K)
  | s,_,_,h=>h
def Td (dim:Int) (s_4:ByteArray):St:=⟨[sv 1 (i64 dim),sv 7 (bc s_4)],[],0⟩
def iH (dim:Int) (s_4:ByteArray):PT _ (rE LC) iK:=.g2 (0≤(ai (dim - 2))) ((ai (dim - 2)) < ((3:Nat):Int))<|.g1 (s_4.size+(([(am []),(am [100]),(am [109])]:List ByteArray).getD (0+(Int.toNat (ai (dim - 2)))) (am [])).size≤9223372036854775807)<|.lf (some ((s_4++(([(am []),(am [100]),(am [109])]:List ByteArray).getD (0+(Int.toNat (ai (dim - 2)))) (am []))),true)) .ret _<|hh fun _=>l0
theorem ZM {dim s_4}:Ax tP 81 m4 12 iK (iH dim s_4) (Td dim s_4):=.tE mixed [] [4,5] 2
def afG (dim:Int) (s_1:ByteArray) (rest:Int):St:=⟨[sv 1 (i64 dim),sv 7 (bc s_1),sv 8 (i64 rest),sv 9 (i64 1000)],[],0⟩
abbrev pG (dim:Int) (s_1:ByteArray) (rest:Int) (r:((ByteArray))):Option ((ByteArray × Bool)):=match r with | s_3=>((iH dim s_3).opt)
def lY (dim:Int) (s_1:ByteArray) (rest:Int):Option ((ByteArray × Bool)):=(fixL (lv dim s_1 rest) (s_1,rest,1000)).bind (pG dim s_1 rest)
theorem Ym:List.drop 11 m4 = .block 0 (.loop (ah (ah (aP m4 11)))) :: List.drop 12 m4:=by kernel_rfl
theorem aeB (dim s_1 rest K):∀ r,W (pG dim s_1 rest r) (rE LC K)→yd dim s_1 rest r (wK (aZ 0 (aE (au tP 81 (List.drop 12 m4) K) K)))
  | s_3,h=>⟨(Td dim s_3),(.refl _),(ZM h)⟩
theorem Za {dim s_1 rest K} (h:W (lY dim s_1 rest) (rE LC K)):au tP 81 (List.drop 11 m4) K (afG dim s_1 rest) :=
  au.at_ Ym (au.cons_loop (aC.weak (aC.ent (.refl _) (aC.loopF (x:=ah (ah (aP m4 11))) (f:=lv dim s_1 rest) (emb:=yj dim s_1 rest) (E:=yd dim s_1 rest) (Z9 dim s_1 rest) (RN dim s_1 rest) (bM h (aeB dim s_1 rest K))))))
def ago (dim:Int) (s_1:ByteArray) (rest:Int):St:=⟨[sv 1 (i64 dim),sv 7 (bc s_1),sv 8 (i64 rest)],[],0⟩
def eE (dim:Int) (s_1:ByteArray) (rest:Int):PT _ (rE LC) (dK tP 81 m4 11 iK):=.lf (lY dim s_1 rest) .normal _<|hh fun _ h=>l0 (Za h)
theorem Qe {dim s_1 rest}:Ax tP 81 m4 10 iK (eE dim s_1 rest) (ago dim s_1 rest):=.tD mixed [] [1,7,8,9] 1
def ah9 (value:aH) (dim:Int):St:=⟨[sv 0 (.ag (mO value)),sv 1 (i64 dim)],[],0⟩
def lZ (value:aH) (dim:Int):PT _ (rE LC) (dK tP 81 m4 10 iK):=.bd (eT value) false fun r_3=>.g1 (((!(bif (!r_3) then true else (decide (value.Num < 0))))&&true) = true→value.Den≠0)<|.bf (bif (bif (bif (bif (!r_3) then true else (decide (value.Num < 0))) then true else ((Int.tmod 10000 value.Den) != 0)) then true else (decide (dim < 2))) then true else (decide (4 < dim))) (.lf (some ((am []),false)) .ret _<|hh fun _=>lx [4,5] [] [sv 1 (i64 dim)]) (.g1 (value.Den≠0)<|.bf (decide (999999999 < (ai (Int.tdiv value.Num value.Den)))) (.lf (some ((am []),false)) .ret _<|hh fun _=>lx [4,5] [] [sv 1 (i64 dim)]) (.bd (jV (aH.mk (ai (Int.tdiv value.Num value.Den)) 1)) (am []) fun r_4=>.g1 (value.Den≠0)<|.bf (decide (0 < (ai ((ai (value.Num - (ai ((ai (Int.tdiv value.Num value.Den))*value.Den))))*(ai (Int.tdiv 10000 value.Den)))))) (.g1 (r_4.size+(am [46]).size≤9223372036854775807)<|.lf ((eE dim (r_4++(am [46])) (ai ((ai (value.Num - (ai ((ai (Int.tdiv value.Num value.Den))*value.Den))))*(ai (Int.tdiv 10000 value.Den))))).opt) .normal _<|hh fun _ h=>lz (Qe h) [1,7,8] [] [sv 4 (bc (am [])),sv 5 (bl false)]) (.lf ((eE dim r_4 (ai ((ai (value.Num - (ai ((ai (Int.tdiv value.Num value.Den))*value.Den))))*(ai (Int.tdiv 10000 value.Den))))).opt) .normal _<|hh fun _ h=>lz (Qe h) [1,7,8] [] [sv 4 (bc (am [])),sv 5 (bl false)])))
theorem Yf {value dim}:Ax tP 81 m4 0 iK (lZ value dim) (ah9 value dim):=.tD mixed [am4,aql] [1,4,5,7,8] 10
def kv (value:aH) (dim:Int):Option ((ByteArray × Bool)):=(lZ value dim).opt
def sR:bW:=fj E3 (aI .i64) kv ((am []),false) Bk
theorem D7:bg tP 109 sR:=dv Tryz.f109 (ao Tryz.f109) [.tmp 4, .tmp 5] 81 fun u0 u1 y h=>@Yf u0 u1 _ (bn.2 ⟨y,h,(cx (.tup [(bc y.1),(bl y.2)]) (VLe.tup (VLes.cons (VLe.rfl' _) (VLes.cons (VLe.rfl' _) (VLes.nil)))))⟩)
abbrev aqP:FE tP:=⟨109, .pure sR,D7⟩
noncomputable def aj9:List Code:=aA (ao Tryz.f145)
def Mb (x_1:Bool):bN:=.data (bl x_1)
def apC (x_1:Bool):St:=⟨[sv 2 (bl x_1)],[],0⟩
def ahr (c:Int):St:=⟨[sv 0 (.c (.lit (.int .u8 c)))],[],0⟩
def C6 (c:Int):PT _ (rE apC) iK:=.lf (some (bif (decide (97≤c)) then (decide (c≤122)) else false)) .ret _<|hh fun _=>l0
theorem Zc {c}:Ax tP 9 aj9 0 iK (C6 c) (ahr c):=.tE mixed [] [2] 3
def JF (c:Int):Option (Bool):=(C6 c).opt
def FX:bW:=dH (aI .u8) JF false Mb
theorem M8:bg tP 145 FX:=cJ Tryz.f145 (ao Tryz.f145) [.tmp 2] 9 fun u0 y h=>@Zc u0 _ (bn.2 ⟨y,h,(cx (bl y) (VLe.rfl' _))⟩)
abbrev aqM:FE tP:=⟨145, .pure FX,M8⟩
noncomputable def alK:List Code:=aA (ao Tryz.f146)
def MK (x_1:Bool):bN:=.data (bl x_1)
def apl (x_1:Bool):St:=⟨[sv 2 (bl x_1)],[],0⟩
def agl (c:Int):St:=⟨[sv 0 (.c (.lit (.int .u8 c)))],[],0⟩
def Gi (c:Int):PT _ (rE apl) iK:=.lf (some (bif (decide (48≤c)) then (decide (c≤57)) else false)) .ret _<|hh fun _=>l0
theorem Yq {c}:Ax tP 9 alK 0 iK (Gi c) (agl c):=.tE mixed [] [2] 3
def sI (c:Int):Option (Bool):=(Gi c).opt
def Hi:bW:=dH (aI .u8) sI false MK
theorem OC:bg tP 146 Hi:=cJ Tryz.f146 (ao Tryz.f146) [.tmp 2] 9 fun u0 y h=>@Yq u0 _ (bn.2 ⟨y,h,(cx (bl y) (VLe.rfl' _))⟩)
abbrev aqK:FE tP:=⟨146, .pure Hi,OC⟩
noncomputable def p6:List Code:=aA (ao Tryz.f136)
noncomputable def Xp:List Code:=aA (ah (ah (aP p6 2)))
def KY (x_1:Bool):bN:=.data (bl x_1)
def LQ (x_1:Bool):St:=⟨[sv 2 (bl x_1)],[],0⟩
def yk (s_1:ByteArray) (s:(Int)):St:=match s with | i_1=>⟨[sv 0 (bc s_1),sv 3 (i64 i_1)],[],0⟩
def Zj (s_1:ByteArray) (s:Unit):St:=match s with | ()=>⟨[sv 2 (bl false)],[],0⟩
def Ze (s_1:ByteArray) (s:Unit):St:=match s with | ()=>⟨[sv 0 (bc s_1)],[],0⟩
def yn (s_1:ByteArray) (r:((Unit) ⊕ (Unit))) (K:KT):Prop:=match r with | (.inl s)=>K .ret (Zj s_1 s) | (.inr s)=>K (.exit 0) (Ze s_1 s)
def ahw (s_1:ByteArray) (i_1:Int):St:=yk s_1 i_1
def pu (s_1:ByteArray) (i_1:Int):PT _ (nE (yk s_1) (yn s_1)) iK:=.bf (decide (i_1 < (s_1.size:Int))) (.g2 (0≤i_1) (i_1 < (s_1.size:Int))<|.bd (JF ((s_1.data.getD (Int.toNat i_1) 0).toNat:Int)) false fun r_2=>.g1 (((!(i_1 == 0))&&((!r_2)&&true)) = true→0≤i_1)<|.g1 (((!(i_1 == 0))&&((!r_2)&&true)) = true→i_1 < (s_1.size:Int))<|.g1 (((!(i_1 == 0))&&((!r_2)&&true)) = true→(sI ((s_1.data.getD (Int.toNat i_1) 0).toNat:Int)).isSome = true)<|.g1 (((!((sI ((s_1.data.getD (Int.toNat i_1) 0).toNat:Int)).getD false))&&((!(i_1 == 0))&&((!r_2)&&true))) = true→0≤i_1)<|.g1 (((!((sI ((s_1.data.getD (Int.toNat i_1) 0).toNat:Int)).getD false))&&((!(i_1 == 0))&&((!r_2)&&true))) = true→i_1 < (s_1.size:Int))<|.bf (bif (!r_2) then (bif (i_1 == 0) then true else (bif (!((sI ((s_1.data.getD (Int.toNat i_1) 0).toNat:Int)).getD false)) then (((s_1.data.getD (Int.toNat i_1) 0).toNat:Int) != 95) else false)) else false) (.lf (some (Sum.inr (Sum.inl ()))) .ret _<|hh fun _=>lx [2] [16,17,18,19,20,21,22,23,24,25,26,27,28,29,30] [sv 0 (bc s_1),sv 3 (i64 i_1)]) (.lf (some (Sum.inl (ai (i_1+1)))) .normal _<|hh fun _=>lx [0,3] [16,17,18,19,20,21,22,23,24,25,26,27,28,29,30] [])) (.lf (some (Sum.inr (Sum.inr ()))) (.exit 0) (yk s_1 i_1)<|hh fun _=>lg (.cn [0]))
theorem ZF {s_1 i_1}:Ax tP 40 Xp 0 iK (pu s_1 i_1) (ahw s_1 i_1):=.tE mixed [aqM,aqK] [0,2,3,16,17,18,19,20,21,22,23,24,25,26,27,28,29,30,36,37,38] 4
def ur (s_1:ByteArray) (s:(Int)):Option ((Int) ⊕ ((Unit) ⊕ (Unit))):=match s with | i_1=>(pu s_1 i_1).opt
theorem Yi (s_1 s):Pp tP 40 (List.drop 0 Xp) (yk s_1 s) (ur s_1 s) (cd (yk s_1) (yn s_1)):=fun K h=>match s,h with | i_1,h=>(ZF h)
theorem RU (s_1):∀ r J K,yn s_1 r K→yn s_1 r (aE J K)
  | (.inl s),_,_,h=>h
  | (.inr s),_,_,h=>h
def SK (s_1:ByteArray):St:=⟨[sv 0 (bc s_1)],[],0⟩
def CG (s_1:ByteArray):PT _ (rE LQ) iK:=.lf (some (bif (decide (1≤(s_1.size:Int))) then (decide ((s_1.size:Int)≤12)) else false)) .ret _<|hh fun _=>l0
theorem Zl {s_1}:Ax tP 40 p6 3 iK (CG s_1) (SK s_1):=.tE mixed [] [2] 2
def ad5 (s_1:ByteArray):St:=⟨[sv 0 (bc s_1),sv 3 (i64 0)],[],0⟩
abbrev y9 (s_1:ByteArray) (r:((Unit) ⊕ (Unit))):Option (Bool):=match r with | (.inl ())=>(some false) | (.inr ())=>((CG s_1).opt)
def uo (s_1:ByteArray):Option (Bool):=(fixL (ur s_1) 0).bind (y9 s_1)
theorem YZ:List.drop 2 p6 = .block 0 (.loop (ah (ah (aP p6 2)))) :: List.drop 3 p6:=by kernel_rfl
theorem ahh (s_1 K):∀ r,W (y9 s_1 r) (rE LQ K)→yn s_1 r (wK (aZ 0 (aE (au tP 40 (List.drop 3 p6) K) K)))
  | (.inl ()),h=>⟨(LQ false),(.refl _),h⟩
  | (.inr ()),h=>⟨(SK s_1),(.refl _),(Zl h)⟩
theorem ZE {s_1 K} (h:W (uo s_1) (rE LQ K)):au tP 40 (List.drop 2 p6) K (ad5 s_1) :=
  au.at_ YZ (au.cons_loop (aC.weak (aC.ent (.refl _) (aC.loopF (x:=ah (ah (aP p6 2))) (f:=ur s_1) (emb:=yk s_1) (E:=yn s_1) (Yi s_1) (RU s_1) (bM h (ahh s_1 K))))))
def acH (s_1:ByteArray):St:=⟨[sv 0 (bc s_1)],[],0⟩
def uI (s_1:ByteArray):PT _ (rE LQ) (dK tP 40 p6 2 iK):=.lf (uo s_1) .normal _<|hh fun _ h=>l0 (ZE h)
theorem ZR {s_1}:Ax tP 40 p6 0 iK (uI s_1) (acH s_1):=.tD mixed [] [0,3,16,17,18,19,20,21,22,23,24,25,26,27,28,29,30,36,37,38] 2
def vP (s_1:ByteArray):Option (Bool):=(uI s_1).opt
def FG:bW:=dH aS vP false KY
theorem MR:bg tP 136 FG:=cJ Tryz.f136 (ao Tryz.f136) [.tmp 2] 40 fun u0 y h=>@ZR u0 _ (bn.2 ⟨y,h,(cx (bl y) (VLe.rfl' _))⟩)
abbrev are:FE tP:=⟨136, .pure FG,MR⟩
noncomputable def Qc:List Code:=aA (ao Tryz.f137)
def KB (x_1:Bool):bN:=.data (bl x_1)
def aaA (x_1:Bool):St:=⟨[sv 2 (bl x_1)],[],0⟩
def aeo:St:=⟨[],[],0⟩
def bL:PT _ (rE aaA) iK:=.lf (some false) .ret _<|hh fun _=>l0
theorem dA:Ax tP 27 Qc 3 iK bL aeo:=.tE mixed [] [2] 2
def afw (s_1:ByteArray):St:=⟨[sv 0 (bc s_1)],[],0⟩
def s9 (s_1:ByteArray):PT _ (rE aaA) (dK tP 27 Qc 3 iK):=.bf (s_1.toList == (am [97,110,100]).toList) (.bf (s_1.toList == (am [97,110,100]).toList) (.lf (some true) .ret _<|hh fun _=>l0) (.lf bL.opt .normal _<|hh fun _ h=>lz (dA h) [] [] [sv 2 (bl false)])) (.bf (s_1.toList == (am [98,101,115,116]).toList) (.bf (s_1.toList == (am [98,101,115,116]).toList) (.lf (some true) .ret _<|hh fun _=>l0) (.lf bL.opt .normal _<|hh fun _ h=>lz (dA h) [] [] [sv 2 (bl false)])) (.bf (s_1.toList == (am [98,121]).toList) (.bf (s_1.toList == (am [98,121]).toList) (.lf (some true) .ret _<|hh fun _=>l0) (.lf bL.opt .normal _<|hh fun _ h=>lz (dA h) [] [] [sv 2 (bl false)])) (.bf (s_1.toList == (am [99,114,101,100,105,116]).toList) (.bf (s_1.toList == (am [99,114,101,100,105,116]).toList) (.lf (some true) .ret _<|hh fun _=>l0) (.lf bL.opt .normal _<|hh fun _ h=>lz (dA h) [] [] [sv 2 (bl false)])) (.bf (s_1.toList == (am [99,117,114,114,101,110,99,121]).toList) (.bf (s_1.toList == (am [99,117,114,114,101,110,99,121]).toList) (.lf (some true) .ret _<|hh fun _=>l0) (.lf bL.opt .normal _<|hh fun _ h=>lz (dA h) [] [] [sv 2 (bl false)])) (.bf (s_1.toList == (am [101,108,115,101]).toList) (.bf (s_1.toList == (am [101,108,115,101]).toList) (.lf (some true) .ret _<|hh fun _=>l0) (.lf bL.opt .normal _<|hh fun _ h=>lz (dA h) [] [] [sv 2 (bl false)])) (.bf (s_1.toList == (am [102,108,111,111,114]).toList) (.bf (s_1.toList == (am [102,108,111,111,114]).toList) (.lf (some true) .ret _<|hh fun _=>l0) (.lf bL.opt .normal _<|hh fun _ h=>lz (dA h) [] [] [sv 2 (bl false)])) (.bf (s_1.toList == (am [102,114,111,109]).toList) (.bf (s_1.toList == (am [102,114,111,109]).toList) (.lf (some true) .ret _<|hh fun _=>l0) (.lf bL.opt .normal _<|hh fun _ h=>lz (dA h) [] [] [sv 2 (bl false)])) (.bf (s_1.toList == (am [103,114,97,110,116]).toList) (.bf (s_1.toList == (am [103,114,97,110,116]).toList) (.lf (some true) .ret _<|hh fun _=>l0) (.lf bL.opt .normal _<|hh fun _ h=>lz (dA h) [] [] [sv 2 (bl false)])) (.bf (s_1.toList == (am [105,102]).toList) (.bf (s_1.toList == (am [105,102]).toList) (.lf (some true) .ret _<|hh fun _=>l0) (.lf bL.opt .normal _<|hh fun _ h=>lz (dA h) [] [] [sv 2 (bl false)])) (.bf (s_1.toList == (am [105,110,100,101,120]).toList) (.bf (s_1.toList == (am [105,110,100,101,120]).toList) (.lf (some true) .ret _<|hh fun _=>l0) (.lf bL.opt .normal _<|hh fun _ h=>lz (dA h) [] [] [sv 2 (bl false)])) (.bf (s_1.toList == (am [108,101,116]).toList) (.bf (s_1.toList == (am [108,101,116]).toList) (.lf (some true) .ret _<|hh fun _=>l0) (.lf bL.opt .normal _<|hh fun _ h=>lz (dA h) [] [] [sv 2 (bl false)])) (.bf (s_1.toList == (am [108,105,109,105,116]).toList) (.bf (s_1.toList == (am [108,105,109,105,116]).toList) (.lf (some true) .ret _<|hh fun _=>l0) (.lf bL.opt .normal _<|hh fun _ h=>lz (dA h) [] [] [sv 2 (bl false)])) (.bf (s_1.toList == (am [109,97,120]).toList) (.bf (s_1.toList == (am [109,97,120]).toList) (.lf (some true) .ret _<|hh fun _=>l0) (.lf bL.opt .normal _<|hh fun _ h=>lz (dA h) [] [] [sv 2 (bl false)])) (.bf (s_1.toList == (am [109,105,110]).toList) (.bf (s_1.toList == (am [109,105,110]).toList) (.lf (some true) .ret _<|hh fun _=>l0) (.lf bL.opt .normal _<|hh fun _ h=>lz (dA h) [] [] [sv 2 (bl false)])) (.bf (s_1.toList == (am [110,111,116]).toList) (.bf (s_1.toList == (am [110,111,116]).toList) (.lf (some true) .ret _<|hh fun _=>l0) (.lf bL.opt .normal _<|hh fun _ h=>lz (dA h) [] [] [sv 2 (bl false)])) (.bf (s_1.toList == (am [111,114]).toList) (.bf (s_1.toList == (am [111,114]).toList) (.lf (some true) .ret _<|hh fun _=>l0) (.lf bL.opt .normal _<|hh fun _ h=>lz (dA h) [] [] [sv 2 (bl false)])) (.bf (s_1.toList == (am [112,97,121]).toList) (.bf (s_1.toList == (am [112,97,121]).toList) (.lf (some true) .ret _<|hh fun _=>l0) (.lf bL.opt .normal _<|hh fun _ h=>lz (dA h) [] [] [sv 2 (bl false)])) (.bf (s_1.toList == (am [114,101,100,117,99,101]).toList) (.bf (s_1.toList == (am [114,101,100,117,99,101]).toList) (.lf (some true) .ret _<|hh fun _=>l0) (.lf bL.opt .normal _<|hh fun _ h=>lz (dA h) [] [] [sv 2 (bl false)])) (.bf (s_1.toList == (am [114,111,117,110,100]).toList) (.bf (s_1.toList == (am [114,111,117,110,100]).toList) (.lf (some true) .ret _<|hh fun _=>l0) (.lf bL.opt .normal _<|hh fun _ h=>lz (dA h) [] [] [sv 2 (bl false)])) (.bf (s_1.toList == (am [115,116,97,116,117,116,101]).toList) (.bf (s_1.toList == (am [115,116,97,116,117,116,101]).toList) (.lf (some true) .ret _<|hh fun _=>l0) (.lf bL.opt .normal _<|hh fun _ h=>lz (dA h) [] [] [sv 2 (bl false)])) (.bf (s_1.toList == (am [116,104,101,110]).toList) (.lf (some true) .ret _<|hh fun _=>l0) (.lf bL.opt .normal _<|hh fun _ h=>lz (dA h) [] [] [sv 2 (bl false)]))))))))))))))))))))))
theorem Yu {s_1}:Ax tP 27 Qc 0 iK (s9 s_1) (afw s_1):=.tD mixed [] [2] 3
def oA (s_1:ByteArray):Option (Bool):=(s9 s_1).opt
def C5:bW:=dH aS oA false KB
theorem KE:bg tP 137 C5:=cJ Tryz.f137 (ao Tryz.f137) [.tmp 2] 27 fun u0 y h=>@Yu u0 _ (bn.2 ⟨y,h,(cx (bl y) (VLe.rfl' _))⟩)
abbrev aqJ:FE tP:=⟨137, .pure C5,KE⟩
noncomputable def akb:List Code:=aA (ao Tryz.f110)
def Lf (x_1:Bool):bN:=.data (bl x_1)
def aoW (x_1:Bool):St:=⟨[sv 2 (bl x_1)],[],0⟩
def aeG (s_1:ByteArray):St:=⟨[sv 0 (bc s_1)],[],0⟩
def ug (s_1:ByteArray):PT _ (rE aoW) iK:=.bd (vP s_1) false fun r_2=>.g1 ((r_2&&true) = true→(oA s_1).isSome = true)<|.lf (some (bif r_2 then (!((oA s_1).getD false)) else false)) .ret _<|hh fun _=>l0
theorem YE {s_1}:Ax tP 10 akb 0 iK (ug s_1) (aeG s_1):=.tE mixed [are,aqJ] [2] 3
def np (s_1:ByteArray):Option (Bool):=(ug s_1).opt
def F9:bW:=dH aS np false Lf
theorem MH:bg tP 110 F9:=cJ Tryz.f110 (ao Tryz.f110) [.tmp 2] 10 fun u0 y h=>@YE u0 _ (bn.2 ⟨y,h,(cx (bl y) (VLe.rfl' _))⟩)
abbrev aqk:FE tP:=⟨110, .pure F9,MH⟩
def mX:List V→Option ((az) × List Prop)
  | [(.agg [(.c (.lit (.int .i64 a1))),(.c (.lit (.int .i64 a2))),(.c (.lit (.int .i64 a3))),(.c (.lit (.int .i64 a4))),(.c (.lit (.string a5))),(.c (.sl k6 n7 e8))])]=>bif true then some (((az.mk a1 (aH.mk a2 a3) a4 a5 (lst dGExpr n7 e8))),[aK ea dGExpr 6 k6 n7 e8]) else none
  | _=>none
def ki (x_1:Bool):bN:=.data (bl x_1)
class P7 where
  F:az→Option (Bool)
  ok:bg tP 87 (pY mX ki false (fun a=>F a))
section
variable [P7]
abbrev Mx:=(pY mX ki false (fun a=>P7.F a))
abbrev apQ:FE tP:=⟨87, .pure Mx,P7.ok⟩
noncomputable def qq:List Code:=aA (ao Tryz.f87)
noncomputable def aaI:List Code:=aA (ah (ah (aP qq 7)))
def J4 (x_1:Bool):St:=⟨[sv 2 (bl x_1)],[],0⟩
theorem am1 (x_1:Bool):ez tP [.tmp 2] (dI (ki x_1)) .ret (J4 x_1) :=
  ez.intro (v:=(bl x_1)) (by kernel_rfl) ((VLe.rfl' _))
def Do (zero:Bool) (e_1:az) (s:(Int)):St:=match s with | i_1=>⟨[sv 1 (.ptr 0 6 0 0),sv 3 (bl zero),sv 6 (i64 i_1)],[(0,some (.box [(i64 e_1.Op),(i64 e_1.Value.Num),(i64 e_1.Value.Den),(i64 e_1.Dim),(bc e_1.Name),(bp e_1.Args)]))],1⟩
def ads (zero:Bool) (e_1:az) (s:Unit):St:=match s with | ()=>⟨[sv 2 (bl false)],[],0⟩
def aik (zero:Bool) (e_1:az) (s:Unit):St:=match s with | ()=>⟨[sv 3 (bl zero)],[],0⟩
def B5 (zero:Bool) (e_1:az) (r:((Unit) ⊕ (Unit))) (K:KT):Prop:=match r with | (.inl s)=>K .ret (ads zero e_1 s) | (.inr s)=>K (.exit 1) (aik zero e_1 s)
def ai7 (zero:Bool) (i_1:Int) (e_1:az):St:=Do zero e_1 i_1
def mG (zero:Bool) (i_1:Int) (e_1:az):PT _ (nE (Do zero e_1) (B5 zero e_1)) iK:=.bf (decide (i_1 < (e_1.Args.length:Int))) (.g2 (0≤i_1) (i_1 < (e_1.Args.length:Int))<|.tv (aK ea dGExpr 6 6 (((e_1.Args.getD (Int.toNat i_1) aO).Args).length) (aGExpr ((e_1.Args.getD (Int.toNat i_1) aO).Args))) (ae.ok eX (ae.aGExpr ((e_1.Args.getD (Int.toNat i_1) aO).Args)))<|.ls (a:=lst dGExpr (((e_1.Args.getD (Int.toNat i_1) aO).Args).length) (aGExpr ((e_1.Args.getD (Int.toNat i_1) aO).Args))) (lr eX (ae.aGExpr ((e_1.Args.getD (Int.toNat i_1) aO).Args))) fun L1_=>.bd (P7.F (az.mk (e_1.Args.getD (Int.toNat i_1) aO).Op (aH.mk ((e_1.Args.getD (Int.toNat i_1) aO).Value).Num ((e_1.Args.getD (Int.toNat i_1) aO).Value).Den) (e_1.Args.getD (Int.toNat i_1) aO).Dim (e_1.Args.getD (Int.toNat i_1) aO).Name L1_)) false fun r_4=>.bf (!r_4) (.lf (some (Sum.inr (Sum.inl ()))) .ret (⟨[sv 1 (.ptr 0 6 0 0),sv 2 (bl false),sv 3 (bl zero),sv 6 (i64 i_1)],[(0,some (.box [(i64 e_1.Op),(i64 e_1.Value.Num),(i64 e_1.Value.Den),(i64 e_1.Dim),(bc e_1.Name),(bp e_1.Args)]))],1⟩)<|hh fun _=>lg (.cn [2])) (.lf (some (Sum.inl (ai (i_1+1)))) .normal _<|hh fun _=>l0)) (.lf (some (Sum.inr (Sum.inr ()))) (.exit 1) (Do zero e_1 i_1)<|hh fun _=>lg (.cn [3]))
theorem agq {zero i_1 e_1}:Ax tP 105 aaI 0 iK (mG zero i_1 e_1) (ai7 zero i_1 e_1):=.tE mixed [apQ] [1,2,3,6] 4
def rn (zero:Bool) (e_1:az) (s:(Int)):Option ((Int) ⊕ ((Unit) ⊕ (Unit))):=match s with | i_1=>(mG zero i_1 e_1).opt
theorem af2 (zero e_1 s):Pp tP 105 (List.drop 0 aaI) (Do zero e_1 s) (rn zero e_1 s) (cd (Do zero e_1) (B5 zero e_1)):=fun K h=>match s,h with | i_1,h=>(agq h)
theorem Ua (zero e_1):∀ r J K,B5 zero e_1 r K→B5 zero e_1 r (aE J K)
  | (.inl s),_,_,h=>h
  | (.inr s),_,_,h=>h
def VD (zero:Bool):St:=⟨[sv 3 (bl zero)],[],0⟩
def zp (zero:Bool):PT _ (rE J4) iK:=.lf (some zero) .ret _<|hh fun _=>l0
theorem ab3 {zero}:Ax tP 105 qq 8 iK (zp zero) (VD zero):=.tE mixed [] [2] 2
def ajs (zero:Bool) (e_1:az):St:=⟨[sv 1 (.ptr 0 6 0 0),sv 3 (bl zero),sv 6 (i64 0)],[(0,some (.box [(i64 e_1.Op),(i64 e_1.Value.Num),(i64 e_1.Value.Den),(i64 e_1.Dim),(bc e_1.Name),(bp e_1.Args)]))],1⟩
abbrev vW (zero:Bool) (e_1:az) (r:((Unit) ⊕ (Unit))):Option (Bool):=match r with | (.inl ())=>(some false) | (.inr ())=>((zp zero).opt)
def qW (zero:Bool) (e_1:az):Option (Bool):=(fixL (rn zero e_1) 0).bind (vW zero e_1)
theorem ah1:List.drop 7 qq = .block 1 (.loop (ah (ah (aP qq 7)))) :: List.drop 8 qq:=by kernel_rfl
theorem alh (zero e_1 K):∀ r,W (vW zero e_1 r) (rE J4 K)→B5 zero e_1 r (wK (aZ 1 (aE (au tP 105 (List.drop 8 qq) K) K)))
  | (.inl ()),h=>⟨(J4 false),(.refl _),h⟩
  | (.inr ()),h=>⟨(VD zero),(.refl _),(ab3 h)⟩
theorem adR {zero e_1 K} (h:W (qW zero e_1) (rE J4 K)):au tP 105 (List.drop 7 qq) K (ajs zero e_1) :=
  au.at_ ah1 (au.cons_loop (aC.weak (aC.ent (.refl _) (aC.loopF (x:=ah (ah (aP qq 7))) (f:=rn zero e_1) (emb:=Do zero e_1) (E:=B5 zero e_1) (af2 zero e_1) (Ua zero e_1) (bM h (alh zero e_1 K))))))
def ak6 (zero:Bool) (e_1:az):St:=⟨[sv 1 (.ptr 0 6 0 0),sv 3 (bl zero),sv 29 (i64 e_1.Op)],[(0,some (.box [(i64 e_1.Op),(i64 e_1.Value.Num),(i64 e_1.Value.Den),(i64 e_1.Dim),(bc e_1.Name),(bp e_1.Args)]))],1⟩
def rg (zero:Bool) (e_1:az):PT _ (rE J4) (dK tP 105 qq 7 iK):=.bf (e_1.Op == 1) (.bd (kv e_1.Value e_1.Dim) ((am []),false) fun r_5=>.lf (some (bif r_5.2 then (e_1.Name.toList == (am []).toList) else false)) .ret (⟨[sv 1 (.ptr 0 6 0 0),sv 2 (bl (bif r_5.2 then (e_1.Name.toList == (am []).toList) else false)),sv 3 (bl zero)],[(0,some (.box [(i64 e_1.Op),(i64 e_1.Value.Num),(i64 e_1.Value.Den),(i64 e_1.Dim),(bc e_1.Name),(bp e_1.Args)]))],1⟩)<|hh fun _=>lg (.cn [2])) (.bf (e_1.Op == 2) (.g1 (((bif ((e_1.Value.Num == 0)&&((e_1.Value.Den == 0)&&true)) then (e_1.Dim == 0) else false)&&true) = true→(np e_1.Name).isSome = true)<|.lf (some (bif (bif ((e_1.Value.Num == 0)&&((e_1.Value.Den == 0)&&true)) then (e_1.Dim == 0) else false) then ((np e_1.Name).getD false) else false)) .ret (⟨[sv 1 (.ptr 0 6 0 0),sv 2 (bl (bif (bif ((e_1.Value.Num == 0)&&((e_1.Value.Den == 0)&&true)) then (e_1.Dim == 0) else false) then ((np e_1.Name).getD false) else false)),sv 3 (bl zero)],[(0,some (.box [(i64 e_1.Op),(i64 e_1.Value.Num),(i64 e_1.Value.Den),(i64 e_1.Dim),(bc e_1.Name),(bp e_1.Args)]))],1⟩)<|hh fun _=>lg (.cn [2])) (.bf (e_1.Op == 3) (.lf (some (bif (bif (bif (bif (e_1.Dim == 0) then (e_1.Name.toList == (am []).toList) else false) then (e_1.Value.Den == 1) else false) then (decide (1≤e_1.Value.Num)) else false) then (decide (e_1.Value.Num≤45)) else false)) .ret (⟨[sv 1 (.ptr 0 6 0 0),sv 2 (bl (bif (bif (bif (bif (e_1.Dim == 0) then (e_1.Name.toList == (am []).toList) else false) then (e_1.Value.Den == 1) else false) then (decide (1≤e_1.Value.Num)) else false) then (decide (e_1.Value.Num≤45)) else false)),sv 3 (bl zero)],[(0,some (.box [(i64 e_1.Op),(i64 e_1.Value.Num),(i64 e_1.Value.Den),(i64 e_1.Dim),(bc e_1.Name),(bp e_1.Args)]))],1⟩)<|hh fun _=>lg (.cn [2])) (.lf (qW zero e_1) .normal _<|hh fun _ h=>l0 (adR h))))
theorem abp {zero e_1}:Ax tP 105 qq 5 iK (rg zero e_1) (ak6 zero e_1):=.tD mixed [aqP,aqk] [1,2,3,6] 2
def am2 (e_1:az):St:=⟨[sv 0 (.agg [(i64 e_1.Op),(i64 e_1.Value.Num),(i64 e_1.Value.Den),(i64 e_1.Dim),(bc e_1.Name),(bp e_1.Args)])],[],0⟩
def ra (e_1:az):PT _ (rE J4) (dK tP 105 qq 5 iK):=.bd (zY e_1.Op) 0 fun r_6=>.bf ((e_1.Args.length:Int) != r_6) (.lf (some false) .ret (⟨[sv 1 (.ptr 0 6 0 0),sv 2 (bl false)],[(0,some (.box [(i64 e_1.Op),(i64 e_1.Value.Num),(i64 e_1.Value.Den),(i64 e_1.Dim),(bc e_1.Name),(bp e_1.Args)]))],1⟩)<|hh fun _=>lg (.cn [2])) (.lf ((rg (bif (bif ((e_1.Value.Num == 0)&&((e_1.Value.Den == 0)&&true)) then (e_1.Dim == 0) else false) then (e_1.Name.toList == (am []).toList) else false) e_1).opt) .normal _<|hh fun _ h=>lz (abp h) [1,3,29] [] [sv 2 (bl false)])
theorem abq {e_1}:Ax tP 105 qq 0 iK (ra e_1) (am2 e_1):=.tD mixed [aqv] [1,2,3,29,42,43,44,53,54,55,58,59,60,68,69,70,73,74,75,76,79,80,81,82,85,86,87,88] 5
def qn (e_1:az):Option (Bool):=(ra e_1).opt
theorem Kk:bg tP 87 (pY mX ki false (fun a=>qn a)):=by
  refine PY (fn:=Tryz.f87) (c:=ao Tryz.f87) (by kernel_rfl) (by kernel_rfl) (by kernel_rfl) (rs:=[.tmp 2]) (by kernel_rfl) (nt:=105) (by kernel_rfl) fun vs a ps h hp y hy=>?_
  unfold mX at h
  split at h
  · next a1 a2 a3 a4 a5 k6 n7 e8 =>
    cases hb:(true) with
    | false=>rw [hb] at h; cases h
    | true =>
      rw [hb] at h
      cases h
      obtain ⟨g0,hp⟩:=co hp
      exact ⟨[(.agg [(i64 (az.mk a1 (aH.mk a2 a3) a4 a5 (lst dGExpr n7 e8)).Op),(i64 ((az.mk a1 (aH.mk a2 a3) a4 a5 (lst dGExpr n7 e8)).Value).Num),(i64 ((az.mk a1 (aH.mk a2 a3) a4 a5 (lst dGExpr n7 e8)).Value).Den),(i64 (az.mk a1 (aH.mk a2 a3) a4 a5 (lst dGExpr n7 e8)).Dim),(bc ((az.mk a1 (aH.mk a2 a3) a4 a5 (lst dGExpr n7 e8)).Name)),(bp ((az.mk a1 (aH.mk a2 a3) a4 a5 (lst dGExpr n7 e8)).Args))])],(VLes.cons (VLe.agg (VLes.cons (VLe.rfl' _) (VLes.cons (VLe.rfl' _) (VLes.cons (VLe.rfl' _) (VLes.cons (VLe.rfl' _) (VLes.cons (VLe.rfl' _) (VLes.cons (VLe.slk g0.1 (ae.of_ok g0)) VLes.nil))))))) VLes.nil),rfl, @abq _ (az.mk a1 (aH.mk a2 a3) a4 a5 (lst dGExpr n7 e8)) _ (bn.2 ⟨y,hy,am1 y⟩)⟩
  · cases h
end
abbrev wx:Nat→P7
  | 0=>⟨fun _=>none,BK⟩
  | n+1=>⟨@qn (wx n), @Kk (wx n)⟩
def uW (e_1:az):Option (Bool):=uK fun n=>(wx n).F e_1
def FA:=(pY mX ki false (fun a=>uW a))
theorem K9:bg tP 87 FA:=Eo (F:=fun n (a:az)=>(wx n).F  a) fun n=>(wx n).ok
abbrev e87:FE tP:=⟨87, .pure FA,K9⟩
noncomputable def apu:List Code:=aA (ao Tryz.f65)
def oC (x_1:Bool):bN:=.data (bl x_1)
def akM (x_1:Bool):St:=⟨[sv 2 (bl x_1)],[],0⟩
theorem akm (x_1:Bool):ez tP [.tmp 2] (dI (oC x_1)) .ret (akM x_1) :=
  ez.intro (v:=(bl x_1)) (by kernel_rfl) ((VLe.rfl' _))
def XD (e_1:az):St:=⟨[sv 0 (.agg [(i64 e_1.Op),(i64 e_1.Value.Num),(i64 e_1.Value.Den),(i64 e_1.Dim),(bc e_1.Name),(bp e_1.Args)])],[],0⟩
def pT (e_1:az):PT _ (rE akM) iK:=.lk Wj e_1.Args fun L1_=>.bd (Fe (az.mk e_1.Op (aH.mk e_1.Value.Num e_1.Value.Den) e_1.Dim e_1.Name L1_)) 0 fun r_2=>.tv (((decide (r_2≤10))&&true) = true→WJ e_1.Args) (fun _=>kb eX)<|.g1 (((decide (r_2≤10))&&true) = true→(rU (az.mk e_1.Op (aH.mk e_1.Value.Num e_1.Value.Den) e_1.Dim e_1.Name L1_)).isSome = true)<|.tv (((bif (decide (r_2≤10)) then (decide (((rU (az.mk e_1.Op (aH.mk e_1.Value.Num e_1.Value.Den) e_1.Dim e_1.Name L1_)).getD 0)≤60)) else false)&&true) = true→WJ e_1.Args) (fun _=>kb eX)<|.g1 (((bif (decide (r_2≤10)) then (decide (((rU (az.mk e_1.Op (aH.mk e_1.Value.Num e_1.Value.Den) e_1.Dim e_1.Name L1_)).getD 0)≤60)) else false)&&true) = true→(uW (az.mk e_1.Op (aH.mk e_1.Value.Num e_1.Value.Den) e_1.Dim e_1.Name L1_)).isSome = true)<|.lf (some (bif (bif (decide (r_2≤10)) then (decide (((rU (az.mk e_1.Op (aH.mk e_1.Value.Num e_1.Value.Den) e_1.Dim e_1.Name L1_)).getD 0)≤60)) else false) then ((uW (az.mk e_1.Op (aH.mk e_1.Value.Num e_1.Value.Den) e_1.Dim e_1.Name L1_)).getD false) else false)) .ret _<|hh fun _=>l0
theorem ahu {e_1}:Ax tP 15 apu 0 iK (pT e_1) (XD e_1):=.tE mixed [e85,e86,e87] [2] 3
def jt (e_1:az):Option (Bool):=(pT e_1).opt
theorem aiC (e_1:az) (y_:Bool) (h:jt e_1 = some y_):au tP 15 (aA (ao Tryz.f65)) (ez tP [.tmp 2] (dI (oC y_))) (XD e_1) :=
  @ahu e_1 _ (bn.2 ⟨y_,h,akm y_⟩)
def qY:bW
  | [(.agg [(.c (.lit (.int .i64 a1))),(.c (.lit (.int .i64 a2))),(.c (.lit (.int .i64 a3))),(.c (.lit (.int .i64 a4))),(.c (.lit (.string a5))),(.c (.sl k6 n7 e8))])]=>some ([aK ea dGExpr 6 k6 n7 e8,(jt (az.mk a1 (aH.mk a2 a3) a4 a5 (lst dGExpr n7 e8))).isSome = true],(oC ((jt (az.mk a1 (aH.mk a2 a3) a4 a5 (lst dGExpr n7 e8))).getD false)))
  | _=>none
theorem I1:bg tP 65 qY:=by
  refine oL (fn:=Tryz.f65) (c:=ao Tryz.f65) (by kernel_rfl) (by kernel_rfl) (by kernel_rfl) (rs:=[.tmp 2]) (by kernel_rfl) (nt:=15) (by kernel_rfl) fun vs p out h hp=>?_
  unfold qY at h
  split at h
  · next a1 a2 a3 a4 a5 k6 n7 e8 =>
    cases h
    obtain ⟨g0,hp⟩:=co hp
    obtain ⟨g,hp⟩:=co hp
    obtain ⟨x,hx⟩:=Option.isSome_iff_exists.1 g
    rw [hx]
    exact ⟨[(.agg [(i64 (az.mk a1 (aH.mk a2 a3) a4 a5 (lst dGExpr n7 e8)).Op),(i64 ((az.mk a1 (aH.mk a2 a3) a4 a5 (lst dGExpr n7 e8)).Value).Num),(i64 ((az.mk a1 (aH.mk a2 a3) a4 a5 (lst dGExpr n7 e8)).Value).Den),(i64 (az.mk a1 (aH.mk a2 a3) a4 a5 (lst dGExpr n7 e8)).Dim),(bc ((az.mk a1 (aH.mk a2 a3) a4 a5 (lst dGExpr n7 e8)).Name)),(bp ((az.mk a1 (aH.mk a2 a3) a4 a5 (lst dGExpr n7 e8)).Args))])],(VLes.cons (VLe.agg (VLes.cons (VLe.rfl' _) (VLes.cons (VLe.rfl' _) (VLes.cons (VLe.rfl' _) (VLes.cons (VLe.rfl' _) (VLes.cons (VLe.rfl' _) (VLes.cons (VLe.slk g0.1 (ae.of_ok g0)) VLes.nil))))))) VLes.nil),rfl,aiC (az.mk a1 (aH.mk a2 a3) a4 a5 (lst dGExpr n7 e8)) x hx⟩
  · cases h
abbrev e65:FE tP:=⟨65, .pure qY,I1⟩
def gC:List V→List Ob→Option ((aa × Int × (List ax)) × List Prop)
  | [(.ptr p1 k2 i3 j4),(.c (.lit (.int .i64 a5))),(.row q6 k7 f8 n9)],[.box [(.c (.sl k10 n11 Dk)),(.c (.lit (.int .i64 a13))),(.c (.lit (.int .i64 a14)))], .row t15 k16 m17 e18]=>bif Nat.beq p1 0&&Nat.beq k2 3&&Nat.beq i3 0&&Nat.beq j4 0&&Nat.beq q6 1&&Nat.beq k7 2&&Nat.beq f8 0&&Nat.beq t15 103&&Nat.beq k16 2 then some (((aa.mk (lst bm n11 Dk) a13 a14),a5,(lst cY m17 e18)),[aK aT bm 1 k10 n11 Dk,n9 = m17,aK dQ cY 2 2 m17 e18]) else none
  | _,_=>none
def fJ (x_1:(az × aa)):V:=(.agg [(i64 x_1.1.Op),(i64 x_1.1.Value.Num),(i64 x_1.1.Value.Den),(i64 x_1.1.Dim),(bc x_1.1.Name),(bp x_1.1.Args)])
def fB (os:List Ob) (x_1:(az × aa)):List Ob:=[(.box [(fC x_1.2.l),(i64 x_1.2.at_),(i64 x_1.2.left)]),LK os 1]
class v7 where
  F:aa→Int→(List ax)→Option ((az × aa))
  ok:bV tP 66 (.mut (lP true [true,false,true] (ly gC fJ fB [false,false] (aO,af) (fun a=>F a.1 a.2.1 a.2.2))))
section
variable [v7]
abbrev D8:=(lP true [true,false,true] (ly gC fJ fB [false,false] (aO,af) (fun a=>v7.F a.1 a.2.1 a.2.2)))
abbrev aip:FE tP:=⟨66, .mut D8,v7.ok⟩
noncomputable def nm:List Code:=aA (ao Tryz.f66)
noncomputable def SB:List Code:=aA (ah (ah (aP nm 6)))
def Hq (env:(List ax)) (x_1:(az × aa)):St:=⟨[sv 6 (.ptr 0 6 0 0),sv 1000000 (.ptr 1 3 0 0),sv 1000001 (.row 2 2 0 env.length)],[(0,some (.box [(i64 x_1.1.Op),(i64 x_1.1.Value.Num),(i64 x_1.1.Value.Den),(i64 x_1.1.Dim),(bc x_1.1.Name),(bp x_1.1.Args)])),(1,some (.box [(fC x_1.2.l),(i64 x_1.2.at_),(i64 x_1.2.left)])),(aF 2 103 env)],3⟩
theorem YP (env:(List ax)) (x_1:(az × aa)) {ps:List Prop} {c0:List V} {t1 n1:Nat} {e1:Nat→List D} (h0:c0.length = 3) (h1:n1 = env.length) (o1:pQ (.row 103 2 env.length (aV dQ cA env)) (.row t1 2 n1 e1)):ep tP [.cell 6 98] (fun σ v=>∃ qs,qo true [.box c0, .row t1 2 n1 e1] ⟨ps,fJ x_1,fB [.box c0, .row t1 2 n1 e1] x_1,[false,false]⟩ qs σ v) .ret (Hq env x_1) :=
  ep.intro (v:=(.agg [(i64 x_1.1.Op),(i64 x_1.1.Value.Num),(i64 x_1.1.Value.Den),(i64 x_1.1.Dim),(bc x_1.1.Name),(bp x_1.1.Args)])) (by kernel_rfl) ⟨[1,2],rfl,rfl,VLe.rfl' _,(.inl rfl),⟨⟨_,rfl,show VLes _ _ from VLes.rfl' _,rfl,rfl,(.inl rfl), .inr ⟨trivial,by rw [dl,h0]; rfl⟩⟩,⟨⟨_,rfl,o1,rfl,rfl,(.inl rfl), .inr ⟨h1,by rw [dl,h1]; rfl⟩⟩,trivial⟩⟩⟩
def uz (dim:Int) (env:(List ax)) (names:(List ByteArray)) (s_2:aa) (s:((List ByteArray) × Int)):St:=match s with | (names_1,i_1)=>⟨[sv 0 (.ptr 0 3 0 0),sv 1 (i64 dim),sv 2 (.row 1 2 0 env.length),sv 6 (.ptr 2 6 0 0),sv 8 (.row 3 1 0 names_1.length),sv 9 (i64 i_1),sv 1000000 (.ptr 0 3 0 0),sv 1000001 (.row 1 2 0 env.length)],[(0,some (.bx (ak s_2))),(aF 1 103 env),(2,some (.box [(i64 0),(i64 0),(i64 0),(i64 0),(bc (am [])),(.c .nil)])),(xf 3 9 names_1)],4⟩
def V4 (dim:Int) (env:(List ax)) (names:(List ByteArray)) (s_2:aa) (s:(List ByteArray)):St:=match s with | names_2=>⟨[sv 0 (.ptr 0 3 0 0),sv 1 (i64 dim),sv 6 (.ptr 1 6 0 0),sv 8 (.row 2 1 0 names_2.length),sv 1000000 (.ptr 0 3 0 0),sv 1000001 (.row 3 2 0 env.length)],[(0,some (.bx (ak s_2))),(1,some (.box [(i64 0),(i64 0),(i64 0),(i64 0),(bc (am [])),(.c .nil)])),(xf 2 9 names_2),(aF 3 103 env)],4⟩
def uC (dim:Int) (env:(List ax)) (names:(List ByteArray)) (s_2:aa) (r:(((List ByteArray)))) (K:KT):Prop:=match r with | s=>K (.exit 0) (V4 dim env names s_2 s)
def YG (dim:Int) (env:(List ax)) (names_1:(List ByteArray)) (i_1:Int) (s_2:aa):St:=uz dim env ([]:List ByteArray) s_2 (names_1,i_1)
def gM (dim:Int) (env:(List ax)) (names_1:(List ByteArray)) (i_1:Int) (s_2:aa):PT _ (nE (uz dim env ([]:List ByteArray) s_2) (uC dim env ([]:List ByteArray) s_2)) iK:=.bf (decide (i_1 < (env.length:Int))) (.g2 (0≤i_1) (i_1 < (env.length:Int))<|.bf ((env.getD (0+(Int.toNat i_1)) cA).Dim == dim) (.g2 (0≤i_1) (i_1 < (env.length:Int))<|.tv (names_1.length = names_1.length) rfl<|.gc (names_1.length+1) 16<|.lf (some (Sum.inl ((names_1++([(env.getD (0+(Int.toNat i_1)) cA).Name]:List ByteArray)),(ai (i_1+1))))) .normal (⟨[sv 0 (.ptr 0 3 0 0),sv 1 (i64 dim),sv 2 (.row 1 2 0 env.length),sv 6 (.ptr 2 6 0 0),sv 8 (.row 3 1 0 (names_1.length+1)),sv 9 (i64 (ai (i_1+1))),sv 1000000 (.ptr 0 3 0 0),sv 1000001 (.row 1 2 0 env.length)],[(0,some (.bx (ak s_2))),(aF 1 103 env),(2,some (.box [(i64 0),(i64 0),(i64 0),(i64 0),(bc (am [])),(.c .nil)])),(3,some (.row 9 1 (names_1.length+1) (fun i=>bif Nat.blt i names_1.length then (Vc names_1) i else (fun i=>(Vc ([(env.getD (0+(Int.toNat i_1)) cA).Name]:List ByteArray)) (0+i)) (i - names_1.length))))],4⟩)<|hh fun _=>lg (.of (.qs 4 (.cons rfl (.rown (bS rfl rfl)) (.qs 3 .nil))) (.same rfl (.same rfl (.same rfl (.row rfl (ae.app .b (ae.zero (ae.ls Fw (am []) ([(env.getD (0+(Int.toNat i_1)) cA).Name]:List ByteArray)))) .nil rfl)))) rfl)) (.lf (some (Sum.inl (names_1,(ai (i_1+1))))) .normal _<|hh fun _=>l0)) (.lf (some (Sum.inr names_1)) (.exit 0) (uz dim env ([]:List ByteArray) s_2 (names_1,i_1))<|hh fun _=>lg (.cn [0,1,6,8,1000000,1000001]))
theorem XH {dim env names_1 i_1 s_2}:Ax tP 90 SB 0 iK (gM dim env names_1 i_1 s_2) (YG dim env names_1 i_1 s_2):=.tE mixed [] [0,1,2,6,8,9,76,77,78,79,1000000,1000001] 4
def j0 (dim:Int) (env:(List ax)) (names:(List ByteArray)) (s_2:aa) (s:((List ByteArray) × Int)):Option (((List ByteArray) × Int) ⊕ (((List ByteArray)))):=match s with | (names_1,i_1)=>(gM dim env names_1 i_1 s_2).opt
theorem Xy (dim env names s_2 s):Pp tP 90 (List.drop 0 SB) (uz dim env names s_2 s) (j0 dim env names s_2 s) (cd (uz dim env names s_2) (uC dim env names s_2)):=fun K h=>match s,h with | (names_1,i_1),h=>(XH h)
theorem PA (dim env names s_2):∀ r J K,uC dim env names s_2 r K→uC dim env names s_2 r (aE J K)
  | s,_,_,h=>h
def Qg (dim:Int) (names_3:(List ByteArray)) (env:(List ax)) (s_2:aa):St:=⟨[sv 0 (.ptr 0 3 0 0),sv 1 (i64 dim),sv 6 (.ptr 1 6 0 0),sv 8 (.row 2 1 0 names_3.length),sv 1000000 (.ptr 0 3 0 0),sv 1000001 (.row 3 2 0 env.length)],[(0,some (.bx (ak s_2))),(1,some (.box [(i64 0),(i64 0),(i64 0),(i64 0),(bc (am [])),(.c .nil)])),(xf 2 9 names_3),(aF 3 103 env)],4⟩
def gL (dim:Int) (names_3:(List ByteArray)) (env:(List ax)) (s_2:aa):PT _ (rE (Hq env)) iK:=.lk bC s_2.l fun L1_=>.bd (bk (aa.mk L1_ s_2.at_ s_2.left) (ai ((names_3.length:Int)+3))) (0,af) fun r_9=>.bf (decide (r_9.1 < (names_3.length:Int))) (.g2 (0≤r_9.1) (r_9.1 < (names_3.length:Int))<|.lf (some ((az.mk 2 (aH.mk 0 0) 0 (names_3.getD (0+(Int.toNat r_9.1)) (am [])) ([]:List az)),r_9.2)) .ret (⟨[sv 6 (.ptr 0 6 0 0),sv 1000000 (.ptr 1 3 0 0),sv 1000001 (.row 2 2 0 env.length)],[(0,some (.box [(i64 2),(i64 0),(i64 0),(i64 0),(bc (names_3.getD (0+(Int.toNat r_9.1)) (am []))),(.c .nil)])),(1,some (.bx (ak r_9.2))),(aF 2 103 env)],3⟩)<|hh fun _=>lg (.of (.qs 3 .nil) (.box rfl (.cons .r (.cons .r (.cons .r (.cons .r (.cons .r (.cons (.nilsl ea aO 6) .nil)))))) (.same rfl (.same rfl .nil))) rfl)) (.bf (bif (dim == 4) then (r_9.1 == (names_3.length:Int)) else false) (.lk bC r_9.2.l fun L2_=>.bd (bk (aa.mk L2_ r_9.2.at_ r_9.2.left) 5) (0,af) fun r_10=>.lf (some ((az.mk 3 (aH.mk (ai (1+r_10.1)) 1) 0 (am []) ([]:List az)),r_10.2)) .ret (⟨[sv 6 (.ptr 0 6 0 0),sv 1000000 (.ptr 1 3 0 0),sv 1000001 (.row 2 2 0 env.length)],[(0,some (.box [(i64 3),(i64 (ai (1+r_10.1))),(i64 1),(i64 0),(bc (am [])),(.c .nil)])),(1,some (.bx (ak r_10.2))),(aF 2 103 env)],3⟩)<|hh fun _=>lg (.of (.qs 3 .nil) (.box rfl (.cons .r (.cons .r (.cons .r (.cons .r (.cons .r (.cons (.nilsl ea aO 6) .nil)))))) (.same rfl (.same rfl .nil))) rfl)) (.lk bC r_9.2.l fun L3_=>.bd (iB (aa.mk L3_ r_9.2.at_ r_9.2.left)) (gA,af) fun r_11=>.lf (some ((az.mk 1 r_11.1 dim (am []) ([]:List az)),r_11.2)) .ret (⟨[sv 6 (.ptr 0 6 0 0),sv 1000000 (.ptr 1 3 0 0),sv 1000001 (.row 2 2 0 env.length)],[(0,some (.box [(i64 1),(i64 r_11.1.Num),(i64 r_11.1.Den),(i64 dim),(bc (am [])),(.c .nil)])),(1,some (.bx (ak r_11.2))),(aF 2 103 env)],3⟩)<|hh fun _=>lg (.of (.qs 3 .nil) (.box rfl (.cons .r (.cons .r (.cons .r (.cons .r (.cons .r (.cons (.nilsl ea aO 6) .nil)))))) (.same rfl (.same rfl .nil))) rfl)))
theorem VR {dim names_3 env s_2}:Ax tP 90 nm 7 iK (gL dim names_3 env s_2) (Qg dim names_3 env s_2):=.tE mixed [SH,e89] [6,1000000,1000001] 7
def Y1 (dim:Int) (env:(List ax)) (names:(List ByteArray)) (s_2:aa):St:=⟨[sv 0 (.ptr 0 3 0 0),sv 1 (i64 dim),sv 2 (.row 1 2 0 env.length),sv 6 (.ptr 2 6 0 0),sv 8 (.row 3 1 0 names.length),sv 9 (i64 0),sv 1000000 (.ptr 0 3 0 0),sv 1000001 (.row 1 2 0 env.length)],[(0,some (.bx (ak s_2))),(aF 1 103 env),(2,some (.box [(i64 0),(i64 0),(i64 0),(i64 0),(bc (am [])),(.c .nil)])),(xf 3 9 names)],4⟩
abbrev nW (dim:Int) (env:(List ax)) (names:(List ByteArray)) (s_2:aa) (r:(((List ByteArray)))):Option ((az × aa)):=match r with | names_2=>((gL dim names_2 env s_2).opt)
def jY (dim:Int) (env:(List ax)) (names:(List ByteArray)) (s_2:aa):Option ((az × aa)):=(fixL (j0 dim env names s_2) (names,0)).bind (nW dim env names s_2)
theorem WH:List.drop 6 nm = .block 0 (.loop (ah (ah (aP nm 6)))) :: List.drop 7 nm:=by kernel_rfl
theorem YY (dim env names s_2 K):∀ r,W (nW dim env names s_2 r) (rE (Hq env) K)→uC dim env names s_2 r (wK (aZ 0 (aE (au tP 90 (List.drop 7 nm) K) K)))
  | names_2,h=>⟨(Qg dim names_2 env s_2),(.refl _),(VR h)⟩
theorem V3 {dim env names s_2 K} (h:W (jY dim env names s_2) (rE (Hq env) K)):au tP 90 (List.drop 6 nm) K (Y1 dim env names s_2) :=
  au.at_ WH (au.cons_loop (aC.weak (aC.ent (.refl _) (aC.loopF (x:=ah (ah (aP nm 6))) (f:=j0 dim env names s_2) (emb:=uz dim env names s_2) (E:=uC dim env names s_2) (Xy dim env names s_2) (PA dim env names s_2) (bM h (YY dim env names s_2 K))))))
def aah (dim:Int) (env:(List ax)) (s_1:aa):St:=⟨[sv 0 (.ptr 0 3 0 0),sv 1 (i64 dim),sv 2 (.row 1 2 0 env.length),sv 1000000 (.ptr 0 3 0 0),sv 1000001 (.row 1 2 0 env.length)],[(0,some (.bx (ak s_1))),(aF 1 103 env)],2⟩
def gK (dim:Int) (env:(List ax)) (s_1:aa):PT _ (rE (Hq env)) (dK tP 90 nm 6 iK):=.bf (dim == 1) (.lk bC s_1.l fun L1_=>.bd (bk (aa.mk L1_ s_1.at_ (ai (s_1.left - 1))) 3) (0,af) fun r_12=>.lk bC r_12.2.l fun L2_=>.bd (bk (aa.mk L2_ r_12.2.at_ r_12.2.left) 6) (0,af) fun r_13=>.lk bC r_13.2.l fun L3_=>.tv (env.length = env.length) (rfl)<|.lk bj env fun L4_=>.bd (v7.F (aa.mk L3_ r_13.2.at_ r_13.2.left) (ai (2+r_12.1)) L4_) (aO,af) fun r_14=>.lk bC r_14.2.l fun L5_=>.tv (env.length = env.length) (rfl)<|.tv (AR env) (kb hT)<|.bd (v7.F (aa.mk L5_ r_14.2.at_ r_14.2.left) (ai (2+r_12.1)) L4_) (aO,af) fun r_15=>.lf (some ((az.mk (ai (11+r_13.1)) (aH.mk 0 0) 0 (am []) ([r_14.1,r_15.1]:List az)),r_15.2)) .ret (⟨[sv 0 (.ptr 0 3 0 0),sv 1 (i64 dim),sv 2 (.row 1 2 0 env.length),sv 6 (.ptr 2 6 0 0),sv 1000000 (.ptr 0 3 0 0),sv 1000001 (.row 1 2 0 env.length)],[(0,some (.bx (ak r_15.2))),(aF 1 103 env),(2,some (.box [(i64 (ai (11+r_13.1))),(i64 0),(i64 0),(i64 0),(bc (am [])),(.row 3 6 0 2)])),(3,some (.row 98 6 2 (fun i=>(List.take 6 (List.drop (i*6) [(di r_14.1.Op),(di r_14.1.Value.Num),(di r_14.1.Value.Den),(di r_14.1.Dim),(ds r_14.1.Name),(.sl 6 r_14.1.Args.length (dZ r_14.1.Args)),(di r_15.1.Op),(di r_15.1.Value.Num),(di r_15.1.Value.Den),(di r_15.1.Dim),(ds r_15.1.Name),(.sl 6 r_15.1.Args.length (dZ r_15.1.Args))])))))],4⟩)<|hh fun _=>lg (.trans (.fz 3 98 6 2 (fun i=>(List.take 6 (List.drop (i*6) [(di r_14.1.Op),(di r_14.1.Value.Num),(di r_14.1.Value.Den),(di r_14.1.Dim),(ds r_14.1.Name),(.sl 6 r_14.1.Args.length (dZ r_14.1.Args)),(di r_15.1.Op),(di r_15.1.Value.Num),(di r_15.1.Value.Den),(di r_15.1.Dim),(ds r_15.1.Name),(.sl 6 r_15.1.Args.length (dZ r_15.1.Args))]))) rfl) (.trans (.cn [6,1000000,1000001]) (.of (σ:=⟨[sv 6 (.ptr 0 6 0 0),sv 1000000 (.ptr 1 3 0 0),sv 1000001 (.row 2 2 0 env.length)],[(0,some (.box [(i64 (ai (11+r_13.1))),(i64 0),(i64 0),(i64 0),(bc (am [])),(.c (.sl 6 2 (fun i=>(fun i=>(List.take 6 (List.drop (i*6) [(di r_14.1.Op),(di r_14.1.Value.Num),(di r_14.1.Value.Den),(di r_14.1.Dim),(ds r_14.1.Name),(.sl 6 r_14.1.Args.length (dZ r_14.1.Args)),(di r_15.1.Op),(di r_15.1.Value.Num),(di r_15.1.Value.Den),(di r_15.1.Dim),(ds r_15.1.Name),(.sl 6 r_15.1.Args.length (dZ r_15.1.Args))]))) (0+i))))])),(1,some (.bx (ak r_15.2))),(aF 2 103 env)],3⟩) (.qs 3 .nil) (.box rfl (.cons .r (.cons .r (.cons .r (.cons .r (.cons .r (.cons (.sl (ae.zero (ae.lits (enc:=ea) (el:=(fun i=>(List.take 6 (List.drop (i*6) [(di r_14.1.Op),(di r_14.1.Value.Num),(di r_14.1.Value.Den),(di r_14.1.Dim),(ds r_14.1.Name),(.sl 6 r_14.1.Args.length (dZ r_14.1.Args)),(di r_15.1.Op),(di r_15.1.Value.Num),(di r_15.1.Value.Den),(di r_15.1.Dim),(ds r_15.1.Name),(.sl 6 r_15.1.Args.length (dZ r_15.1.Args))])))) (z:=aO) (l:=([r_14.1,r_15.1]:List az)) ⟨(be.cons (.refl _) (be.cons (.refl _) (be.cons (.refl _) (be.cons (.refl _) (be.cons (.refl _) (be.cons (mw (fun _=>rfl) .b) be.nil)))))),(be.cons (.refl _) (be.cons (.refl _) (be.cons (.refl _) (be.cons (.refl _) (be.cons (.refl _) (be.cons (mw (fun _=>rfl) .b) be.nil)))))),trivial⟩))) .nil)))))) (.same rfl (.same rfl .nil))) rfl)))) (.bd (vO dim) [] fun r_16=>.lf (jY dim env r_16 (aa.mk s_1.l s_1.at_ (ai (s_1.left - 1)))) .normal _<|hh fun _ h=>l0 (V3 h))
theorem X7 {dim env s_1}:Ax tP 90 nm 0 iK (gK dim env s_1) (aah dim env s_1):=.tD mixed [aip,SH,e88] [0,1,2,6,8,9,76,77,78,79,1000000,1000001] 6
def fb (s_1:aa) (dim:Int) (env:(List ax)):Option ((az × aa)):=(gK dim env s_1).opt
theorem zQ:bV tP 66 (.mut (lP true [true,false,true] (ly gC fJ fB [false,false] (aO,af) (fun a=>fb a.1 a.2.1 a.2.2)))):=by
  refine mM (fn:=Tryz.f66) (c:=ao Tryz.f66) (by kernel_rfl) (by kernel_rfl) (by kernel_rfl) (rs:=[.cell 6 98]) (by kernel_rfl) (nt:=90) (by kernel_rfl) fun vs os a ps h hp y hy qs=>?_
  unfold gC at h
  split at h
  · next p1 k2 i3 j4 a5 q6 k7 f8 n9 k10 n11 Dk a13 a14 t15 k16 m17 e18 =>
    cases hb:(Nat.beq p1 0&&Nat.beq k2 3&&Nat.beq i3 0&&Nat.beq j4 0&&Nat.beq q6 1&&Nat.beq k7 2&&Nat.beq f8 0&&Nat.beq t15 103&&Nat.beq k16 2) with
    | false=>rw [hb] at h; cases h
    | true =>
      rw [hb] at h
      simp only [Bool.and_eq_true,Nat.beq_eq] at hb
      obtain ⟨⟨⟨⟨⟨⟨⟨⟨rfl,rfl⟩,rfl⟩,rfl⟩,rfl⟩,rfl⟩,rfl⟩,rfl⟩,rfl⟩:=hb
      cases h
      obtain ⟨g0,hp⟩:=co hp
      obtain ⟨ho2,hp⟩:=co hp
      obtain ⟨go2,hp⟩:=co hp
      subst ho2
      exact ⟨[.ptr 0 3 0 0,(i64 a5), .row 1 2 0 (lst cY _ e18).length],(VLes.cons (VLe.rfl' _) (VLes.cons (VLe.rfl' _) (VLes.cons (VLe.rown (ae.of_ok (z:=cA) go2).len) VLes.nil))),rfl,au.ent (du.of (bQ.cons rfl (VLe.rfl' _) (bQ.cons rfl (VLe.rfl' _) (bQ.cons rfl (VLe.rfl' _) (bQ.cons rfl (VLe.rfl' _) (bQ.cons rfl (VLe.rown (ae.of_ok (z:=cA) go2).len) bQ.nil))))) (cI.box rfl (VLes.cons (VLe.slk g0.1 (ae.of_ok g0)) (VLes.cons (VLe.rfl' _) (VLes.cons (VLe.rfl' _) VLes.nil))) (cI.row rfl (ae.of_ok go2) cI.nil rfl)) rfl) (@X7 _ a5 (lst cY _ e18) (aa.mk (lst bm n11 Dk) a13 a14) _ (bn.2 ⟨y,hy,YP (lst cY _ e18) y rfl (ae.of_ok (z:=cA) go2).len (Iw go2 fun _=>rfl)⟩))⟩
  · cases h
end
abbrev mx:Nat→v7
  | 0=>⟨fun _ _ _=>none,I4⟩
  | n+1=>⟨@fb (mx n), @zQ (mx n)⟩
def cm (s_1:aa) (dim:Int) (env:(List ax)):Option ((az × aa)):=uK fun n=>(mx n).F s_1 dim env
def th:=(lP true [true,false,true] (ly gC fJ fB [false,false] (aO,af) (fun a=>cm a.1 a.2.1 a.2.2)))
theorem BD:bV tP 66 (.mut th):=Mi (F:=fun n (a:aa × Int × (List ax))=>(mx n).F  a.1 a.2.1 a.2.2) fun n=>(mx n).ok
abbrev Pf:FE tP:=⟨66, .mut th,BD⟩
end
end Go.Ax
