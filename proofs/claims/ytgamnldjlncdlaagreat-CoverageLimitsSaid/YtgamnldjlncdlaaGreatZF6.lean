import Derived.Test.YtgamnldjlncdlaaGreatZF5
import Derived.Test.YtgamnldjlncdlaaGreatRows
/- Types of the program, and functions of it: printed by a program, checked by the kernel. -/
set_option linter.all false
set_option maxRecDepth 100000
namespace Go.Ax
open Go.Proofs Go.Proofs.YtgamnldjlncdlaaGreat
noncomputable section
attribute [local irreducible] PT.opt
noncomputable def ve:List Code:=aA (an Tryz.f25)
noncomputable def ZA:List Code:=aA (ah (ah (aQ ve 1)))
def Mh (x_1:(List ao)):St:=⟨[sv 1000000 (.ptr 0 1 0 0)],[(0,some (.box [(.row 1 4 0 x_1.length)])),(fi 1 76 x_1)],2⟩
theorem U2 (x_1:(List ao)) {H:am} {nid:Nat} {ps:List Prop} {ob oc:Nat} {cs:List V} (hne:ob≠oc) (h0:am.get H ob = some (.box cs)) (hl:cs.length = 1):eo tP [] (fun σ v=>∃ m,Left [ob,oc] nid H false { pre:=ps,val:=(.tup []),eff:=[(ob,some (.box [.row oc 4 0 x_1.length])),(oc,some (.row 76 4 x_1.length (aV dJ cG x_1)))],kill:=[oc] } m σ v) .ret (Mh x_1) :=
  eo.intro (v:=(.tup [])) (by kernel_rfl) ⟨_,On (qb:=0) (qr:=1) hne h0 hl rfl rfl rfl (fun _ _=>rfl) rfl (VLe.rfl' _) (.inr ⟨rfl,fun i hi d hd=>yc _ d hd⟩) (.inl ⟨rfl,rfl⟩)⟩
theorem RH (x_1:(List ao)) {H:am} {nid:Nat} {ps:List Prop} {ob:Nat} {cs:List V} (hne:ob≠nid) (h0:am.get H ob = some (.box cs)) (hl:cs.length = 1):eo tP [] (fun σ v=>∃ m,Left [ob] nid H false { pre:=ps,val:=(.tup []),eff:=[(ob,some (.box [.row nid 4 0 x_1.length])),(nid,some (.row 76 4 x_1.length (aV dJ cG x_1)))],kill:=[] } m σ v) .ret (Mh x_1) :=
  eo.intro (v:=(.tup [])) (by kernel_rfl) ⟨_,On (qb:=0) (qr:=1) hne h0 hl rfl rfl rfl (fun _ _=>rfl) rfl (VLe.rfl' _) (.inr ⟨rfl,fun i hi d hd=>yc _ d hd⟩) (.inr ⟨rfl,rfl,rfl⟩)⟩
def Ct (rank:Int) (t3:ax) (days:(List ab)) (t2:(List ao)) (s:(Int × (List ao))):St:=match s with | (t10,t2_1)=>⟨[sv 0 (i64 rank),sv 2 (.ptr 0 1 0 0),sv 3 (.dptr 9 [(di t3.State),(di t3.Version.From),(di t3.Version.Rounding.Mode),(di t3.Version.Rounding.Unit),(.sl 2 t3.Version.Credits.length (gE t3.Version.Credits)),(.sl 3 t3.Version.Series.length (jy t3.Version.Series)),(.sl 7 t3.Version.Lets.length (l7 t3.Version.Lets)),(.sl 13 t3.Version.Grants.length (io t3.Version.Grants)),(.sl 7 t3.Version.Reduces.length (iX t3.Version.Reduces))] 0),sv 8 (cF days),sv 9 (i64 (days.length:Int)),sv 10 (i64 t10),sv 1000000 (.ptr 0 1 0 0)],[(0,some (.box [(.row 1 4 0 t2_1.length)])),(fi 1 76 t2_1)],2⟩
def aca (rank:Int) (t3:ax) (days:(List ab)) (t2:(List ao)) (s:(List ao)):St:=match s with | t1000000=>⟨[sv 1000000 (.ptr 0 1 0 0)],[(0,some (.box [(.row 1 4 0 t1000000.length)])),(fi 1 76 t1000000)],2⟩
def Bl (rank:Int) (t3:ax) (days:(List ab)) (t2:(List ao)) (r:(((List ao)))) (K:KT):Prop:=match r with | s=>K (.exit 0) (aca rank t3 days t2 s)
def ahx (rank:Int) (t3:ax) (days:(List ab)) (t10:Int) (t2_1:(List ao)):St:=Ct rank t3 days ([]:List ao) (t10,t2_1)
def fe (rank:Int) (t3:ax) (days:(List ab)) (t10:Int) (t2_1:(List ao)):PT _ (nE (Ct rank t3 days ([]:List ao)) (Bl rank t3 days ([]:List ao))) iK:=.bf (decide (t10 < (days.length:Int))) (.g2 (0≤t10) (t10 < (days.length:Int))<|.tv (t2_1.length = t2_1.length) rfl<|.gc (t2_1.length+1) 32<|.lf (some (Sum.inl ((ai (t10+1)),(t2_1++([(ao.mk t3.State rank (days.getD (Int.toNat t10) aq))]:List ao))))) .normal (⟨[sv 0 (i64 rank),sv 2 (.ptr 0 1 0 0),sv 3 (.dptr 9 [(di t3.State),(di t3.Version.From),(di t3.Version.Rounding.Mode),(di t3.Version.Rounding.Unit),(.sl 2 t3.Version.Credits.length (gE t3.Version.Credits)),(.sl 3 t3.Version.Series.length (jy t3.Version.Series)),(.sl 7 t3.Version.Lets.length (l7 t3.Version.Lets)),(.sl 13 t3.Version.Grants.length (io t3.Version.Grants)),(.sl 7 t3.Version.Reduces.length (iX t3.Version.Reduces))] 0),sv 8 (cF days),sv 9 (i64 (days.length:Int)),sv 10 (i64 (ai (t10+1))),sv 1000000 (.ptr 0 1 0 0)],[(0,some (.box [(.row 1 4 0 (t2_1.length+1))])),(1,some (.row 76 4 (t2_1.length+1) (fun i=>bif Nat.blt i t2_1.length then (Yf t2_1) i else (fun i=>(dq 4 (dJ (ao.mk t3.State rank (days.getD (Int.toNat t10) aq)))) (0+i)) (i - t2_1.length))))],2⟩)<|hh fun _=>lg (.of (.qs 7 .nil) (.box rfl (.cons (.rown (bY rfl rfl)) .nil) (.row rfl (ac.app .b (ac.zero (ac.l1 (enc:=dJ) (z:=cG) 4 (ao.mk t3.State rank (days.getD (Int.toNat t10) aq)) rfl))) .nil rfl)) rfl)) (.lf (some (Sum.inr t2_1)) (.exit 0) (Ct rank t3 days ([]:List ao) (t10,t2_1))<|hh fun _=>lg (.cn [1000000]))
theorem aek {rank t3 days t10 t2_1}:Ax tP 23 ZA 0 iK (fe rank t3 days t10 t2_1) (ahx rank t3 days t10 t2_1):=.tE mixed [] [0,2,3,8,9,10,1000000] 4
def gu (rank:Int) (t3:ax) (days:(List ab)) (t2:(List ao)) (s:(Int × (List ao))):Option ((Int × (List ao)) ⊕ (((List ao)))):=match s with | (t10,t2_1)=>(fe rank t3 days t10 t2_1).opt
theorem acm (rank t3 days t2 s):Pp tP 23 (List.drop 0 ZA) (Ct rank t3 days t2 s) (gu rank t3 days t2 s) (cl (Ct rank t3 days t2) (Bl rank t3 days t2)):=fun K h=>match s,h with | (t10,t2_1),h=>(aek h)
theorem SG (rank t3 days t2):∀ r J K,Bl rank t3 days t2 r K→Bl rank t3 days t2 r (aH J K)
  | s,_,_,h=>h
def ajx (rank:Int) (t3:ax) (days:(List ab)) (t2:(List ao)):St:=⟨[sv 0 (i64 rank),sv 2 (.ptr 0 1 0 0),sv 3 (.dptr 9 [(di t3.State),(di t3.Version.From),(di t3.Version.Rounding.Mode),(di t3.Version.Rounding.Unit),(.sl 2 t3.Version.Credits.length (gE t3.Version.Credits)),(.sl 3 t3.Version.Series.length (jy t3.Version.Series)),(.sl 7 t3.Version.Lets.length (l7 t3.Version.Lets)),(.sl 13 t3.Version.Grants.length (io t3.Version.Grants)),(.sl 7 t3.Version.Reduces.length (iX t3.Version.Reduces))] 0),sv 8 (cF days),sv 9 (i64 (days.length:Int)),sv 10 (i64 0),sv 1000000 (.ptr 0 1 0 0)],[(0,some (.box [(.row 1 4 0 t2.length)])),(fi 1 76 t2)],2⟩
abbrev pT (rank:Int) (t3:ax) (days:(List ab)) (t2:(List ao)) (r:(((List ao)))):Option ((List ao)):=match r with | t1000000=>(some t1000000)
def sq (rank:Int) (t3:ax) (days:(List ab)) (t2:(List ao)):Option ((List ao)):=(fixL (gu rank t3 days t2) (0,t2)).bind (pT rank t3 days t2)
theorem acZ:List.drop 1 ve = .block 0 (.loop (ah (ah (aQ ve 1)))) :: List.drop 2 ve:=by kernel_rfl
theorem ahm (rank t3 days t2 K):∀ r,W (pT rank t3 days t2 r) (ZQ Mh K)→Bl rank t3 days t2 r (wK (bj 0 (aH (ar tP 23 (List.drop 2 ve) K) K)))
  | t1000000,h=>⟨(Mh t1000000),(.refl _),(ar.end_ (by kernel_rfl:List.drop 2 ve = []) (And.left h))⟩
theorem afh {rank t3 days t2 K} (h:W (sq rank t3 days t2) (ZQ Mh K)):ar tP 23 (List.drop 1 ve) K (ajx rank t3 days t2) :=
  ar.at_ acZ (ar.cons_loop (aC.weak (aC.ent (.refl _) (aC.loopF (x:=ah (ah (aQ ve 1))) (f:=gu rank t3 days t2) (emb:=Ct rank t3 days t2) (E:=Bl rank t3 days t2) (acm rank t3 days t2) (SG rank t3 days t2) (bT h (ahm rank t3 days t2 K))))))
def ahJ (rank:Int) (days:(List ab)) (t3:ax) (t2:(List ao)):St:=⟨[sv 0 (i64 rank),sv 1 (cF days),sv 2 (.ptr 0 1 0 0),sv 3 (.dptr 9 [(di t3.State),(di t3.Version.From),(di t3.Version.Rounding.Mode),(di t3.Version.Rounding.Unit),(.sl 2 t3.Version.Credits.length (gE t3.Version.Credits)),(.sl 3 t3.Version.Series.length (jy t3.Version.Series)),(.sl 7 t3.Version.Lets.length (l7 t3.Version.Lets)),(.sl 13 t3.Version.Grants.length (io t3.Version.Grants)),(.sl 7 t3.Version.Reduces.length (iX t3.Version.Reduces))] 0),sv 1000000 (.ptr 0 1 0 0)],[(0,some (.box [(.row 1 4 0 t2.length)])),(fi 1 76 t2)],2⟩
def sm (rank:Int) (days:(List ab)) (t3:ax) (t2:(List ao)):PT _ (ZQ Mh) (dK tP 23 ve 1 iK):=.lf (sq rank t3 days t2) .normal _<|hh fun _ h=>l0 (afh h)
theorem RF {rank days t3 t2}:Ax tP 23 ve 0 iK (sm rank days t3 t2) (ahJ rank days t3 t2):=.tD mixed [] [0,2,3,8,9,10,1000000] 1
def cH (rank:Int) (days:(List ab)) (t2:(List ao)) (t3:ax):Option ((List ao)):=(sm rank days t3 t2).opt
def na:am→Nat→List V→Option cM:=fun H nid args=>match oJ H [false,false,true,false] args with
  | [(.c (.lit (.int .i64 a1))),(.c (.sl k2 n3 e4)),(.ptr o_ k_ i_ j_),(.dptr 9 [(.lit (.int .i64 a5)),(.lit (.int .i64 a6)),(.lit (.int .i64 a7)),(.lit (.int .i64 a8)),(.sl k9 n10 ez),(.sl k12 n13 fK),(.sl k15 n16 fD),(.sl k18 n19 fM),(.sl k21 n22 fO)] 0)]=>(match am.get H o_ with
    | some (.box [.row c_ k2_ f_ n_])=>(match am.get H c_ with
      | some (.row t_ k3_ m_ e_)=>bif !(Nat.beq o_ c_)&&Nat.beq k_ 1&&Nat.beq i_ 0&&Nat.beq j_ 0&&Nat.beq t_ 76&&Nat.beq k2_ 4&&Nat.beq k3_ 4&&Nat.beq f_ 0&&dY [o_,c_] H false [false,false,true,false] args then some { pre:=[aJ aO bB 2 k2 n3 e4,n_ = m_,aJ dJ l9 4 4 m_ e_,aJ cO bA 2 k9 n10 ez,aJ fb bN 3 k12 n13 fK,aJ jp cA 7 k15 n16 fD,aJ eE bJ 13 k18 n19 fM,aJ eI bD 7 k21 n22 fO,(cH a1 (lst bB n3 e4) (lst l9 m_ e_) (ax.mk a5 (az.mk a6 (bt.mk a7 a8) (lst bA n10 ez) (lst bN n13 fK) (lst cA n16 fD) (lst bJ n19 fM) (lst bD n22 fO)))).isSome = true],val:=(.tup []),eff:=[(o_,some (.box [.row c_ 4 0 ((cH a1 (lst bB n3 e4) (lst l9 m_ e_) (ax.mk a5 (az.mk a6 (bt.mk a7 a8) (lst bA n10 ez) (lst bN n13 fK) (lst cA n16 fD) (lst bJ n19 fM) (lst bD n22 fO)))).getD ([]:List ao)).length])),(c_,some (.row 76 4 ((cH a1 (lst bB n3 e4) (lst l9 m_ e_) (ax.mk a5 (az.mk a6 (bt.mk a7 a8) (lst bA n10 ez) (lst bN n13 fK) (lst cA n16 fD) (lst bJ n19 fM) (lst bD n22 fO)))).getD ([]:List ao)).length (aV dJ cG ((cH a1 (lst bB n3 e4) (lst l9 m_ e_) (ax.mk a5 (az.mk a6 (bt.mk a7 a8) (lst bA n10 ez) (lst bN n13 fK) (lst cA n16 fD) (lst bJ n19 fM) (lst bD n22 fO)))).getD ([]:List ao)))))],kill:=[c_] } else none
      | _=>none)
    | some (.box [.c .nil])=>bif !(Nat.beq o_ nid)&&Nat.beq k_ 1&&Nat.beq i_ 0&&Nat.beq j_ 0&&dY [o_] H false [false,false,true,false] args then some { pre:=[aJ aO bB 2 k2 n3 e4,aJ cO bA 2 k9 n10 ez,aJ fb bN 3 k12 n13 fK,aJ jp cA 7 k15 n16 fD,aJ eE bJ 13 k18 n19 fM,aJ eI bD 7 k21 n22 fO,(cH a1 (lst bB n3 e4) ([]:List ao) (ax.mk a5 (az.mk a6 (bt.mk a7 a8) (lst bA n10 ez) (lst bN n13 fK) (lst cA n16 fD) (lst bJ n19 fM) (lst bD n22 fO)))).isSome = true],val:=(.tup []),eff:=[(o_,some (.box [.row nid 4 0 ((cH a1 (lst bB n3 e4) ([]:List ao) (ax.mk a5 (az.mk a6 (bt.mk a7 a8) (lst bA n10 ez) (lst bN n13 fK) (lst cA n16 fD) (lst bJ n19 fM) (lst bD n22 fO)))).getD ([]:List ao)).length])),(nid,some (.row 76 4 ((cH a1 (lst bB n3 e4) ([]:List ao) (ax.mk a5 (az.mk a6 (bt.mk a7 a8) (lst bA n10 ez) (lst bN n13 fK) (lst cA n16 fD) (lst bJ n19 fM) (lst bD n22 fO)))).getD ([]:List ao)).length (aV dJ cG ((cH a1 (lst bB n3 e4) ([]:List ao) (ax.mk a5 (az.mk a6 (bt.mk a7 a8) (lst bA n10 ez) (lst bN n13 fK) (lst cA n16 fD) (lst bJ n19 fM) (lst bD n22 fO)))).getD ([]:List ao)))))],kill:=[] } else none
    | _=>none)
  | _=>none
theorem D4:bR tP 25 (.mut na):=by
  refine TR (fn:=Tryz.f25) (c:=an Tryz.f25) (by kernel_rfl) (by kernel_rfl) (by kernel_rfl) (rs:=[]) (by kernel_rfl) (nt:=23) (by kernel_rfl) fun H nid args r h hp=>?_
  unfold na at h
  split at h
  · next a1 k2 n3 e4 o_ k_ i_ j_ a5 a6 a7 a8 k9 n10 ez k12 n13 fK k15 n16 fD k18 n19 fM k21 n22 fO hv =>
    split at h
    · next c_ k2_ f_ n_ hg =>
      split at h
      · next t_ k3_ m_ e_ hg2 =>
        cases hb:(!(Nat.beq o_ c_)&&Nat.beq k_ 1&&Nat.beq i_ 0&&Nat.beq j_ 0&&Nat.beq t_ 76&&Nat.beq k2_ 4&&Nat.beq k3_ 4&&Nat.beq f_ 0&&dY [o_,c_] H false [false,false,true,false] args) with
        | false=>rw [hb] at h; cases h
        | true =>
          rw [hb] at h
          simp only [Bool.and_eq_true,Nat.beq_eq] at hb
          obtain ⟨⟨⟨⟨⟨⟨⟨⟨hq,rfl⟩,rfl⟩,rfl⟩,rfl⟩,rfl⟩,rfl⟩,rfl⟩,hk⟩:=hb
          have hne:o_≠c_:=fun e=>by rw [e,IG] at hq; cases hq
          cases h
          obtain ⟨g0,hp⟩:=ce hp
          obtain ⟨hn,hp⟩:=ce hp
          obtain ⟨gr,hp⟩:=ce hp
          obtain ⟨g1,hp⟩:=ce hp
          obtain ⟨g2,hp⟩:=ce hp
          obtain ⟨g3,hp⟩:=ce hp
          obtain ⟨g4,hp⟩:=ce hp
          obtain ⟨g5,hp⟩:=ce hp
          obtain ⟨g,hp⟩:=ce hp
          obtain ⟨x,hx⟩:=Option.isSome_iff_exists.1 g
          rw [hx]
          subst hn
          exact .inl ⟨false,[false,false,true,false],o_,c_,76,4,_,e_,[(i64 a1),(cF (lst bB n3 e4)), .ptr 0 1 0 0,(.dptr 9 [(di (ax.mk a5 (az.mk a6 (bt.mk a7 a8) (lst bA n10 ez) (lst bN n13 fK) (lst cA n16 fD) (lst bJ n19 fM) (lst bD n22 fO))).State),(di ((ax.mk a5 (az.mk a6 (bt.mk a7 a8) (lst bA n10 ez) (lst bN n13 fK) (lst cA n16 fD) (lst bJ n19 fM) (lst bD n22 fO))).Version).From),(di (((ax.mk a5 (az.mk a6 (bt.mk a7 a8) (lst bA n10 ez) (lst bN n13 fK) (lst cA n16 fD) (lst bJ n19 fM) (lst bD n22 fO))).Version).Rounding).Mode),(di (((ax.mk a5 (az.mk a6 (bt.mk a7 a8) (lst bA n10 ez) (lst bN n13 fK) (lst cA n16 fD) (lst bJ n19 fM) (lst bD n22 fO))).Version).Rounding).Unit),(.sl 2 (((ax.mk a5 (az.mk a6 (bt.mk a7 a8) (lst bA n10 ez) (lst bN n13 fK) (lst cA n16 fD) (lst bJ n19 fM) (lst bD n22 fO))).Version).Credits).length (gE (((ax.mk a5 (az.mk a6 (bt.mk a7 a8) (lst bA n10 ez) (lst bN n13 fK) (lst cA n16 fD) (lst bJ n19 fM) (lst bD n22 fO))).Version).Credits))),(.sl 3 (((ax.mk a5 (az.mk a6 (bt.mk a7 a8) (lst bA n10 ez) (lst bN n13 fK) (lst cA n16 fD) (lst bJ n19 fM) (lst bD n22 fO))).Version).Series).length (jy (((ax.mk a5 (az.mk a6 (bt.mk a7 a8) (lst bA n10 ez) (lst bN n13 fK) (lst cA n16 fD) (lst bJ n19 fM) (lst bD n22 fO))).Version).Series))),(.sl 7 (((ax.mk a5 (az.mk a6 (bt.mk a7 a8) (lst bA n10 ez) (lst bN n13 fK) (lst cA n16 fD) (lst bJ n19 fM) (lst bD n22 fO))).Version).Lets).length (l7 (((ax.mk a5 (az.mk a6 (bt.mk a7 a8) (lst bA n10 ez) (lst bN n13 fK) (lst cA n16 fD) (lst bJ n19 fM) (lst bD n22 fO))).Version).Lets))),(.sl 13 (((ax.mk a5 (az.mk a6 (bt.mk a7 a8) (lst bA n10 ez) (lst bN n13 fK) (lst cA n16 fD) (lst bJ n19 fM) (lst bD n22 fO))).Version).Grants).length (io (((ax.mk a5 (az.mk a6 (bt.mk a7 a8) (lst bA n10 ez) (lst bN n13 fK) (lst cA n16 fD) (lst bJ n19 fM) (lst bD n22 fO))).Version).Grants))),(.sl 7 (((ax.mk a5 (az.mk a6 (bt.mk a7 a8) (lst bA n10 ez) (lst bN n13 fK) (lst cA n16 fD) (lst bJ n19 fM) (lst bD n22 fO))).Version).Reduces).length (iX (((ax.mk a5 (az.mk a6 (bt.mk a7 a8) (lst bA n10 ez) (lst bN n13 fK) (lst cA n16 fD) (lst bJ n19 fM) (lst bD n22 fO))).Version).Reduces)))] 0)],hne,hg,hg2,hk,by rw [hv]; simp only [pB,cond_true,cond_false,OF]; exact (VLes.cons (VLe.rfl' _) (VLes.cons (VLe.slk g0.1 (ac.of_ok g0)) (VLes.cons (VLe.rfl' _) (VLes.cons (VLe.dptr (be.cons (.refl _) (be.cons (.refl _) (be.cons (.refl _) (be.cons (.refl _) (be.cons (eN.ls g1.1 (ac.of_ok g1)) (be.cons (eN.ls g2.1 (ac.of_ok g2)) (be.cons (eN.ls g3.1 (ac.of_ok g3)) (be.cons (eN.ls g4.1 (ac.of_ok g4)) (be.cons (eN.ls g5.1 (ac.of_ok g5)) be.nil)))))))))) VLes.nil)))),rfl,ar.ent (dv.of (bM.cons rfl (VLe.rfl' _) (bM.cons rfl (VLe.rfl' _) (bM.cons rfl (VLe.rfl' _) (bM.cons rfl (VLe.rfl' _) (bM.cons rfl (VLe.rfl' _) bM.nil))))) (cC.box rfl (VLes.cons (VLe.rown (ac.of_ok (z:=cG) gr).len) VLes.nil) (cC.row rfl (ac.of_ok gr) cC.nil rfl)) rfl) (@RF a1 (lst bB n3 e4) (ax.mk a5 (az.mk a6 (bt.mk a7 a8) (lst bA n10 ez) (lst bN n13 fK) (lst cA n16 fD) (lst bJ n19 fM) (lst bD n22 fO))) (lst l9 _ e_) _ (bn.2 ⟨x,hx,⟨U2 x hne hg rfl,U2 x hne hg rfl⟩⟩))⟩
      · cases h
    · next hg =>
        cases hb:(!(Nat.beq o_ nid)&&Nat.beq k_ 1&&Nat.beq i_ 0&&Nat.beq j_ 0&&dY [o_] H false [false,false,true,false] args) with
        | false=>rw [hb] at h; cases h
        | true =>
          rw [hb] at h
          simp only [Bool.and_eq_true,Nat.beq_eq] at hb
          obtain ⟨⟨⟨⟨hq,rfl⟩,rfl⟩,rfl⟩,hk⟩:=hb
          have hne:o_≠nid:=fun e=>by rw [e,IG] at hq; cases hq
          cases h
          obtain ⟨g0,hp⟩:=ce hp
          obtain ⟨g1,hp⟩:=ce hp
          obtain ⟨g2,hp⟩:=ce hp
          obtain ⟨g3,hp⟩:=ce hp
          obtain ⟨g4,hp⟩:=ce hp
          obtain ⟨g5,hp⟩:=ce hp
          obtain ⟨g,hp⟩:=ce hp
          obtain ⟨x,hx⟩:=Option.isSome_iff_exists.1 g
          rw [hx]
          exact .inr ⟨false,[false,false,true,false],o_,[(i64 a1),(cF (lst bB n3 e4)), .ptr 0 1 0 0,(.dptr 9 [(di (ax.mk a5 (az.mk a6 (bt.mk a7 a8) (lst bA n10 ez) (lst bN n13 fK) (lst cA n16 fD) (lst bJ n19 fM) (lst bD n22 fO))).State),(di ((ax.mk a5 (az.mk a6 (bt.mk a7 a8) (lst bA n10 ez) (lst bN n13 fK) (lst cA n16 fD) (lst bJ n19 fM) (lst bD n22 fO))).Version).From),(di (((ax.mk a5 (az.mk a6 (bt.mk a7 a8) (lst bA n10 ez) (lst bN n13 fK) (lst cA n16 fD) (lst bJ n19 fM) (lst bD n22 fO))).Version).Rounding).Mode),(di (((ax.mk a5 (az.mk a6 (bt.mk a7 a8) (lst bA n10 ez) (lst bN n13 fK) (lst cA n16 fD) (lst bJ n19 fM) (lst bD n22 fO))).Version).Rounding).Unit),(.sl 2 (((ax.mk a5 (az.mk a6 (bt.mk a7 a8) (lst bA n10 ez) (lst bN n13 fK) (lst cA n16 fD) (lst bJ n19 fM) (lst bD n22 fO))).Version).Credits).length (gE (((ax.mk a5 (az.mk a6 (bt.mk a7 a8) (lst bA n10 ez) (lst bN n13 fK) (lst cA n16 fD) (lst bJ n19 fM) (lst bD n22 fO))).Version).Credits))),(.sl 3 (((ax.mk a5 (az.mk a6 (bt.mk a7 a8) (lst bA n10 ez) (lst bN n13 fK) (lst cA n16 fD) (lst bJ n19 fM) (lst bD n22 fO))).Version).Series).length (jy (((ax.mk a5 (az.mk a6 (bt.mk a7 a8) (lst bA n10 ez) (lst bN n13 fK) (lst cA n16 fD) (lst bJ n19 fM) (lst bD n22 fO))).Version).Series))),(.sl 7 (((ax.mk a5 (az.mk a6 (bt.mk a7 a8) (lst bA n10 ez) (lst bN n13 fK) (lst cA n16 fD) (lst bJ n19 fM) (lst bD n22 fO))).Version).Lets).length (l7 (((ax.mk a5 (az.mk a6 (bt.mk a7 a8) (lst bA n10 ez) (lst bN n13 fK) (lst cA n16 fD) (lst bJ n19 fM) (lst bD n22 fO))).Version).Lets))),(.sl 13 (((ax.mk a5 (az.mk a6 (bt.mk a7 a8) (lst bA n10 ez) (lst bN n13 fK) (lst cA n16 fD) (lst bJ n19 fM) (lst bD n22 fO))).Version).Grants).length (io (((ax.mk a5 (az.mk a6 (bt.mk a7 a8) (lst bA n10 ez) (lst bN n13 fK) (lst cA n16 fD) (lst bJ n19 fM) (lst bD n22 fO))).Version).Grants))),(.sl 7 (((ax.mk a5 (az.mk a6 (bt.mk a7 a8) (lst bA n10 ez) (lst bN n13 fK) (lst cA n16 fD) (lst bJ n19 fM) (lst bD n22 fO))).Version).Reduces).length (iX (((ax.mk a5 (az.mk a6 (bt.mk a7 a8) (lst bA n10 ez) (lst bN n13 fK) (lst cA n16 fD) (lst bJ n19 fM) (lst bD n22 fO))).Version).Reduces)))] 0)],hg,hk,by rw [hv]; simp only [pB,cond_true,cond_false,OF]; exact (VLes.cons (VLe.rfl' _) (VLes.cons (VLe.slk g0.1 (ac.of_ok g0)) (VLes.cons (VLe.rfl' _) (VLes.cons (VLe.dptr (be.cons (.refl _) (be.cons (.refl _) (be.cons (.refl _) (be.cons (.refl _) (be.cons (eN.ls g1.1 (ac.of_ok g1)) (be.cons (eN.ls g2.1 (ac.of_ok g2)) (be.cons (eN.ls g3.1 (ac.of_ok g3)) (be.cons (eN.ls g4.1 (ac.of_ok g4)) (be.cons (eN.ls g5.1 (ac.of_ok g5)) be.nil)))))))))) VLes.nil)))),rfl,ar.ent (dv.trans (dv.nilbox 0 0 1 76 4 (aV dJ cG []) [.c .nil] (Nat.le_of_ble_eq_true rfl) rfl rfl) (dv.of (bM.cons rfl (VLe.rfl' _) (bM.cons rfl (VLe.rfl' _) (bM.cons rfl (VLe.rfl' _) (bM.cons rfl (VLe.rfl' _) (bM.cons rfl (VLe.rfl' _) bM.nil))))) (cC.box rfl (VLes.cons (VLe.rown rfl) VLes.nil) (cC.row rfl (ac.ls dJ cG []) cC.nil rfl)) rfl)) (@RF a1 (lst bB n3 e4) (ax.mk a5 (az.mk a6 (bt.mk a7 a8) (lst bA n10 ez) (lst bN n13 fK) (lst cA n16 fD) (lst bJ n19 fM) (lst bD n22 fO))) ([]:List ao) _ (bn.2 ⟨x,hx,⟨RH x hne hg rfl,RH x hne hg rfl⟩⟩))⟩
    · cases h
  · cases h
abbrev e25:FE tP:=⟨25, .mut na,D4⟩
noncomputable def amB:List Code:=aA (an Tryz.f28)
def Cm (x_1:(List bX)):bK:=.own true 81 2 (x_1).length (aV fj mx x_1)
def an6 (x_1:(List bX)):St:=⟨[sv 0 (.row 0 2 0 x_1.length)],[(D0 0 81 x_1)],1⟩
def ahY:St:=⟨[],[],0⟩
def rT:PT _ (rE an6) iK:=.lf (some ([(bX.mk 6 2),(bX.mk 9 3),(bX.mk 7 4),(bX.mk 8 5),(bX.mk 10 6),(bX.mk 5 7)]:List bX)) .ret (⟨[sv 0 (.row 0 2 0 6)],[(0,some (.row 81 2 6 (fun i=>(List.take 2 (List.drop (i*2) (fj (bX.mk 6 2)++fj (bX.mk 9 3)++fj (bX.mk 7 4)++fj (bX.mk 8 5)++fj (bX.mk 10 6)++fj (bX.mk 5 7)))))))],1⟩)<|hh fun _=>lg (.of (.q rfl .nil) (.row rfl (ac.lits (el:=(fun i=>(List.take 2 (List.drop (i*2) (fj (bX.mk 6 2)++fj (bX.mk 9 3)++fj (bX.mk 7 4)++fj (bX.mk 8 5)++fj (bX.mk 10 6)++fj (bX.mk 5 7)))))) (z:=mx) (l:=([(bX.mk 6 2),(bX.mk 9 3),(bX.mk 7 4),(bX.mk 8 5),(bX.mk 10 6),(bX.mk 5 7)]:List bX)) ⟨.refl _, .refl _, .refl _, .refl _, .refl _, .refl _,trivial⟩) .nil rfl) rfl)
theorem aa0:Ax tP 8 amB 0 iK rT ahY:=.tE mixed [] [0] 3
def kZ:Option ((List bX)):=rT.opt
def sW:bU:=Qk kZ ([]:List bX) Cm
theorem Dy:bc tP 28 sW:=Po Tryz.f28 (an Tryz.f28) [.tmp 0] 8 fun y h=>@aa0 _ (bn.2 ⟨y,h,(cz (.row 0 2 0 y.length) (⟨_,_,_,rfl,rfl,rfl,fun _ _=>rfl,fun _ i hi d hd=>Pf _ d hd⟩))⟩)
abbrev e28:FE tP:=⟨28, .pure sW,Dy⟩
noncomputable def ang:List Code:=aA (an Tryz.f57)
def ml (x_1:Bool):bK:=.data (bl x_1)
def akJ (x_1:Bool):St:=⟨[sv 3 (bl x_1)],[],0⟩
theorem ajj (x_1:Bool):eC tP [.tmp 3] (dN (ml x_1)) .ret (akJ x_1) :=
  eC.intro (v:=(bl x_1)) (by kernel_rfl) ((VLe.rfl' _))
def Uw (c:ap) (t1:Int):St:=⟨[sv 0 (.ag (cO c)),sv 1 (.dptr 1 [(di t1)] 0)],[],0⟩
def s9 (c:ap) (t1:Int):PT _ (rE akJ) iK:=.lf (some (c.Kind == t1)) .ret _<|hh fun _=>l0
theorem acb {c t1}:Ax tP 8 ang 0 iK (s9 c t1) (Uw c t1):=.tE mixed [] [3] 3
def jD (c:ap) (t1:Int):Option (Bool):=(s9 c t1).opt
theorem ajI (c:ap) (t1:Int) (y_:Bool) (h:jD c t1 = some y_):ar tP 8 (aA (an Tryz.f57)) (eC tP [.tmp 3] (dN (ml y_))) (Uw c t1) :=
  @acb c t1 _ (bn.2 ⟨y_,h,ajj y_⟩)
def nZ:bU
  | [(.agg [(.c (.lit (.int .i64 a1))),(.c (.lit (.int .i64 a2)))]),(.dptr 1 [(.lit (.int .i64 a3))] 0)]=>some ([(jD (ap.mk a1 a2) a3).isSome = true],(ml ((jD (ap.mk a1 a2) a3).getD false)))
  | _=>none
theorem Fr:bc tP 57 nZ:=by
  refine nT (fn:=Tryz.f57) (c:=an Tryz.f57) (by kernel_rfl) (by kernel_rfl) (by kernel_rfl) (rs:=[.tmp 3]) (by kernel_rfl) (nt:=8) (by kernel_rfl) fun vs p out h hp=>?_
  unfold nZ at h
  split at h
  · next a1 a2 a3 =>
    cases h
    obtain ⟨g,hp⟩:=ce hp
    obtain ⟨x,hx⟩:=Option.isSome_iff_exists.1 g
    rw [hx]
    exact ⟨[(.agg [(i64 (ap.mk a1 a2).Kind),(i64 (ap.mk a1 a2).Limit)]),(.dptr 1 [(di a3)] 0)],(VLes.cons (VLe.rfl' _) (VLes.cons (VLe.rfl' _) VLes.nil)),rfl,ajI (ap.mk a1 a2) a3 x hx⟩
  · cases h
abbrev e57:FE tP:=⟨57, .pure nZ,Fr⟩
noncomputable def uv:List Code:=aA (an Tryz.f56)
noncomputable def Y9:List Code:=aA (ah (ah (aQ uv 2)))
def dh (x_1:Int):bK:=.data (i64 x_1)
def LL (x_1:Int):St:=⟨[sv 4 (i64 x_1)],[],0⟩
theorem ajX (x_1:Int):eC tP [.tmp 4] (dN (dh x_1)) .ret (LL x_1) :=
  eC.intro (v:=(i64 x_1)) (by kernel_rfl) ((VLe.rfl' _))
def Bf (s_1:(List ap)) (f:Int) (s:(Int)):St:=match s with | t8=>⟨[sv 0 (oz s_1),sv 1 (.fn 57 [(.dptr 1 [(di f)] 0)]),sv 7 (i64 (s_1.length:Int)),sv 8 (i64 t8)],[],0⟩
def aeZ (s_1:(List ap)) (f:Int) (s:Int):St:=match s with | t4_1=>⟨[sv 4 (i64 t4_1)],[],0⟩
def adu (s_1:(List ap)) (f:Int) (s:Unit):St:=match s with | ()=>⟨[],[],0⟩
def BH (s_1:(List ap)) (f:Int) (r:((Int) ⊕ (Unit))) (K:KT):Prop:=match r with | (.inl s)=>K .ret (aeZ s_1 f s) | (.inr s)=>K (.exit 0) (adu s_1 f s)
def ajJ (s_1:(List ap)) (f t8:Int):St:=Bf s_1 f t8
def bO (s_1:(List ap)) (f t8:Int):PT _ (nE (Bf s_1 f) (BH s_1 f)) iK:=.bf (decide (t8 < (s_1.length:Int))) (.g2 (0≤t8) (t8 < (s_1.length:Int))<|.bd (jD (s_1.getD (Int.toNat t8) cX) f) false fun r_2=>.bf r_2 (.lf (some (Sum.inr (Sum.inl t8))) .ret _<|hh fun _=>lx [4] [] [sv 0 (oz s_1),sv 1 (.fn 57 [(.dptr 1 [(di f)] 0)]),sv 7 (i64 (s_1.length:Int)),sv 8 (i64 t8)]) (.lf (some (Sum.inl (ai (t8+1)))) .normal _<|hh fun _=>l0)) (.lf (some (Sum.inr (Sum.inr ()))) (.exit 0) (Bf s_1 f t8)<|hh fun _=>lg (.cn []))
theorem abI {s_1 f t8}:Ax tP 19 Y9 0 iK (bO s_1 f t8) (ajJ s_1 f t8):=.tE mixed [e57] [0,1,4,7,8] 4
def bs (s_1:(List ap)) (f:Int) (s:(Int)):Option ((Int) ⊕ ((Int) ⊕ (Unit))):=match s with | t8=>(bO s_1 f t8).opt
theorem adZ (s_1 f s):Pp tP 19 (List.drop 0 Y9) (Bf s_1 f s) (bs s_1 f s) (cl (Bf s_1 f) (BH s_1 f)):=fun K h=>match s,h with | t8,h=>(abI h)
theorem TG (s_1 f):∀ r J K,BH s_1 f r K→BH s_1 f r (aH J K)
  | (.inl s),_,_,h=>h
  | (.inr s),_,_,h=>h
def Uu:St:=⟨[],[],0⟩
def ew:PT _ (rE LL) iK:=.lf (some (-1)) .ret _<|hh fun _=>l0
theorem aad:Ax tP 19 uv 3 iK ew Uu:=.tE mixed [] [4] 2
def ajN (s_1:(List ap)) (f:Int):St:=⟨[sv 0 (oz s_1),sv 1 (.fn 57 [(.dptr 1 [(di f)] 0)]),sv 7 (i64 (s_1.length:Int)),sv 8 (i64 0)],[],0⟩
abbrev ea (s_1:(List ap)) (f:Int) (r:((Int) ⊕ (Unit))):Option (Int):=match r with | (.inl t4_1)=>(some t4_1) | (.inr ())=>ew.opt
def es (s_1:(List ap)) (f:Int):Option (Int):=(fixL (bs s_1 f) 0).bind (ea s_1 f)
theorem aft:List.drop 2 uv = .block 0 (.loop (ah (ah (aQ uv 2)))) :: List.drop 3 uv:=by kernel_rfl
theorem akm (s_1 f K):∀ r,W (ea s_1 f r) (rE LL K)→BH s_1 f r (wK (bj 0 (aH (ar tP 19 (List.drop 3 uv) K) K)))
  | (.inl t4_1),h=>⟨(LL t4_1),(.refl _),h⟩
  | (.inr ()),h=>⟨(Uu),(.refl _),(aad h)⟩
theorem acO {s_1 f K} (h:W (es s_1 f) (rE LL K)):ar tP 19 (List.drop 2 uv) K (ajN s_1 f) :=
  ar.at_ aft (ar.cons_loop (aC.weak (aC.ent (.refl _) (aC.loopF (x:=ah (ah (aQ uv 2))) (f:=bs s_1 f) (emb:=Bf s_1 f) (E:=BH s_1 f) (adZ s_1 f) (TG s_1 f) (bT h (akm s_1 f K))))))
def VE (s_1:(List ap)) (f:Int):St:=⟨[sv 0 (oz s_1),sv 1 (.fn 57 [(.dptr 1 [(di f)] 0)])],[],0⟩
def eu (s_1:(List ap)) (f:Int):PT _ (rE LL) (dK tP 19 uv 2 iK):=.lf (es s_1 f) .normal _<|hh fun _ h=>l0 (acO h)
theorem adb {s_1 f}:Ax tP 19 uv 0 iK (eu s_1 f) (VE s_1 f):=.tD mixed [] [0,1,7,8] 2
def bW (s_1:(List ap)) (f:Int):Option (Int):=(eu s_1 f).opt
theorem ah1 (s_1:(List ap)) (f:Int) (y_:Int) (h:bW s_1 f = some y_):ar tP 19 (aA (an Tryz.f56)) (eC tP [.tmp 4] (dN (dh y_))) (VE s_1 f) :=
  @adb s_1 f _ (bn.2 ⟨y_,h,ajX y_⟩)
def dt:bU
  | [(.c (.sl k1 n2 e3)),(.fn 57 [(.dptr 1 [(.lit (.int .i64 a4))] 0)])]=>some ([aJ cO bA 2 k1 n2 e3,(bW (lst bA n2 e3) a4).isSome = true],(dh ((bW (lst bA n2 e3) a4).getD (0:Int))))
  | _=>none
theorem jr:bc tP 56 dt:=by
  refine nT (fn:=Tryz.f56) (c:=an Tryz.f56) (by kernel_rfl) (by kernel_rfl) (by kernel_rfl) (rs:=[.tmp 4]) (by kernel_rfl) (nt:=19) (by kernel_rfl) fun vs p out h hp=>?_
  unfold dt at h
  split at h
  · next k1 n2 e3 a4 =>
    cases h
    obtain ⟨g0,hp⟩:=ce hp
    obtain ⟨g,hp⟩:=ce hp
    obtain ⟨x,hx⟩:=Option.isSome_iff_exists.1 g
    rw [hx]
    exact ⟨[(oz (lst bA n2 e3)),(.fn 57 [(.dptr 1 [(di a4)] 0)])],(VLes.cons (VLe.slk g0.1 (ac.of_ok g0)) (VLes.cons (VLe.rfl' _) VLes.nil)),rfl,ah1 (lst bA n2 e3) a4 x hx⟩
  · cases h
abbrev e56:FE tP:=⟨56, .pure dt,jr⟩
noncomputable def am0:List Code:=aA (an Tryz.f29)
def GN (x_1:(Int × Bool)):bK:=.data (.tup [(i64 x_1.1),(bl x_1.2)])
def an0 (x_1:(Int × Bool)):St:=⟨[sv 4 (i64 x_1.1),sv 5 (bl x_1.2)],[],0⟩
def ain (v:az) (kind:Int):St:=⟨[sv 0 (.ag (eX v)),sv 1 (i64 kind)],[],0⟩
def lh (v:az) (kind:Int):PT _ (rE an0) iK:=.lk DG v.Credits fun L1_=>.bd (bW L1_ kind) 0 fun r_2=>.bf (decide (r_2 < 0)) (.lf (some (0,false)) .ret _<|hh fun _=>l0) (.g2 (0≤r_2) (r_2 < (v.Credits.length:Int))<|.lf (some ((v.Credits.getD (Int.toNat r_2) cX).Limit,true)) .ret _<|hh fun _=>l0)
theorem acu {v kind}:Ax tP 19 am0 0 iK (lh v kind) (ain v kind):=.tE mixed [e56] [4,5] 6
def tO (v:az) (kind:Int):Option ((Int × Bool)):=(lh v kind).opt
def yx:bU:=fH VI (aI .i64) tO ((0:Int),false) GN
theorem Hz:bc tP 29 yx:=dA Tryz.f29 (an Tryz.f29) [.tmp 4, .tmp 5] 19 fun u0 u1 y h=>@acu u0 u1 _ (bn.2 ⟨y,h,(cz (.tup [(i64 y.1),(bl y.2)]) (VLe.tup (VLes.cons (VLe.rfl' _) (VLes.cons (VLe.rfl' _) (VLes.nil)))))⟩)
abbrev e29:FE tP:=⟨29, .pure yx,Hz⟩
noncomputable def Pr:List Code:=aA (an Tryz.f100)
def Nt (x_1:ByteArray):bK:=.data (aX x_1)
def Y8 (x_1:ByteArray):St:=⟨[sv 2 (aX x_1)],[],0⟩
def agx:St:=⟨[],[],0⟩
def bZ:PT _ (rE Y8) iK:=.lf (some (ak [])) .ret _<|hh fun _=>l0
theorem dl:Ax tP 26 Pr 3 iK bZ agx:=.tE mixed [] [2] 2
def abZ (kind:Int):St:=⟨[sv 0 (i64 kind)],[],0⟩
def sk (kind:Int):PT _ (rE Y8) (dK tP 26 Pr 3 iK):=.bf (kind == 1) (.lf (some (ak [83,80,84,72,67,65])) .ret _<|hh fun _=>l0) (.bf (kind == 2) (.bf (kind == 2) (.lf (some (ak [83,80,72,67,65])) .ret _<|hh fun _=>l0) (.bf (kind == 4) (.lf (some (ak [83,80,84])) .ret _<|hh fun _=>l0) (.bf (kind == 5) (.bf (kind == 5) (.lf (some (ak [83,80])) .ret _<|hh fun _=>l0) (.bf (kind == 6) (.lf (some (ak [83,80,67,65])) .ret _<|hh fun _=>l0) (.bf (kind == 10) (.lf (some (ak [83,80,82])) .ret _<|hh fun _=>l0) (.bf (kind == 11) (.bf (kind == 11) (.lf (some (ak [80])) .ret _<|hh fun _=>l0) (.bf (kind == 14) (.lf (some (ak [80,82])) .ret _<|hh fun _=>l0) (.lf bZ.opt .normal _<|hh fun _ h=>lz (dl h) [] [] [sv 2 (aX (ak []))]))) (.bf (kind == 12) (.bf (kind == 12) (.lf (some (ak [80])) .ret _<|hh fun _=>l0) (.bf (kind == 14) (.lf (some (ak [80,82])) .ret _<|hh fun _=>l0) (.lf bZ.opt .normal _<|hh fun _ h=>lz (dl h) [] [] [sv 2 (aX (ak []))]))) (.bf (kind == 13) (.lf (some (ak [80])) .ret _<|hh fun _=>l0) (.bf (kind == 14) (.lf (some (ak [80,82])) .ret _<|hh fun _=>l0) (.lf bZ.opt .normal _<|hh fun _ h=>lz (dl h) [] [] [sv 2 (aX (ak []))])))))))) (.bf (kind == 7) (.bf (kind == 7) (.lf (some (ak [83,80])) .ret _<|hh fun _=>l0) (.bf (kind == 6) (.lf (some (ak [83,80,67,65])) .ret _<|hh fun _=>l0) (.bf (kind == 10) (.lf (some (ak [83,80,82])) .ret _<|hh fun _=>l0) (.bf (kind == 11) (.bf (kind == 11) (.lf (some (ak [80])) .ret _<|hh fun _=>l0) (.bf (kind == 14) (.lf (some (ak [80,82])) .ret _<|hh fun _=>l0) (.lf bZ.opt .normal _<|hh fun _ h=>lz (dl h) [] [] [sv 2 (aX (ak []))]))) (.bf (kind == 12) (.bf (kind == 12) (.lf (some (ak [80])) .ret _<|hh fun _=>l0) (.bf (kind == 14) (.lf (some (ak [80,82])) .ret _<|hh fun _=>l0) (.lf bZ.opt .normal _<|hh fun _ h=>lz (dl h) [] [] [sv 2 (aX (ak []))]))) (.bf (kind == 13) (.lf (some (ak [80])) .ret _<|hh fun _=>l0) (.bf (kind == 14) (.lf (some (ak [80,82])) .ret _<|hh fun _=>l0) (.lf bZ.opt .normal _<|hh fun _ h=>lz (dl h) [] [] [sv 2 (aX (ak []))])))))))) (.bf (kind == 8) (.bf (kind == 8) (.lf (some (ak [83,80])) .ret _<|hh fun _=>l0) (.bf (kind == 6) (.lf (some (ak [83,80,67,65])) .ret _<|hh fun _=>l0) (.bf (kind == 10) (.lf (some (ak [83,80,82])) .ret _<|hh fun _=>l0) (.bf (kind == 11) (.bf (kind == 11) (.lf (some (ak [80])) .ret _<|hh fun _=>l0) (.bf (kind == 14) (.lf (some (ak [80,82])) .ret _<|hh fun _=>l0) (.lf bZ.opt .normal _<|hh fun _ h=>lz (dl h) [] [] [sv 2 (aX (ak []))]))) (.bf (kind == 12) (.bf (kind == 12) (.lf (some (ak [80])) .ret _<|hh fun _=>l0) (.bf (kind == 14) (.lf (some (ak [80,82])) .ret _<|hh fun _=>l0) (.lf bZ.opt .normal _<|hh fun _ h=>lz (dl h) [] [] [sv 2 (aX (ak []))]))) (.bf (kind == 13) (.lf (some (ak [80])) .ret _<|hh fun _=>l0) (.bf (kind == 14) (.lf (some (ak [80,82])) .ret _<|hh fun _=>l0) (.lf bZ.opt .normal _<|hh fun _ h=>lz (dl h) [] [] [sv 2 (aX (ak []))])))))))) (.bf (kind == 9) (.lf (some (ak [83,80])) .ret _<|hh fun _=>l0) (.bf (kind == 6) (.lf (some (ak [83,80,67,65])) .ret _<|hh fun _=>l0) (.bf (kind == 10) (.lf (some (ak [83,80,82])) .ret _<|hh fun _=>l0) (.bf (kind == 11) (.bf (kind == 11) (.lf (some (ak [80])) .ret _<|hh fun _=>l0) (.bf (kind == 14) (.lf (some (ak [80,82])) .ret _<|hh fun _=>l0) (.lf bZ.opt .normal _<|hh fun _ h=>lz (dl h) [] [] [sv 2 (aX (ak []))]))) (.bf (kind == 12) (.bf (kind == 12) (.lf (some (ak [80])) .ret _<|hh fun _=>l0) (.bf (kind == 14) (.lf (some (ak [80,82])) .ret _<|hh fun _=>l0) (.lf bZ.opt .normal _<|hh fun _ h=>lz (dl h) [] [] [sv 2 (aX (ak []))]))) (.bf (kind == 13) (.lf (some (ak [80])) .ret _<|hh fun _=>l0) (.bf (kind == 14) (.lf (some (ak [80,82])) .ret _<|hh fun _=>l0) (.lf bZ.opt .normal _<|hh fun _ h=>lz (dl h) [] [] [sv 2 (aX (ak []))]))))))))))))) (.bf (kind == 3) (.lf (some (ak [83,80,72,67,65])) .ret _<|hh fun _=>l0) (.bf (kind == 4) (.lf (some (ak [83,80,84])) .ret _<|hh fun _=>l0) (.bf (kind == 5) (.bf (kind == 5) (.lf (some (ak [83,80])) .ret _<|hh fun _=>l0) (.bf (kind == 6) (.lf (some (ak [83,80,67,65])) .ret _<|hh fun _=>l0) (.bf (kind == 10) (.lf (some (ak [83,80,82])) .ret _<|hh fun _=>l0) (.bf (kind == 11) (.bf (kind == 11) (.lf (some (ak [80])) .ret _<|hh fun _=>l0) (.bf (kind == 14) (.lf (some (ak [80,82])) .ret _<|hh fun _=>l0) (.lf bZ.opt .normal _<|hh fun _ h=>lz (dl h) [] [] [sv 2 (aX (ak []))]))) (.bf (kind == 12) (.bf (kind == 12) (.lf (some (ak [80])) .ret _<|hh fun _=>l0) (.bf (kind == 14) (.lf (some (ak [80,82])) .ret _<|hh fun _=>l0) (.lf bZ.opt .normal _<|hh fun _ h=>lz (dl h) [] [] [sv 2 (aX (ak []))]))) (.bf (kind == 13) (.lf (some (ak [80])) .ret _<|hh fun _=>l0) (.bf (kind == 14) (.lf (some (ak [80,82])) .ret _<|hh fun _=>l0) (.lf bZ.opt .normal _<|hh fun _ h=>lz (dl h) [] [] [sv 2 (aX (ak []))])))))))) (.bf (kind == 7) (.bf (kind == 7) (.lf (some (ak [83,80])) .ret _<|hh fun _=>l0) (.bf (kind == 6) (.lf (some (ak [83,80,67,65])) .ret _<|hh fun _=>l0) (.bf (kind == 10) (.lf (some (ak [83,80,82])) .ret _<|hh fun _=>l0) (.bf (kind == 11) (.bf (kind == 11) (.lf (some (ak [80])) .ret _<|hh fun _=>l0) (.bf (kind == 14) (.lf (some (ak [80,82])) .ret _<|hh fun _=>l0) (.lf bZ.opt .normal _<|hh fun _ h=>lz (dl h) [] [] [sv 2 (aX (ak []))]))) (.bf (kind == 12) (.bf (kind == 12) (.lf (some (ak [80])) .ret _<|hh fun _=>l0) (.bf (kind == 14) (.lf (some (ak [80,82])) .ret _<|hh fun _=>l0) (.lf bZ.opt .normal _<|hh fun _ h=>lz (dl h) [] [] [sv 2 (aX (ak []))]))) (.bf (kind == 13) (.lf (some (ak [80])) .ret _<|hh fun _=>l0) (.bf (kind == 14) (.lf (some (ak [80,82])) .ret _<|hh fun _=>l0) (.lf bZ.opt .normal _<|hh fun _ h=>lz (dl h) [] [] [sv 2 (aX (ak []))])))))))) (.bf (kind == 8) (.bf (kind == 8) (.lf (some (ak [83,80])) .ret _<|hh fun _=>l0) (.bf (kind == 6) (.lf (some (ak [83,80,67,65])) .ret _<|hh fun _=>l0) (.bf (kind == 10) (.lf (some (ak [83,80,82])) .ret _<|hh fun _=>l0) (.bf (kind == 11) (.bf (kind == 11) (.lf (some (ak [80])) .ret _<|hh fun _=>l0) (.bf (kind == 14) (.lf (some (ak [80,82])) .ret _<|hh fun _=>l0) (.lf bZ.opt .normal _<|hh fun _ h=>lz (dl h) [] [] [sv 2 (aX (ak []))]))) (.bf (kind == 12) (.bf (kind == 12) (.lf (some (ak [80])) .ret _<|hh fun _=>l0) (.bf (kind == 14) (.lf (some (ak [80,82])) .ret _<|hh fun _=>l0) (.lf bZ.opt .normal _<|hh fun _ h=>lz (dl h) [] [] [sv 2 (aX (ak []))]))) (.bf (kind == 13) (.lf (some (ak [80])) .ret _<|hh fun _=>l0) (.bf (kind == 14) (.lf (some (ak [80,82])) .ret _<|hh fun _=>l0) (.lf bZ.opt .normal _<|hh fun _ h=>lz (dl h) [] [] [sv 2 (aX (ak []))])))))))) (.bf (kind == 9) (.lf (some (ak [83,80])) .ret _<|hh fun _=>l0) (.bf (kind == 6) (.lf (some (ak [83,80,67,65])) .ret _<|hh fun _=>l0) (.bf (kind == 10) (.lf (some (ak [83,80,82])) .ret _<|hh fun _=>l0) (.bf (kind == 11) (.bf (kind == 11) (.lf (some (ak [80])) .ret _<|hh fun _=>l0) (.bf (kind == 14) (.lf (some (ak [80,82])) .ret _<|hh fun _=>l0) (.lf bZ.opt .normal _<|hh fun _ h=>lz (dl h) [] [] [sv 2 (aX (ak []))]))) (.bf (kind == 12) (.bf (kind == 12) (.lf (some (ak [80])) .ret _<|hh fun _=>l0) (.bf (kind == 14) (.lf (some (ak [80,82])) .ret _<|hh fun _=>l0) (.lf bZ.opt .normal _<|hh fun _ h=>lz (dl h) [] [] [sv 2 (aX (ak []))]))) (.bf (kind == 13) (.lf (some (ak [80])) .ret _<|hh fun _=>l0) (.bf (kind == 14) (.lf (some (ak [80,82])) .ret _<|hh fun _=>l0) (.lf bZ.opt .normal _<|hh fun _ h=>lz (dl h) [] [] [sv 2 (aX (ak []))]))))))))))))))
theorem Yo {kind}:Ax tP 26 Pr 0 iK (sk kind) (abZ kind):=.tD mixed [] [2] 3
def F1 (kind:Int):Option (ByteArray):=(sk kind).opt
def Is:bU:=dI (aI .i64) F1 (ak []) Nt
theorem Pi:bc tP 100 Is:=cD Tryz.f100 (an Tryz.f100) [.tmp 2] 26 fun u0 y h=>@Yo u0 _ (bn.2 ⟨y,h,(cz (aX y) (VLe.rfl' _))⟩)
abbrev aoE:FE tP:=⟨100, .pure Is,Pi⟩
noncomputable def ahw:List Code:=aA (an Tryz.f103)
def KW (x_2:Bool):bK:=.data (bl x_2)
def amx (x_2:Bool):St:=⟨[sv 6 (bl x_2)],[],0⟩
def aga (x_1 low high:Int):St:=⟨[sv 0 (i64 x_1),sv 1 (i64 low),sv 2 (i64 high)],[],0⟩
def po (x_1 low high:Int):PT _ (rE amx) iK:=.lf (some (bif (decide (low≤x_1)) then (decide (x_1≤high)) else false)) .ret _<|hh fun _=>l0
theorem W6 {x_1 low high}:Ax tP 15 ahw 0 iK (po x_1 low high) (aga x_1 low high):=.tE mixed [] [6] 3
def cY (x_1 low high:Int):Option (Bool):=(po x_1 low high).opt
def ER:bU:=yL (aI .i64) (aI .i64) (aI .i64) cY false KW
theorem Lv:bc tP 103 ER:=sK Tryz.f103 (an Tryz.f103) [.tmp 6] 15 fun u0 u1 u2 y h=>@W6 u0 u1 u2 _ (bn.2 ⟨y,h,(cz (bl y) (VLe.rfl' _))⟩)
abbrev aiI:FE tP:=⟨103, .pure ER,Lv⟩
def gZ (s:ByteArray) (c:Int):Option Int:=some (firstIdx s c.toNat.toUInt8)
def jl:bU
  | [.c (.lit (.string s)), .c (.lit (.int .u8 c))]=>some ([(gZ s c).isSome = true], .data (i64 ((gZ s c).getD (0:Int))))
  | _=>none
theorem wL:bc tP 152 jl:=by
  intro ok w xs vs p out hx hok hcon hp
  unfold jl at hcon
  split at hcon
  · next s c =>
    cases hcon
    obtain ⟨x,y,rfl⟩:∃ x y,xs = [x,y]:=by
      have:=hx.1
      match xs,this with
      | [x,y],_=>exact ⟨x,y,rfl⟩
    have e1:=(hx.2 0 x _ rfl rfl).lit_inv
    have e2:=(hx.2 1 y _ rfl rfl).lit_inv
    subst e1 e2
    refine .inr ⟨.int .i64 (firstIdx s c.toNat.toUInt8),w, ?_, .refl _ _, .lit _⟩
    rw [run_callFunc_extern (fn:=Tryz.f152) (e:=Extern.BytealgIndexByte.indexByte) (by kernel_rfl) (by kernel_rfl) (by kernel_rfl) (by kernel_rfl) (by kernel_rfl)]
    have:=run_indexByte_string (P:=tP) s c w
    rw [show [Value.string s,Value.int .u8 c].toArray = #[Value.string s,Value.int .u8 c] from rfl,this]
    rfl
  · cases hcon
abbrev aof:FE tP:=⟨152, .pure jl,wL⟩
noncomputable def akT:List Code:=aA (an Tryz.f148)
def pK (x_1:Int):bK:=.data (i64 x_1)
def am7 (x_1:Int):St:=⟨[sv 4 (i64 x_1)],[],0⟩
def adS (s_1:ByteArray) (c:Int):St:=⟨[sv 0 (aX s_1),sv 1 (.c (.lit (.int .u8 c)))],[],0⟩
def fN (s_1:ByteArray) (c:Int):PT _ (rE am7) iK:=.bd (gZ s_1 c) 0 fun r_2=>.lf (some r_2) .ret _<|hh fun _=>l0
theorem Xz {s_1 c}:Ax tP 8 akT 0 iK (fN s_1 c) (adS s_1 c):=.tE mixed [aof] [4] 3
def gq (s_1:ByteArray) (c:Int):Option (Int):=(fN s_1 c).opt
def jL:bU:=fH aS (aI .u8) gq (0:Int) pK
theorem pZ:bc tP 148 jL:=dA Tryz.f148 (an Tryz.f148) [.tmp 4] 8 fun u0 u1 y h=>@Xz u0 u1 _ (bn.2 ⟨y,h,(cz (i64 y) (VLe.rfl' _))⟩)
abbrev anN:FE tP:=⟨148, .pure jL,pZ⟩
noncomputable def Wz:List Code:=aA (an Tryz.f143)
def su (x_1:Int):bK:=.data (i64 x_1)
def amZ (x_1:Int):St:=⟨[sv 4 (i64 x_1)],[],0⟩
def ac3 (s_1 substr:ByteArray):St:=⟨[sv 0 (aX s_1),sv 1 (aX substr)],[],0⟩
def gM (s_1 substr:ByteArray):PT _ (rE amZ) (dK tP 143 Wz 3 iK):=.bf (bif ((substr.size:Int) == 0) then true else (substr.toList == s_1.toList)) (.lf (some 0) .ret _<|hh fun _=>lx [4] [] [sv 0 (aX s_1),sv 1 (aX substr),sv 5 (i64 (substr.size:Int))]) (.bf ((substr.size:Int) == 1) (.g2 (0≤(0:Int)) ((0:Int) < (substr.size:Int))<|.bd (gq s_1 ((substr.data.getD 0 0).toNat:Int)) 0 fun r_2=>.lf (some r_2) .ret _<|hh fun _=>lx [4] [] [sv 0 (aX s_1),sv 1 (aX substr),sv 5 (i64 (substr.size:Int))]) (.bf (decide ((s_1.size:Int)≤(substr.size:Int))) (.lf (some (-1)) .ret _<|hh fun _=>lx [4] [] [sv 0 (aX s_1),sv 1 (aX substr),sv 5 (i64 (substr.size:Int))]) (.no)))
theorem YM {s_1 substr}:Ax tP 143 Wz 0 iK (gM s_1 substr) (ac3 s_1 substr):=.tD mixed [anN] [0,1,4,5,85,86,87,88,89,90,91,92,103,104,105,106,122,123,124,125,126,129,130,131] 3
def iZ (s_1 substr:ByteArray):Option (Int):=(gM s_1 substr).opt
def lB:bU:=fH aS aS iZ (0:Int) su
theorem sU:bc tP 143 lB:=dA Tryz.f143 (an Tryz.f143) [.tmp 4] 143 fun u0 u1 y h=>@YM u0 u1 _ (bn.2 ⟨y,h,(cz (i64 y) (VLe.rfl' _))⟩)
abbrev aov:FE tP:=⟨143, .pure lB,sU⟩
noncomputable def aka:List Code:=aA (an Tryz.f132)
def HI (x_1:Int):bK:=.data (i64 x_1)
def amz (x_1:Int):St:=⟨[sv 4 (i64 x_1)],[],0⟩
def adv (s_1 substr:ByteArray):St:=⟨[sv 0 (aX s_1),sv 1 (aX substr)],[],0⟩
def qF (s_1 substr:ByteArray):PT _ (rE amz) iK:=.bd (iZ s_1 substr) 0 fun r_2=>.lf (some r_2) .ret _<|hh fun _=>l0
theorem Ym {s_1 substr}:Ax tP 8 aka 0 iK (qF s_1 substr) (adv s_1 substr):=.tE mixed [aov] [4] 3
def wF (s_1 substr:ByteArray):Option (Int):=(qF s_1 substr).opt
def Ae:bU:=fH aS aS wF (0:Int) HI
theorem Jm:bc tP 132 Ae:=dA Tryz.f132 (an Tryz.f132) [.tmp 4] 8 fun u0 u1 y h=>@Ym u0 u1 _ (bn.2 ⟨y,h,(cz (i64 y) (VLe.rfl' _))⟩)
abbrev aoB:FE tP:=⟨132, .pure Ae,Jm⟩
noncomputable def akV:List Code:=aA (an Tryz.f102)
def Db (x_1:Bool):bK:=.data (bl x_1)
def am5 (x_1:Bool):St:=⟨[sv 4 (bl x_1)],[],0⟩
def ae1 (s_1 substr:ByteArray):St:=⟨[sv 0 (aX s_1),sv 1 (aX substr)],[],0⟩
def m9 (s_1 substr:ByteArray):PT _ (rE am5) iK:=.bd (wF s_1 substr) 0 fun r_2=>.lf (some (decide (0≤r_2))) .ret _<|hh fun _=>l0
theorem XD {s_1 substr}:Ax tP 9 akV 0 iK (m9 s_1 substr) (ae1 s_1 substr):=.tE mixed [aoB] [4] 3
def qK (s_1 substr:ByteArray):Option (Bool):=(m9 s_1 substr).opt
def vG:bU:=fH aS aS qK false Db
theorem Fu:bc tP 102 vG:=dA Tryz.f102 (an Tryz.f102) [.tmp 4] 9 fun u0 u1 y h=>@XD u0 u1 _ (bn.2 ⟨y,h,(cz (bl y) (VLe.rfl' _))⟩)
abbrev aos:FE tP:=⟨102, .pure vG,Fu⟩
noncomputable def aid:List Code:=aA (an Tryz.f101)
def qN (x_1:Bool):bK:=.data (bl x_1)
def Zu (x_1:Bool):St:=⟨[sv 3 (bl x_1)],[],0⟩
theorem aar (x_1:Bool):eC tP [.tmp 3] (dN (qN x_1)) .ret (Zu x_1) :=
  eC.intro (v:=(bl x_1)) (by kernel_rfl) ((VLe.rfl' _))
def RL (letter t1:ByteArray):St:=⟨[sv 0 (aX letter),sv 1 (.dptr 1 [(ds t1)] 0)],[],0⟩
def nA (letter t1:ByteArray):PT _ (rE Zu) iK:=.bd (qK t1 letter) false fun r_2=>.lf (some r_2) .ret _<|hh fun _=>l0
theorem XW {letter t1}:Ax tP 7 aid 0 iK (nA letter t1) (RL letter t1):=.tE mixed [aos] [3] 3
def ca (letter t1:ByteArray):Option (Bool):=(nA letter t1).opt
theorem abJ (letter t1:ByteArray) (y_:Bool) (h:ca letter t1 = some y_):ar tP 7 (aA (an Tryz.f101)) (eC tP [.tmp 3] (dN (qN y_))) (RL letter t1) :=
  @XW letter t1 _ (bn.2 ⟨y_,h,aar y_⟩)
def tZ:bU
  | [(.c (.lit (.string a1))),(.dptr 1 [(.lit (.string a2))] 0)]=>some ([(ca a1 a2).isSome = true],(qN ((ca a1 a2).getD false)))
  | _=>none
theorem KL:bc tP 101 tZ:=by
  refine nT (fn:=Tryz.f101) (c:=an Tryz.f101) (by kernel_rfl) (by kernel_rfl) (by kernel_rfl) (rs:=[.tmp 3]) (by kernel_rfl) (nt:=7) (by kernel_rfl) fun vs p out h hp=>?_
  unfold tZ at h
  split at h
  · next a1 a2 =>
    cases h
    obtain ⟨g,hp⟩:=ce hp
    obtain ⟨x,hx⟩:=Option.isSome_iff_exists.1 g
    rw [hx]
    exact ⟨[(aX a1),(.dptr 1 [(ds a2)] 0)],(VLes.cons (VLe.rfl' _) (VLes.cons (VLe.rfl' _) VLes.nil)),rfl,abJ a1 a2 x hx⟩
  · cases h
abbrev anR:FE tP:=⟨101, .pure tZ,KL⟩
noncomputable def ahU:List Code:=aA (an Tryz.f104)
def L8 (x_2:Bool):bK:=.data (bl x_2)
def al8 (x_2:Bool):St:=⟨[sv 8 (bl x_2)],[],0⟩
def afz (used:Bool) (x_1 low high:Int):St:=⟨[sv 0 (bl used),sv 1 (i64 x_1),sv 2 (i64 low),sv 3 (i64 high)],[],0⟩
def qu (used:Bool) (x_1 low high:Int):PT _ (rE al8) iK:=.g1 ((used&&true) = true→(cY x_1 low high).isSome = true)<|.lf (some (bif (bif used then ((cY x_1 low high).getD false) else false) then true else (bif (!used) then (x_1 == 0) else false))) .ret _<|hh fun _=>l0
theorem YA {used x_1 low high}:Ax tP 24 ahU 0 iK (qu used x_1 low high) (afz used x_1 low high):=.tE mixed [aiI] [8] 3
def dm (used:Bool) (x_1 low high:Int):Option (Bool):=(qu used x_1 low high).opt
def FB:bU:=Qm aB (aI .i64) (aI .i64) (aI .i64) dm false L8
theorem Nq:bc tP 104 FB:=OS Tryz.f104 (an Tryz.f104) [.tmp 8] 24 fun u0 u1 u2 u3 y h=>@YA u0 u1 u2 u3 _ (bn.2 ⟨y,h,(cz (bl y) (VLe.rfl' _))⟩)
abbrev anV:FE tP:=⟨104, .pure FB,Nq⟩
noncomputable def ag0:List Code:=aA (an Tryz.f105)
def FJ (x_1:Bool):bK:=.data (bl x_1)
def amJ (x_1:Bool):St:=⟨[sv 2 (bl x_1)],[],0⟩
def abR (s_1:ab):St:=⟨[sv 0 (.ag (aO s_1))],[],0⟩
def la (s_1:ab):PT _ (rE amJ) iK:=.lf (some (bif (bif (decide (0≤s_1.From)) then (decide (s_1.From < s_1.To)) else false) then (decide (s_1.To≤73049)) else false)) .ret _<|hh fun _=>l0
theorem XP {s_1}:Ax tP 18 ag0 0 iK (la s_1) (abR s_1):=.tE mixed [] [2] 3
def pd (s_1:ab):Option (Bool):=(la s_1).opt
def yD:bU:=dI yB pd false FJ
theorem HM:bc tP 105 yD:=cD Tryz.f105 (an Tryz.f105) [.tmp 2] 18 fun u0 y h=>@XP u0 _ (bn.2 ⟨y,h,(cz (bl y) (VLe.rfl' _))⟩)
abbrev aoH:FE tP:=⟨105, .pure yD,HM⟩
noncomputable def D7:List Code:=aA (an Tryz.f77)
def Md (x_1:Bool):bK:=.data (bl x_1)
def S6 (x_1:Bool):St:=⟨[sv 2 (bl x_1)],[],0⟩
def ahy:St:=⟨[],[],0⟩
def kf:PT _ (rE S6) iK:=.lf (some true) .ret _<|hh fun _=>l0
theorem Hu:Ax tP 116 D7 6 iK kf ahy:=.tE mixed [] [2] 2
def al1 (f:ae):St:=⟨[sv 1 (.ptr 0 14 0 0),sv 89 (i64 f.Kind)],[(0,some (.bx (aR f)))],1⟩
def qn (f:ae):PT _ (rE S6) (dK tP 116 D7 6 iK):=.bf (f.Kind == 4) (.lf (some (f.State != f.Seat)) .ret _<|hh fun _=>l0) (.bf (f.Kind == 11) (.bf (f.Kind == 11) (.lf (some (f.Span.To == (ai (f.Span.From+1)))) .ret _<|hh fun _=>l0) (.bf (f.Kind == 10) (.bf (f.Kind == 10) (.lf (some (f.Ref != f.Person)) .ret _<|hh fun _=>l0) (.lf kf.opt .normal _<|hh fun _ h=>l0 (Hu h))) (.bf (f.Kind == 14) (.lf (some (f.Ref != f.Person)) .ret _<|hh fun _=>l0) (.lf kf.opt .normal _<|hh fun _ h=>l0 (Hu h))))) (.bf (f.Kind == 12) (.lf (some (f.Span.To == (ai (f.Span.From+1)))) .ret _<|hh fun _=>l0) (.bf (f.Kind == 10) (.bf (f.Kind == 10) (.lf (some (f.Ref != f.Person)) .ret _<|hh fun _=>l0) (.lf kf.opt .normal _<|hh fun _ h=>l0 (Hu h))) (.bf (f.Kind == 14) (.lf (some (f.Ref != f.Person)) .ret _<|hh fun _=>l0) (.lf kf.opt .normal _<|hh fun _ h=>l0 (Hu h))))))
theorem abS {f}:Ax tP 116 D7 5 iK (qn f) (al1 f):=.tD mixed [] [2] 1
def aia (f:ae) (uses:ByteArray):St:=⟨[sv 1 (.ptr 0 14 0 0),sv 3 (.ptr 1 1 0 0),sv 4 (.fn 101 [(.ptr 1 1 0 0)])],[(0,some (.bx (aR f))),(1,some (.box [(aX uses)]))],2⟩
def wJ (f:ae) (uses:ByteArray):PT _ (rE S6) (dK tP 116 D7 5 iK):=.g1 (((!(uses.toList == (ak []).toList))&&true) = true→(cY f.Issuer 0 5).isSome = true)<|.g1 (((!(bif (uses.toList == (ak []).toList) then true else (!((cY f.Issuer 0 5).getD false))))&&true) = true→(cY f.Number 1 999).isSome = true)<|.g1 (((!(bif (bif (uses.toList == (ak []).toList) then true else (!((cY f.Issuer 0 5).getD false))) then true else (!((cY f.Number 1 999).getD false))))&&true) = true→(cY f.Version 1 99).isSome = true)<|.g1 (((!(bif (bif (bif (uses.toList == (ak []).toList) then true else (!((cY f.Issuer 0 5).getD false))) then true else (!((cY f.Number 1 999).getD false))) then true else (!((cY f.Version 1 99).getD false))))&&true) = true→(cY f.Person 1 99).isSome = true)<|.bf (bif (bif (bif (bif (uses.toList == (ak []).toList) then true else (!((cY f.Issuer 0 5).getD false))) then true else (!((cY f.Number 1 999).getD false))) then true else (!((cY f.Version 1 99).getD false))) then true else (!((cY f.Person 1 99).getD false))) (.lf (some false) .ret (⟨[sv 1 (.ptr 0 14 0 0),sv 2 (bl false)],[(0,some (.bx (aR f)))],1⟩)<|hh fun _=>lg (.cn [2])) (.bd (ca (ak [83]) uses) false fun r_6=>.bd (dm r_6 f.State 0 5) false fun r_7=>.g1 (((!(!r_7))&&true) = true→(ca (ak [84]) uses).isSome = true)<|.g1 (((!(!r_7))&&true) = true→(dm ((ca (ak [84]) uses).getD false) f.Seat 0 5).isSome = true)<|.g1 (((!(bif (!r_7) then true else (!((dm ((ca (ak [84]) uses).getD false) f.Seat 0 5).getD false))))&&true) = true→(pd f.Span).isSome = true)<|.bf (bif (bif (!r_7) then true else (!((dm ((ca (ak [84]) uses).getD false) f.Seat 0 5).getD false))) then true else (!((pd f.Span).getD false))) (.lf (some false) .ret (⟨[sv 1 (.ptr 0 14 0 0),sv 2 (bl false)],[(0,some (.bx (aR f)))],1⟩)<|hh fun _=>lg (.cn [2])) (.bd (ca (ak [72]) uses) false fun r_8=>.bd (dm r_8 f.Share 1 100) false fun r_9=>.g1 (((!(!r_9))&&true) = true→(ca (ak [67]) uses).isSome = true)<|.g1 (((!(!r_9))&&true) = true→(dm ((ca (ak [67]) uses).getD false) f.Currency 1 999).isSome = true)<|.g1 (((!(bif (!r_9) then true else (!((dm ((ca (ak [67]) uses).getD false) f.Currency 1 999).getD false))))&&true) = true→(ca (ak [65]) uses).isSome = true)<|.g1 (((!(bif (!r_9) then true else (!((dm ((ca (ak [67]) uses).getD false) f.Currency 1 999).getD false))))&&true) = true→(dm ((ca (ak [65]) uses).getD false) f.Amount 0 1000000000).isSome = true)<|.g1 (((!(bif (bif (!r_9) then true else (!((dm ((ca (ak [67]) uses).getD false) f.Currency 1 999).getD false))) then true else (!((dm ((ca (ak [65]) uses).getD false) f.Amount 0 1000000000).getD false))))&&true) = true→(ca (ak [82]) uses).isSome = true)<|.g1 (((!(bif (bif (!r_9) then true else (!((dm ((ca (ak [67]) uses).getD false) f.Currency 1 999).getD false))) then true else (!((dm ((ca (ak [65]) uses).getD false) f.Amount 0 1000000000).getD false))))&&true) = true→(dm ((ca (ak [82]) uses).getD false) f.Ref 1 99).isSome = true)<|.bf (bif (bif (bif (!r_9) then true else (!((dm ((ca (ak [67]) uses).getD false) f.Currency 1 999).getD false))) then true else (!((dm ((ca (ak [65]) uses).getD false) f.Amount 0 1000000000).getD false))) then true else (!((dm ((ca (ak [82]) uses).getD false) f.Ref 1 99).getD false))) (.lf (some false) .ret (⟨[sv 1 (.ptr 0 14 0 0),sv 2 (bl false)],[(0,some (.bx (aR f)))],1⟩)<|hh fun _=>lg (.cn [2])) (.lf ((qn f).opt) .normal _<|hh fun _ h=>l0 (abS h))))
theorem abL {f uses}:Ax tP 116 D7 3 iK (wJ f uses) (aia f uses):=.tD mixed [anR,aiI,anV,aoH] [1,2,89] 2
def akL (f:ae):St:=⟨[sv 0 (.ag (aR f))],[],0⟩
def qj (f:ae):PT _ (rE S6) (dK tP 116 D7 3 iK):=.bd (F1 f.Kind) (ak []) fun r_10=>.lf ((wJ f r_10).opt) .normal _<|hh fun _ h=>l0 (abL h)
theorem acW {f}:Ax tP 116 D7 0 iK (qj f) (akL f):=.tD mixed [aoE] [1,3,4,13,14,15,16,19,20,21,22,25,26,27,28,31,32,33,34,44,45,46,47,48,49,52,53,54,55,65,66,67,68,69,70,73,74,75,76,77,78,81,82,83,84,85,86] 3
def DX (f:ae):Option (Bool):=(qj f).opt
def Gm:bU:=dI wk DX false Md
theorem Ns:bc tP 77 Gm:=cD Tryz.f77 (an Tryz.f77) [.tmp 2] 116 fun u0 y h=>@acW u0 _ (bn.2 ⟨y,h,(cz (bl y) (VLe.rfl' _))⟩)
abbrev e77:FE tP:=⟨77, .pure Gm,Ns⟩
noncomputable def anb:List Code:=aA (an Tryz.f58)
def Gn (x_1:Bool):bK:=.data (bl x_1)
def an8 (x_1:Bool):St:=⟨[sv 2 (bl x_1)],[],0⟩
def alk (f:ae):St:=⟨[sv 0 (.ag (aR f))],[],0⟩
def kQ (f:ae):PT _ (rE an8) iK:=.bd (DX f) false fun r_2=>.lf (some (bif r_2 then (!f.Withdrawn) else false)) .ret _<|hh fun _=>l0
theorem aat {f}:Ax tP 10 anb 0 iK (kQ f) (alk f):=.tE mixed [e77] [2] 3
def lj (f:ae):Option (Bool):=(kQ f).opt
def yd:bU:=dI wk lj false Gn
theorem HA:bc tP 58 yd:=cD Tryz.f58 (an Tryz.f58) [.tmp 2] 10 fun u0 y h=>@aat u0 _ (bn.2 ⟨y,h,(cz (bl y) (VLe.rfl' _))⟩)
abbrev e58:FE tP:=⟨58, .pure yd,HA⟩
noncomputable def qa:List Code:=aA (an Tryz.f106)
noncomputable def V7:List Code:=aA (ah (ah (aQ qa 3)))
def IX (x_1:(Int × Bool)):bK:=.data (.tup [(i64 x_1.1),(bl x_1.2)])
def Oc (x_1:(Int × Bool)):St:=⟨[sv 4 (i64 x_1.1),sv 5 (bl x_1.2)],[],0⟩
def xR (kind:Int) (l:(List ae)) (s:(Int × Bool × Int)):St:=match s with | (day,ok,t12)=>⟨[sv 1 (i64 kind),sv 6 (i64 day),sv 7 (bl ok),sv 10 (bk l),sv 11 (i64 (l.length:Int)),sv 12 (i64 t12)],[],0⟩
def X2 (kind:Int) (l:(List ae)) (s:Int × Bool):St:=match s with | (day_1,ok_1)=>⟨[sv 6 (i64 day_1),sv 7 (bl ok_1)],[],0⟩
def xS (kind:Int) (l:(List ae)) (r:((Int × Bool))) (K:KT):Prop:=match r with | s=>K (.exit 0) (X2 kind l s)
def aaE (kind day:Int) (ok:Bool) (l:(List ae)) (t12:Int):St:=xR kind l (day,ok,t12)
def iO (kind day:Int) (ok:Bool) (l:(List ae)) (t12:Int):PT _ (nE (xR kind l) (xS kind l)) iK:=.bf (decide (t12 < (l.length:Int))) (.g2 (0≤t12) (t12 < (l.length:Int))<|.bd (lj (l.getD (Int.toNat t12) aU)) false fun r_2=>.bf (bif (bif r_2 then ((l.getD (Int.toNat t12) aU).Kind == kind) else false) then (bif (!ok) then true else (decide (((l.getD (Int.toNat t12) aU).Span).From < day))) else false) (.lf (some (Sum.inl (((l.getD (Int.toNat t12) aU).Span).From,true,(ai (t12+1))))) .normal _<|hh fun _=>lx [1,6,7,10,11,12] [19,20,21,22,25,26,27,28,29,30,31,32,33] []) (.lf (some (Sum.inl (day,ok,(ai (t12+1))))) .normal _<|hh fun _=>lx [1,6,7,10,11,12] [19,20,21,22,25,26,27,28,29,30,31,32,33] [])) (.lf (some (Sum.inr (day,ok))) (.exit 0) (xR kind l (day,ok,t12))<|hh fun _=>lg (.cn [6,7]))
theorem Xw {kind day ok l t12}:Ax tP 41 V7 0 iK (iO kind day ok l t12) (aaE kind day ok l t12):=.tE mixed [e58] [1,6,7,10,11,12,19,20,21,22,25,26,27,28,29,30,31,32,33] 4
def ky (kind:Int) (l:(List ae)) (s:(Int × Bool × Int)):Option ((Int × Bool × Int) ⊕ ((Int × Bool))):=match s with | (day,ok,t12)=>(iO kind day ok l t12).opt
theorem W8 (kind l s):Pp tP 41 (List.drop 0 V7) (xR kind l s) (ky kind l s) (cl (xR kind l) (xS kind l)):=fun K h=>match s,h with | (day,ok,t12),h=>(Xw h)
theorem QF (kind l):∀ r J K,xS kind l r K→xS kind l r (aH J K)
  | s,_,_,h=>h
def Q9 (day_2:Int) (ok_2:Bool):St:=⟨[sv 6 (i64 day_2),sv 7 (bl ok_2)],[],0⟩
def Ai (day_2:Int) (ok_2:Bool):PT _ (rE Oc) iK:=.lf (some (day_2,ok_2)) .ret _<|hh fun _=>l0
theorem XI {day_2 ok_2}:Ax tP 41 qa 4 iK (Ai day_2 ok_2) (Q9 day_2 ok_2):=.tE mixed [] [4,5] 2
def adj (kind:Int) (l:(List ae)):St:=⟨[sv 1 (i64 kind),sv 6 (i64 0),sv 7 (bl false),sv 10 (bk l),sv 11 (i64 (l.length:Int)),sv 12 (i64 0)],[],0⟩
abbrev xa (kind:Int) (l:(List ae)) (r:((Int × Bool))):Option ((Int × Bool)):=match r with | (day_1,ok_1)=>((Ai day_1 ok_1).opt)
def zn (kind:Int) (l:(List ae)):Option ((Int × Bool)):=(fixL (ky kind l) (0,false,0)).bind (xa kind l)
theorem XF:List.drop 3 qa = .block 0 (.loop (ah (ah (aQ qa 3)))) :: List.drop 4 qa:=by kernel_rfl
theorem abr (kind l K):∀ r,W (xa kind l r) (rE Oc K)→xS kind l r (wK (bj 0 (aH (ar tP 41 (List.drop 4 qa) K) K)))
  | (day_1,ok_1),h=>⟨(Q9 day_1 ok_1),(.refl _),(XI h)⟩
theorem YY {kind l K} (h:W (zn kind l) (rE Oc K)):ar tP 41 (List.drop 3 qa) K (adj kind l) :=
  ar.at_ XF (ar.cons_loop (aC.weak (aC.ent (.refl _) (aC.loopF (x:=ah (ah (aQ qa 3))) (f:=ky kind l) (emb:=xR kind l) (E:=xS kind l) (W8 kind l) (QF kind l) (bT h (abr kind l K))))))
def ack (l:(List ae)) (kind:Int):St:=⟨[sv 0 (bk l),sv 1 (i64 kind)],[],0⟩
def zV (l:(List ae)) (kind:Int):PT _ (rE Oc) (dK tP 41 qa 3 iK):=.lf (zn kind l) .normal _<|hh fun _ h=>l0 (YY h)
theorem WR {l kind}:Ax tP 41 qa 0 iK (zV l kind) (ack l kind):=.tD mixed [] [1,6,7,10,11,12,19,20,21,22,25,26,27,28,29,30,31,32,33] 3
def rO (l:(List ae)) (kind:Int):Option ((Int × Bool)):=(zV l kind).opt
def CV:bU:=fH ii (aI .i64) rO ((0:Int),false) IX
theorem Ka:bc tP 106 CV:=dA Tryz.f106 (an Tryz.f106) [.tmp 4, .tmp 5] 41 fun u0 u1 y h=>@WR u0 u1 _ (bn.2 ⟨y,h,(cz (.tup [(i64 y.1),(bl y.2)]) (VLe.tup (VLes.cons (VLe.rfl' _) (VLes.cons (VLe.rfl' _) (VLes.nil)))))⟩)
abbrev ale:FE tP:=⟨106, .pure CV,Ka⟩
noncomputable def amT:List Code:=aA (an Tryz.f78)
def IR (x_1:(Int × Bool)):bK:=.data (.tup [(i64 x_1.1),(bl x_1.2)])
def aoM (x_1:(Int × Bool)):St:=⟨[sv 2 (i64 x_1.1),sv 3 (bl x_1.2)],[],0⟩
def ais (l:(List ae)):St:=⟨[sv 0 (bk l)],[],0⟩
def ng (l:(List ae)):PT _ (rE aoM) iK:=.lk jG l fun L1_=>.bd (rO L1_ 11) (0,false) fun r_2=>.lf (some (r_2.1,r_2.2)) .ret _<|hh fun _=>l0
theorem afv {l}:Ax tP 8 amT 0 iK (ng l) (ais l):=.tE mixed [ale] [2,3] 3
def yk (l:(List ae)):Option ((Int × Bool)):=(ng l).opt
def Ca:bU:=dI ii yk ((0:Int),false) IR
theorem JD:bc tP 78 Ca:=cD Tryz.f78 (an Tryz.f78) [.tmp 2, .tmp 3] 8 fun u0 y h=>@afv u0 _ (bn.2 ⟨y,h,(cz (.tup [(i64 y.1),(bl y.2)]) (VLe.tup (VLes.cons (VLe.rfl' _) (VLes.cons (VLe.rfl' _) (VLes.nil)))))⟩)
abbrev e78:FE tP:=⟨78, .pure Ca,JD⟩
noncomputable def amc:List Code:=aA (an Tryz.f79)
def Je (x_1:(Int × Bool)):bK:=.data (.tup [(i64 x_1.1),(bl x_1.2)])
def aoh (x_1:(Int × Bool)):St:=⟨[sv 2 (i64 x_1.1),sv 3 (bl x_1.2)],[],0⟩
def aj6 (l:(List ae)):St:=⟨[sv 0 (bk l)],[],0⟩
def np (l:(List ae)):PT _ (rE aoh) iK:=.lk jG l fun L1_=>.bd (rO L1_ 12) (0,false) fun r_2=>.lf (some (r_2.1,r_2.2)) .ret _<|hh fun _=>l0
theorem afl {l}:Ax tP 8 amc 0 iK (np l) (aj6 l):=.tE mixed [ale] [2,3] 3
def ye (l:(List ae)):Option ((Int × Bool)):=(np l).opt
def B0:bU:=dI ii ye ((0:Int),false) Je
theorem JO:bc tP 79 B0:=cD Tryz.f79 (an Tryz.f79) [.tmp 2, .tmp 3] 8 fun u0 y h=>@afl u0 _ (bn.2 ⟨y,h,(cz (.tup [(i64 y.1),(bl y.2)]) (VLe.tup (VLes.cons (VLe.rfl' _) (VLes.cons (VLe.rfl' _) (VLes.nil)))))⟩)
abbrev e79:FE tP:=⟨79, .pure B0,JO⟩
noncomputable def S7:List Code:=aA (an Tryz.f59)
def Jy (x_1:ab):bK:=.data (.agg [(i64 x_1.From),(i64 x_1.To)])
def ahK (x_1:ab):St:=⟨[sv 2 (.ptr 0 2 0 0)],[(0,some (.box [(i64 x_1.From),(i64 x_1.To)]))],1⟩
def ak8 (birth death:Int):St:=⟨[sv 2 (.ptr 0 2 0 0),sv 3 (i64 birth),sv 5 (i64 death)],[(0,some (.bx (aO (ab.mk 0 0))))],1⟩
def oX (birth death:Int):PT _ (rE ahK) iK:=.bf (decide (death < birth)) (.lf (some (ab.mk 0 0)) .ret _<|hh fun _=>l0) (.lf (some (ab.mk birth (ai (death+1)))) .ret _<|hh fun _=>l0)
theorem Rg {birth death}:Ax tP 27 S7 5 iK (oX birth death) (ak8 birth death):=.tE mixed [] [2] 4
def ah5 (l:(List ae)):St:=⟨[sv 0 (bk l)],[],0⟩
def oW (l:(List ae)):PT _ (rE ahK) (dK tP 27 S7 5 iK):=.lk jG l fun L1_=>.bd (yk L1_) (0,false) fun r_3=>.tv (P2 l) (kb cf)<|.bd (ye L1_) (0,false) fun r_4=>.bf (!r_4.2) (.lf ((oX r_3.1 73048).opt) .normal _<|hh fun _ h=>l0 (Rg h)) (.lf ((oX r_3.1 r_4.1).opt) .normal _<|hh fun _ h=>l0 (Rg h))
theorem ae8 {l}:Ax tP 27 S7 0 iK (oW l) (ah5 l):=.tD mixed [e78,e79] [2,3,5] 5
def pP (l:(List ae)):Option (ab):=(oW l).opt
def EI:bU:=dI ii pP aq Jy
theorem Ls:bc tP 59 EI:=cD Tryz.f59 (an Tryz.f59) [.cell 2 59] 27 fun u0 y h=>@ae8 u0 _ (bn.2 ⟨y,h,(cz (.agg [(i64 y.From),(i64 y.To)]) (VLe.rfl' _))⟩)
abbrev e59:FE tP:=⟨59, .pure EI,Ls⟩
noncomputable def uq:List Code:=aA (an Tryz.f30)
noncomputable def ZH:List Code:=aA (ah (ah (aQ uq 3)))
def Jj (x_1:(List ab)):bK:=.own true 59 2 (x_1).length (aV aO aq x_1)
def TC (x_1:(List ab)):St:=⟨[sv 6 (.row 0 2 0 x_1.length)],[(bp 0 59 x_1)],1⟩
def AY (l:(List ae)) (kind state:Int) (s:((List ab) × Int)):St:=match s with | (out_1,t12)=>⟨[sv 0 (bk l),sv 1 (i64 kind),sv 2 (i64 state),sv 7 (.row 0 2 0 out_1.length),sv 10 (bk l),sv 11 (i64 (l.length:Int)),sv 12 (i64 t12)],[(bp 0 59 out_1)],1⟩
def aed (l:(List ae)) (kind state:Int) (s:(List ab)):St:=match s with | out_2=>⟨[sv 0 (bk l),sv 7 (.row 0 2 0 out_2.length)],[(bp 0 59 out_2)],1⟩
def CK (l:(List ae)) (kind state:Int) (r:(((List ab)))) (K:KT):Prop:=match r with | s=>K (.exit 0) (aed l kind state s)
def ajH (l:(List ae)) (kind state:Int) (out_1:(List ab)) (t12:Int):St:=AY l kind state (out_1,t12)
def iR (l:(List ae)) (kind state:Int) (out_1:(List ab)) (t12:Int):PT _ (nE (AY l kind state) (CK l kind state)) iK:=.bf (decide (t12 < (l.length:Int))) (.g2 (0≤t12) (t12 < (l.length:Int))<|.bd (lj (l.getD (Int.toNat t12) aU)) false fun r_2=>.bf (bif (bif r_2 then ((l.getD (Int.toNat t12) aU).Kind == kind) else false) then ((l.getD (Int.toNat t12) aU).State == state) else false) (.tv (out_1.length = out_1.length) rfl<|.gc (out_1.length+1) 16<|.lf (some (Sum.inl ((out_1++([(l.getD (Int.toNat t12) aU).Span]:List ab)),(ai (t12+1))))) .normal (⟨[sv 0 (bk l),sv 1 (i64 kind),sv 2 (i64 state),sv 7 (.row 0 2 0 (out_1.length+1)),sv 10 (bk l),sv 11 (i64 (l.length:Int)),sv 12 (i64 (ai (t12+1))),un 19,un 20,un 21,un 22,un 25,un 26,un 27,un 28],[(0,some (.row 59 2 (out_1.length+1) (fun i=>bif Nat.blt i out_1.length then (bE out_1) i else (fun i=>(dq 2 (aO ((l.getD (Int.toNat t12) aU).Span))) (0+i)) (i - out_1.length))))],1⟩)<|hh fun _=>lg (.of (.qs 3 (.cons rfl (.rown (bY rfl rfl)) (.qs 3 .nil))) (.row rfl (ac.app .b (ac.zero (ac.l1 (enc:=aO) (z:=aq) 2 ((l.getD (Int.toNat t12) aU).Span) rfl))) .nil rfl) rfl)) (.lf (some (Sum.inl (out_1,(ai (t12+1))))) .normal _<|hh fun _=>lx [0,1,2,7,10,11,12] [19,20,21,22,25,26,27,28] [])) (.lf (some (Sum.inr out_1)) (.exit 0) (AY l kind state (out_1,t12))<|hh fun _=>lg (.cn [0,7]))
theorem acH {l kind state out_1 t12}:Ax tP 40 ZH 0 iK (iR l kind state out_1 t12) (ajH l kind state out_1 t12):=.tE mixed [e58] [0,1,2,7,10,11,12,19,20,21,22,25,26,27,28] 4
def gF (l:(List ae)) (kind state:Int) (s:((List ab) × Int)):Option (((List ab) × Int) ⊕ (((List ab)))):=match s with | (out_1,t12)=>(iR l kind state out_1 t12).opt
theorem aaC (l kind state s):Pp tP 40 (List.drop 0 ZH) (AY l kind state s) (gF l kind state s) (cl (AY l kind state) (CK l kind state)):=fun K h=>match s,h with | (out_1,t12),h=>(acH h)
theorem Sv (l kind state):∀ r J K,CK l kind state r K→CK l kind state r (aH J K)
  | s,_,_,h=>h
def VW (l:(List ae)) (out_3:(List ab)):St:=⟨[sv 0 (bk l),sv 7 (.row 0 2 0 out_3.length)],[(bp 0 59 out_3)],1⟩
def Al (l:(List ae)) (out_3:(List ab)):PT _ (rE TC) iK:=.lk jG l fun L1_=>.bd (pP L1_) aq fun r_5=>.tv (aJ aO bB 2 2 out_3.length (fun i=>(bE out_3) (0+i))) (ac.ok aW (ac.zero .b))<|.ls (a:=lst bB out_3.length (fun i=>(bE out_3) (0+i))) (lr aW (ac.zero .b)) fun L2_=>.bd (mB L2_ r_5) [] fun r_6=>.lf (some r_6) .ret _<|hh fun _=>l0
theorem acY {l out_3}:Ax tP 40 uq 4 iK (Al l out_3) (VW l out_3):=.tE mixed [ZI,e59] [6] 2
def ahj (l:(List ae)) (kind state:Int):St:=⟨[sv 0 (bk l),sv 1 (i64 kind),sv 2 (i64 state),sv 7 (.c .nil),sv 10 (bk l),sv 11 (i64 (l.length:Int)),sv 12 (i64 0)],[],0⟩
abbrev w9 (l:(List ae)) (kind state:Int) (r:(((List ab)))):Option ((List ab)):=match r with | out_2=>((Al l out_2).opt)
def zk (l:(List ae)) (kind state:Int):Option ((List ab)):=(fixL (gF l kind state) (([]:List ab),0)).bind (w9 l kind state)
theorem afy:List.drop 3 uq = .block 0 (.loop (ah (ah (aQ uq 3)))) :: List.drop 4 uq:=by kernel_rfl
theorem ag2 (l kind state K):∀ r,W (w9 l kind state r) (rE TC K)→CK l kind state r (wK (bj 0 (aH (ar tP 40 (List.drop 4 uq) K) K)))
  | out_2,h=>⟨(VW l out_2),(.refl _),(acY h)⟩
theorem adg {l kind state K} (h:W (zk l kind state) (rE TC K)):ar tP 40 (List.drop 3 uq) K (ahj l kind state) :=
  ar.at_ afy (ar.cons_loop (aC.weak (aC.ent (.trans (.nilrow 7 0 59 2 (aV aO aq []) (Nat.le_of_ble_eq_true rfl) rfl) (.cn [0,1,2,7,10,11,12])) (aC.loopF (x:=ah (ah (aQ uq 3))) (f:=gF l kind state) (emb:=AY l kind state) (E:=CK l kind state) (aaC l kind state) (Sv l kind state) (bT h (ag2 l kind state K))))))
def akA (l:(List ae)) (kind state:Int):St:=⟨[sv 0 (bk l),sv 1 (i64 kind),sv 2 (i64 state)],[],0⟩
def zy (l:(List ae)) (kind state:Int):PT _ (rE TC) (dK tP 40 uq 3 iK):=.lf (zk l kind state) .normal _<|hh fun _ h=>l0 (adg h)
theorem aeh {l kind state}:Ax tP 40 uq 0 iK (zy l kind state) (akA l kind state):=.tD mixed [] [0,1,2,7,10,11,12,19,20,21,22,25,26,27,28] 3
def y0 (l:(List ae)) (kind state:Int):Option ((List ab)):=(zy l kind state).opt
def BU:bU:=yL ii (aI .i64) (aI .i64) y0 ([]:List ab) Jj
theorem JT:bc tP 30 BU:=sK Tryz.f30 (an Tryz.f30) [.tmp 6] 40 fun u0 u1 u2 y h=>@aeh u0 u1 u2 _ (bn.2 ⟨y,h,(cz (.row 0 2 0 y.length) (⟨_,_,_,rfl,rfl,rfl,fun _ _=>rfl,fun _ i hi d hd=>eA _ d hd⟩))⟩)
abbrev e30:FE tP:=⟨30, .pure BU,JT⟩
noncomputable def uM:List Code:=aA (an Tryz.f80)
noncomputable def ZL:List Code:=aA (ah (ah (aQ uM 3)))
def jo (x_1:(List ae)):bK:=.own true 70 14 (x_1).length (aV aR aU x_1)
def Om (x_1:(List ae)):St:=⟨[sv 4 (.row 0 14 0 x_1.length)],[(bP 0 70 x_1)],1⟩
theorem aki (x_1:(List ae)):eC tP [.tmp 4] (dN (jo x_1)) .ret (Om x_1) :=
  eC.intro (v:=(.row 0 14 0 x_1.length)) (by kernel_rfl) (⟨_,_,_,rfl,rfl,rfl,fun _ _=>rfl,fun _ i hi d hd=>lY _ d hd⟩)
def Cz (l:(List ae)) (s:((List ae) × Int)):St:=match s with | (out_1,t10)=>⟨[sv 1 (.fn 58 []),sv 5 (.row 0 14 0 out_1.length),sv 8 (bk l),sv 9 (i64 (l.length:Int)),sv 10 (i64 t10)],[(bP 0 70 out_1)],1⟩
def acN (l:(List ae)) (s:(List ae)):St:=match s with | out_2=>⟨[sv 5 (.row 0 14 0 out_2.length)],[(bP 0 70 out_2)],1⟩
def Bn (l:(List ae)) (r:(((List ae)))) (K:KT):Prop:=match r with | s=>K (.exit 0) (acN l s)
def ahb (out_1 l:(List ae)) (t10:Int):St:=Cz l (out_1,t10)
def dR (out_1 l:(List ae)) (t10:Int):PT _ (nE (Cz l) (Bn l)) iK:=.bf (decide (t10 < (l.length:Int))) (.g2 (0≤t10) (t10 < (l.length:Int))<|.bd (lj (l.getD (Int.toNat t10) aU)) false fun r_2=>.bf r_2 (.tv (out_1.length = out_1.length) rfl<|.gc (out_1.length+1) 112<|.lf (some (Sum.inl ((out_1++([(l.getD (Int.toNat t10) aU)]:List ae)),(ai (t10+1))))) .normal (⟨[sv 1 (.fn 58 []),sv 5 (.row 0 14 0 (out_1.length+1)),sv 8 (bk l),sv 9 (i64 (l.length:Int)),sv 10 (i64 (ai (t10+1)))],[(0,some (.row 70 14 (out_1.length+1) (fun i=>bif Nat.blt i out_1.length then (et out_1) i else (fun i=>(dq 14 (aR (l.getD (Int.toNat t10) aU))) (0+i)) (i - out_1.length))))],1⟩)<|hh fun _=>lg (.of (.q rfl (.cons rfl (.rown (bY rfl rfl)) (.qs 3 .nil))) (.row rfl (ac.app .b (ac.zero (ac.l1 (enc:=aR) (z:=aU) 14 (l.getD (Int.toNat t10) aU) rfl))) .nil rfl) rfl)) (.lf (some (Sum.inl (out_1,(ai (t10+1))))) .normal _<|hh fun _=>l0)) (.lf (some (Sum.inr out_1)) (.exit 0) (Cz l (out_1,t10))<|hh fun _=>lg (.cn [5]))
theorem aaI {out_1 l t10}:Ax tP 23 ZL 0 iK (dR out_1 l t10) (ahb out_1 l t10):=.tE mixed [e58] [1,5,8,9,10] 4
def gx (l:(List ae)) (s:((List ae) × Int)):Option (((List ae) × Int) ⊕ (((List ae)))):=match s with | (out_1,t10)=>(dR out_1 l t10).opt
theorem ab7 (l s):Pp tP 23 (List.drop 0 ZL) (Cz l s) (gx l s) (cl (Cz l) (Bn l)):=fun K h=>match s,h with | (out_1,t10),h=>(aaI h)
theorem Td (l):∀ r J K,Bn l r K→Bn l r (aH J K)
  | s,_,_,h=>h
def UD (out_3:(List ae)):St:=⟨[sv 5 (.row 0 14 0 out_3.length)],[(bP 0 70 out_3)],1⟩
def ot (out_3:(List ae)):PT _ (rE Om) iK:=.lf (some out_3) .ret _<|hh fun _=>l0
theorem ab5 {out_3}:Ax tP 23 uM 4 iK (ot out_3) (UD out_3):=.tE mixed [] [4] 2
def ajZ (l:(List ae)):St:=⟨[sv 1 (.fn 58 []),sv 5 (.c .nil),sv 8 (bk l),sv 9 (i64 (l.length:Int)),sv 10 (i64 0)],[],0⟩
abbrev mI (l:(List ae)) (r:(((List ae)))):Option ((List ae)):=match r with | out_2=>((ot out_2).opt)
def nR (l:(List ae)):Option ((List ae)):=(fixL (gx l) (([]:List ae),0)).bind (mI l)
theorem aaK:List.drop 3 uM = .block 0 (.loop (ah (ah (aQ uM 3)))) :: List.drop 4 uM:=by kernel_rfl
theorem akk (l K):∀ r,W (mI l r) (rE Om K)→Bn l r (wK (bj 0 (aH (ar tP 23 (List.drop 4 uM) K) K)))
  | out_2,h=>⟨(UD out_2),(.refl _),(ab5 h)⟩
theorem aaL {l K} (h:W (nR l) (rE Om K)):ar tP 23 (List.drop 3 uM) K (ajZ l) :=
  ar.at_ aaK (ar.cons_loop (aC.weak (aC.ent (.trans (.nilrow 5 0 70 14 (aV aR aU []) (Nat.le_of_ble_eq_true rfl) rfl) (.cn [1,5,8,9,10])) (aC.loopF (x:=ah (ah (aQ uM 3))) (f:=gx l) (emb:=Cz l) (E:=Bn l) (ab7 l) (Td l) (bT h (akk l K))))))
def Uh (l:(List ae)):St:=⟨[sv 0 (bk l),sv 1 (.fn 58 [])],[],0⟩
def ow (l:(List ae)):PT _ (rE Om) (dK tP 23 uM 3 iK):=.lf (nR l) .normal _<|hh fun _ h=>l0 (aaL h)
theorem ael {l}:Ax tP 23 uM 0 iK (ow l) (Uh l):=.tD mixed [] [1,5,8,9,10] 3
def eG (l:(List ae)):Option ((List ae)):=(ow l).opt
theorem ajz (l:(List ae)) (y_:(List ae)) (h:eG l = some y_):ar tP 23 (aA (an Tryz.f80)) (eC tP [.tmp 4] (dN (jo y_))) (Uh l) :=
  @ael l _ (bn.2 ⟨y_,h,aki y_⟩)
def jZ:bU
  | [(.c (.sl k1 n2 e3)),(.fn 58 [])]=>some ([aJ aR dF 14 k1 n2 e3,(eG (lst dF n2 e3)).isSome = true],(jo ((eG (lst dF n2 e3)).getD ([]:List ae))))
  | _=>none
theorem xU:bc tP 80 jZ:=by
  refine nT (fn:=Tryz.f80) (c:=an Tryz.f80) (by kernel_rfl) (by kernel_rfl) (by kernel_rfl) (rs:=[.tmp 4]) (by kernel_rfl) (nt:=23) (by kernel_rfl) fun vs p out h hp=>?_
  unfold jZ at h
  split at h
  · next k1 n2 e3 =>
    cases h
    obtain ⟨g0,hp⟩:=ce hp
    obtain ⟨g,hp⟩:=ce hp
    obtain ⟨x,hx⟩:=Option.isSome_iff_exists.1 g
    rw [hx]
    exact ⟨[(bk (lst dF n2 e3)),(.fn 58 [])],(VLes.cons (VLe.slk g0.1 (ac.of_ok g0)) (VLes.cons (VLe.rfl' _) VLes.nil)),rfl,ajz (lst dF n2 e3) x hx⟩
  · cases h
abbrev e80:FE tP:=⟨80, .pure jZ,xU⟩
noncomputable def amt:List Code:=aA (an Tryz.f60)
def Gw (x_1:(List ae)):bK:=.own true 70 14 (x_1).length (aV aR aU x_1)
def aoq (x_1:(List ae)):St:=⟨[sv 2 (.row 0 14 0 x_1.length)],[(bP 0 70 x_1)],1⟩
def ahN (l:(List ae)):St:=⟨[sv 0 (bk l)],[],0⟩
def wV (l:(List ae)):PT _ (rE aoq) iK:=.lk jG l fun L1_=>.bd (eG L1_) [] fun r_2=>.lf (some r_2) .ret _<|hh fun _=>l0
theorem aeo {l}:Ax tP 5 amt 0 iK (wV l) (ahN l):=.tE mixed [e80] [2] 3
def tQ (l:(List ae)):Option ((List ae)):=(wV l).opt
def yX:bU:=dI ii tQ ([]:List ae) Gw
theorem HO:bc tP 60 yX:=cD Tryz.f60 (an Tryz.f60) [.tmp 2] 5 fun u0 y h=>@aeo u0 _ (bn.2 ⟨y,h,(cz (.row 0 14 0 y.length) (⟨_,_,_,rfl,rfl,rfl,fun _ _=>rfl,fun _ i hi d hd=>lY _ d hd⟩))⟩)
abbrev e60:FE tP:=⟨60, .pure yX,HO⟩
noncomputable def uW:List Code:=aA (an Tryz.f32)
noncomputable def Zr:List Code:=aA (ah (ah (aQ uW 3)))
def Jd (x_1:(List ab)):bK:=.own true 59 2 (x_1).length (aV aO aq x_1)
def S3 (x_1:(List ab)):St:=⟨[sv 4 (.row 0 2 0 x_1.length)],[(bp 0 59 x_1)],1⟩
def y7 (n:Int) (t9:(List ab)) (t10:Int) (s:(Int × (List ab) × Int)):St:=match s with | (n_1,out_1,t11)=>⟨[sv 1 (i64 n_1),sv 5 (.row 0 2 0 out_1.length),sv 9 (.row 1 2 0 t9.length),sv 10 (i64 t10),sv 11 (i64 t11)],[(bp 0 59 out_1),(bp 1 59 t9)],2⟩
def adV (n:Int) (t9:(List ab)) (t10:Int) (s:(List ab)):St:=match s with | out_2=>⟨[sv 5 (.row 0 2 0 out_2.length)],[(bp 0 59 out_2)],1⟩
def C7 (n:Int) (t9:(List ab)) (t10:Int) (r:(((List ab)))) (K:KT):Prop:=match r with | s=>K (.exit 0) (adV n t9 t10 s)
def aiN (n_1:Int) (out_1 t9:(List ab)) (t10 t11:Int):St:=y7 (0:Int) t9 t10 (n_1,out_1,t11)
def iM (n_1:Int) (out_1 t9:(List ab)) (t10 t11:Int):PT _ (nE (y7 (0:Int) t9 t10) (C7 (0:Int) t9 t10)) iK:=.bf (decide (t11 < t10)) (.g2 (0≤t11) (t11 < (t9.length:Int))<|.bf (decide (n_1 < 1)) (.lf (some (Sum.inr out_1)) (.exit 0) (y7 (0:Int) t9 t10 (n_1,out_1,t11))<|hh fun _=>lg (.cn [5])) (.bf (decide (n_1 < (ai ((t9.getD (0+(Int.toNat t11)) aq).To - (t9.getD (0+(Int.toNat t11)) aq).From)))) (.tv (out_1.length = out_1.length) rfl<|.gc (out_1.length+1) 16<|.lf (some (Sum.inl ((ai (n_1 - (ai ((ai ((t9.getD (0+(Int.toNat t11)) aq).From+n_1)) - (t9.getD (0+(Int.toNat t11)) aq).From)))),(out_1++([(ab.mk (t9.getD (0+(Int.toNat t11)) aq).From (ai ((t9.getD (0+(Int.toNat t11)) aq).From+n_1)))]:List ab)),(ai (t11+1))))) .normal (⟨[sv 1 (i64 (ai (n_1 - (ai ((ai ((t9.getD (0+(Int.toNat t11)) aq).From+n_1)) - (t9.getD (0+(Int.toNat t11)) aq).From))))),sv 5 (.row 0 2 0 (out_1.length+1)),sv 9 (.row 1 2 0 t9.length),sv 10 (i64 t10),sv 11 (i64 (ai (t11+1)))],[(0,some (.row 59 2 (out_1.length+1) (fun i=>bif Nat.blt i out_1.length then (bE out_1) i else (fun i=>(dq 2 (aO (ab.s_To (t9.getD (0+(Int.toNat t11)) aq) (ai ((t9.getD (0+(Int.toNat t11)) aq).From+n_1))))) (0+i)) (i - out_1.length)))),(bp 1 59 t9)],2⟩)<|hh fun _=>lg (.of (.q rfl (.cons rfl (.rown (bY rfl rfl)) (.qs 3 .nil))) (.row rfl (ac.app .b (ac.zero (ac.l1 (enc:=aO) (z:=aq) 2 (ab.s_To (t9.getD (0+(Int.toNat t11)) aq) (ai ((t9.getD (0+(Int.toNat t11)) aq).From+n_1))) rfl))) (.same rfl .nil) rfl) rfl)) (.tv (out_1.length = out_1.length) rfl<|.gc (out_1.length+1) 16<|.lf (some (Sum.inl ((ai (n_1 - (ai ((t9.getD (0+(Int.toNat t11)) aq).To - (t9.getD (0+(Int.toNat t11)) aq).From)))),(out_1++([(t9.getD (0+(Int.toNat t11)) aq)]:List ab)),(ai (t11+1))))) .normal (⟨[sv 1 (i64 (ai (n_1 - (ai ((t9.getD (0+(Int.toNat t11)) aq).To - (t9.getD (0+(Int.toNat t11)) aq).From))))),sv 5 (.row 0 2 0 (out_1.length+1)),sv 9 (.row 1 2 0 t9.length),sv 10 (i64 t10),sv 11 (i64 (ai (t11+1)))],[(0,some (.row 59 2 (out_1.length+1) (fun i=>bif Nat.blt i out_1.length then (bE out_1) i else (fun i=>(dq 2 (aO (t9.getD (0+(Int.toNat t11)) aq))) (0+i)) (i - out_1.length)))),(bp 1 59 t9)],2⟩)<|hh fun _=>lg (.of (.q rfl (.cons rfl (.rown (bY rfl rfl)) (.qs 3 .nil))) (.row rfl (ac.app .b (ac.zero (ac.l1 (enc:=aO) (z:=aq) 2 (t9.getD (0+(Int.toNat t11)) aq) rfl))) (.same rfl .nil) rfl) rfl)))) (.lf (some (Sum.inr out_1)) (.exit 0) (y7 (0:Int) t9 t10 (n_1,out_1,t11))<|hh fun _=>lg (.cn [5]))
theorem adh {n_1 out_1 t9 t10 t11}:Ax tP 42 Zr 0 iK (iM n_1 out_1 t9 t10 t11) (aiN n_1 out_1 t9 t10 t11):=.tE mixed [] [1,5,9,10,11] 4
def gG (n:Int) (t9:(List ab)) (t10:Int) (s:(Int × (List ab) × Int)):Option ((Int × (List ab) × Int) ⊕ (((List ab)))):=match s with | (n_1,out_1,t11)=>(iM n_1 out_1 t9 t10 t11).opt
theorem acQ (n t9 t10 s):Pp tP 42 (List.drop 0 Zr) (y7 n t9 t10 s) (gG n t9 t10 s) (cl (y7 n t9 t10) (C7 n t9 t10)):=fun K h=>match s,h with | (n_1,out_1,t11),h=>(adh h)
theorem Ti (n t9 t10):∀ r J K,C7 n t9 t10 r K→C7 n t9 t10 r (aH J K)
  | s,_,_,h=>h
def UJ (out_3:(List ab)):St:=⟨[sv 5 (.row 0 2 0 out_3.length)],[(bp 0 59 out_3)],1⟩
def Aa (out_3:(List ab)):PT _ (rE S3) iK:=.lf (some out_3) .ret _<|hh fun _=>l0
theorem aei {out_3}:Ax tP 42 uW 4 iK (Aa out_3) (UJ out_3):=.tE mixed [] [4] 2
def ah4 (n:Int) (t9:(List ab)) (t10:Int):St:=⟨[sv 1 (i64 n),sv 5 (.c .nil),sv 9 (.row 0 2 0 t9.length),sv 10 (i64 t10),sv 11 (i64 0)],[(bp 0 59 t9)],1⟩
abbrev xb (n:Int) (t9:(List ab)) (t10:Int) (r:(((List ab)))):Option ((List ab)):=match r with | out_2=>((Aa out_2).opt)
def z8 (n:Int) (t9:(List ab)) (t10:Int):Option ((List ab)):=(fixL (gG n t9 t10) (n,([]:List ab),0)).bind (xb n t9 t10)
theorem afR:List.drop 3 uW = .block 0 (.loop (ah (ah (aQ uW 3)))) :: List.drop 4 uW:=by kernel_rfl
theorem ajQ (n t9 t10 K):∀ r,W (xb n t9 t10 r) (rE S3 K)→C7 n t9 t10 r (wK (bj 0 (aH (ar tP 42 (List.drop 4 uW) K) K)))
  | out_2,h=>⟨(UJ out_2),(.refl _),(aei h)⟩
theorem aaM {n t9 t10 K} (h:W (z8 n t9 t10) (rE S3 K)):ar tP 42 (List.drop 3 uW) K (ah4 n t9 t10) :=
  ar.at_ afR (ar.cons_loop (aC.weak (aC.ent (.trans (.nilrow 5 1 59 2 (aV aO aq []) (Nat.le_of_ble_eq_true rfl) rfl) (.cn [1,5,9,10,11])) (aC.loopF (x:=ah (ah (aQ uW 3))) (f:=gG n t9 t10) (emb:=y7 n t9 t10) (E:=C7 n t9 t10) (acQ n t9 t10) (Ti n t9 t10) (bT h (ajQ n t9 t10 K))))))
def ahA (l:(List ab)) (n:Int):St:=⟨[sv 0 (cF l),sv 1 (i64 n)],[],0⟩
def nG (l:(List ab)) (n:Int):PT _ (rE S3) (dK tP 42 uW 3 iK):=.lk mP l fun L1_=>.bd (mz L1_) [] fun r_2=>.lf (z8 n r_2 (r_2.length:Int)) .normal _<|hh fun _ h=>l0 (aaM h)
theorem Z8 {l n}:Ax tP 42 uW 0 iK (nG l n) (ahA l n):=.tD mixed [Zo] [1,5,9,10,11] 3
def rH (l:(List ab)) (n:Int):Option ((List ab)):=(nG l n).opt
def Bx:bU:=fH jc (aI .i64) rH ([]:List ab) Jd
theorem Kx:bc tP 32 Bx:=dA Tryz.f32 (an Tryz.f32) [.tmp 4] 42 fun u0 u1 y h=>@Z8 u0 u1 _ (bn.2 ⟨y,h,(cz (.row 0 2 0 y.length) (⟨_,_,_,rfl,rfl,rfl,fun _ _=>rfl,fun _ i hi d hd=>eA _ d hd⟩))⟩)
abbrev e32:FE tP:=⟨32, .pure Bx,Kx⟩
noncomputable def vn:List Code:=aA (an Tryz.f31)
noncomputable def kU:List Code:=aA (ah (ah (aQ vn 3)))
noncomputable def uY:List Code:=aA (ah (aQ kU 2))
noncomputable def ZK:List Code:=aA (ah (ah (aQ uY 2)))
def Ei (x_1:(List ab)):bK:=.own true 59 2 (x_1).length (aV aO aq x_1)
def R3 (x_1:(List ab)):St:=⟨[sv 8 (.row 0 2 0 x_1.length)],[(bp 0 59 x_1)],1⟩
def mQ (l:(List ae)) (state limit:Int) (before:ab) (s:((List ab) × Int)):St:=match s with | (out_2,child)=>⟨[sv 0 (bk l),sv 1 (i64 state),sv 3 (i64 limit),sv 6 (.ptr 0 2 0 0),sv 9 (.row 1 2 0 out_2.length),sv 10 (i64 child)],[(0,some (.bx (aO before))),(bp 1 59 out_2)],2⟩
def aeX (l:(List ae)) (state limit:Int) (before:ab) (s:(List ab)):St:=match s with | out_4=>⟨[sv 9 (.row 0 2 0 out_4.length)],[(bp 0 59 out_4)],1⟩
def mS (l:(List ae)) (state limit:Int) (before:ab) (r:(((List ab)))) (K:KT):Prop:=match r with | s=>K (.exit 0) (aeX l state limit before s)
def Cc (l:(List ae)) (state limit:Int) (out_7:(List ab)) (child_3:Int) (t19:(List ae)) (t20:Int) (before:ab) (s:((List ab) × Int × (List ab) × Int)):St:=match s with | (out_8,child_4,days,t21)=>⟨[sv 0 (bk l),sv 1 (i64 state),sv 3 (i64 limit),sv 6 (.ptr 0 2 0 0),sv 9 (.row 1 2 0 out_8.length),sv 10 (i64 child_4),sv 11 (.row 2 2 0 days.length),sv 19 (.row 3 14 0 t19.length),sv 20 (i64 t20),sv 21 (i64 t21)],[(0,some (.bx (aO before))),(bp 1 59 out_8),(bp 2 59 days),(bP 3 70 t19)],4⟩
def aa9 (l:(List ae)) (state limit:Int) (out_7:(List ab)) (child_3:Int) (t19:(List ae)) (t20:Int) (before:ab) (s:(List ab) × Int × (List ab)):St:=match s with | (out_9,child_5,days_1)=>⟨[sv 0 (bk l),sv 1 (i64 state),sv 3 (i64 limit),sv 6 (.ptr 0 2 0 0),sv 9 (.row 1 2 0 out_9.length),sv 10 (i64 child_5),sv 11 (.row 2 2 0 days_1.length)],[(0,some (.bx (aO before))),(bp 1 59 out_9),(bp 2 59 days_1)],3⟩
def A7 (l:(List ae)) (state limit:Int) (out_7:(List ab)) (child_3:Int) (t19:(List ae)) (t20:Int) (before:ab) (r:(((List ab) × Int × (List ab)))) (K:KT):Prop:=match r with | s=>K (.exit 2) (aa9 l state limit out_7 child_3 t19 t20 before s)
def akn (l:(List ae)) (state limit:Int) (out_8:(List ab)) (child_4:Int) (days:(List ab)) (t19:(List ae)) (t20 t21:Int) (before:ab):St:=Cc l state limit ([]:List ab) (0:Int) t19 t20 before (out_8,child_4,days,t21)
def fA (l:(List ae)) (state limit:Int) (out_8:(List ab)) (child_4:Int) (days:(List ab)) (t19:(List ae)) (t20 t21:Int) (before:ab):PT _ (nE (Cc l state limit ([]:List ab) (0:Int) t19 t20 before) (A7 l state limit ([]:List ab) (0:Int) t19 t20 before)) iK:=.bf (decide (t21 < t20)) (.g2 (0≤t21) (t21 < (t19.length:Int))<|.bf (bif (bif ((t19.getD (0+(Int.toNat t21)) aU).Kind == 10) then ((t19.getD (0+(Int.toNat t21)) aU).State == state) else false) then ((t19.getD (0+(Int.toNat t21)) aU).Ref == child_4) else false) (.tv (days.length = days.length) rfl<|.gc (days.length+1) 16<|.lf (some (Sum.inl (out_8,child_4,(days++([(t19.getD (0+(Int.toNat t21)) aU).Span]:List ab)),(ai (t21+1))))) .normal (⟨[sv 0 (bk l),sv 1 (i64 state),sv 3 (i64 limit),sv 6 (.ptr 0 2 0 0),sv 9 (.row 1 2 0 out_8.length),sv 10 (i64 child_4),sv 11 (.row 2 2 0 (days.length+1)),sv 19 (.row 3 14 0 t19.length),sv 20 (i64 t20),sv 21 (i64 (ai (t21+1))),un 29,un 30,un 31,un 32,un 35,un 36,un 37,un 38],[(0,some (.bx (aO before))),(bp 1 59 out_8),(2,some (.row 59 2 (days.length+1) (fun i=>bif Nat.blt i days.length then (bE days) i else (fun i=>(dq 2 (aO ((t19.getD (0+(Int.toNat t21)) aU).Span))) (0+i)) (i - days.length)))),(bP 3 70 t19)],4⟩)<|hh fun _=>lg (.of (.qs 6 (.cons rfl (.rown (bY rfl rfl)) (.qs 3 .nil))) (.same rfl (.same rfl (.row rfl (ac.app .b (ac.zero (ac.l1 (enc:=aO) (z:=aq) 2 ((t19.getD (0+(Int.toNat t21)) aU).Span) rfl))) (.same rfl .nil) rfl))) rfl)) (.lf (some (Sum.inl (out_8,child_4,days,(ai (t21+1))))) .normal _<|hh fun _=>lx [0,1,3,6,9,10,11,19,20,21] [29,30,31,32,35,36,37,38] [])) (.lf (some (Sum.inr (out_8,child_4,days))) (.exit 2) (Cc l state limit ([]:List ab) (0:Int) t19 t20 before (out_8,child_4,days,t21))<|hh fun _=>lg (.cn [0,1,3,6,9,10,11]))
theorem abg {l state limit out_8 child_4 days t19 t20 t21 before}:Ax tP 62 ZK 0 iK (fA l state limit out_8 child_4 days t19 t20 t21 before) (akn l state limit out_8 child_4 days t19 t20 t21 before):=.tE mixed [] [0,1,3,6,9,10,11,19,20,21,29,30,31,32,35,36,37,38] 4
def ia (l:(List ae)) (state limit:Int) (out_7:(List ab)) (child_3:Int) (t19:(List ae)) (t20:Int) (before:ab) (s:((List ab) × Int × (List ab) × Int)):Option (((List ab) × Int × (List ab) × Int) ⊕ (((List ab) × Int × (List ab)))):=match s with | (out_8,child_4,days,t21)=>(fA l state limit out_8 child_4 days t19 t20 t21 before).opt
theorem adi (l state limit out_7 child_3 t19 t20 before s):Pp tP 62 (List.drop 0 ZK) (Cc l state limit out_7 child_3 t19 t20 before s) (ia l state limit out_7 child_3 t19 t20 before s) (cl (Cc l state limit out_7 child_3 t19 t20 before) (A7 l state limit out_7 child_3 t19 t20 before)):=fun K h=>match s,h with | (out_8,child_4,days,t21),h=>(abg h)
theorem Tn (l state limit out_7 child_3 t19 t20 before):∀ r J K,A7 l state limit out_7 child_3 t19 t20 before r K→A7 l state limit out_7 child_3 t19 t20 before r (aH J K)
  | s,_,_,h=>h
def ahu (l:(List ae)) (state limit:Int) (out_1:(List ab)) (child_7:Int) (before:ab):St:=⟨[sv 0 (bk l),sv 1 (i64 state),sv 3 (i64 limit),sv 6 (.ptr 0 2 0 0),sv 9 (.row 1 2 0 out_1.length),sv 10 (i64 child_7)],[(0,some (.bx (aO before))),(bp 1 59 out_1)],2⟩
def ep (l:(List ae)) (state limit:Int) (out_1:(List ab)) (child_7:Int) (before:ab):PT _ (nE (mQ l state limit before) (mS l state limit before)) iK:=.lf (some (Sum.inl (out_1,(ai (child_7+1))))) .normal _<|hh fun _=>l0
theorem RM {l state limit out_1 child_7 before}:Ax tP 62 kU 3 iK (ep l state limit out_1 child_7 before) (ahu l state limit out_1 child_7 before):=.tE mixed [] [0,1,3,6,9,10,29,30,31,32,35,36,37,38] 1
def WK (l:(List ae)) (state limit:Int) (out_10:(List ab)) (child_6:Int) (days_2:(List ab)) (before:ab):St:=⟨[sv 0 (bk l),sv 1 (i64 state),sv 3 (i64 limit),sv 6 (.ptr 0 2 0 0),sv 9 (.row 1 2 0 out_10.length),sv 10 (i64 child_6),sv 11 (.row 2 2 0 days_2.length)],[(0,some (.bx (aO before))),(bp 1 59 out_10),(bp 2 59 days_2)],3⟩
def jT (l:(List ae)) (state limit:Int) (out_10:(List ab)) (child_6:Int) (days_2:(List ab)) (before:ab):PT _ (nE (mQ l state limit before) (mS l state limit before)) (fun K=>(bj 1 (aH (ar tP 62 (List.drop 3 kU) K) K))):=.bf (decide (0 < (days_2.length:Int))) (.lk jG l fun L1_=>.bd (pP L1_) aq fun r_6=>.tv (aJ aO bB 2 2 days_2.length (fun i=>(bE days_2) (0+i))) (ac.ok aW (ac.zero .b))<|.ls (a:=lst bB days_2.length (fun i=>(bE days_2) (0+i))) (lr aW (ac.zero .b)) fun L2_=>.bd (mB L2_ r_6) [] fun r_7=>.tv (aJ aO bB 2 2 r_7.length (fun i=>(bE r_7) (0+i))) (ac.ok aW (ac.zero .b))<|.ls (a:=lst bB r_7.length (fun i=>(bE r_7) (0+i))) (lr aW (ac.zero .b)) fun L3_=>.bd (mB L3_ before) [] fun r_8=>.tv (aJ aO bB 2 2 r_8.length (fun i=>(bE r_8) (0+i))) (ac.ok aW (ac.zero .b))<|.ls (a:=lst bB r_8.length (fun i=>(bE r_8) (0+i))) (lr aW (ac.zero .b)) fun L4_=>.bd (rH L4_ limit) [] fun r_9=>.tv (out_10.length = out_10.length) rfl<|.gc (out_10.length+r_9.length) 16<|.lf ((ep l state limit (out_10++r_9) child_6 before).opt) .normal (⟨[sv 0 (bk l),sv 1 (i64 state),sv 3 (i64 limit),sv 6 (.ptr 0 2 0 0),sv 9 (.row 1 2 0 (out_10.length+r_9.length)),sv 10 (i64 child_6)],[(0,some (.bx (aO before))),(1,some (.row 59 2 (out_10.length+r_9.length) (fun i=>bif Nat.blt i out_10.length then (bE out_10) i else (fun i=>(bE r_9) (0+i)) (i - out_10.length))))],2⟩)<|hh fun _ h=>lf (RM h) (.of (.qs 4 (.cons rfl (.rown (bY rfl rfl)) (.q rfl .nil))) (.same rfl (.row rfl (ac.app .b (ac.zero .b)) .nil rfl)) rfl)) (.lf ((ep l state limit out_10 child_6 before).opt) .normal _<|hh fun _ h=>l0 (RM h))
theorem aaa {l state limit out_10 child_6 days_2 before}:Ax tP 62 uY 3 (fun K=>(bj 1 (aH (ar tP 62 (List.drop 3 kU) K) K))) (jT l state limit out_10 child_6 days_2 before) (WK l state limit out_10 child_6 days_2 before):=.tE mixed [ZI,e32,e59] [0,1,3,6,9,10,29,30,31,32,35,36,37,38] 2
def aht (l:(List ae)) (state limit:Int) (out_7:(List ab)) (child_3:Int) (t19:(List ae)) (t20:Int) (before:ab):St:=⟨[sv 0 (bk l),sv 1 (i64 state),sv 3 (i64 limit),sv 6 (.ptr 0 2 0 0),sv 9 (.row 1 2 0 out_7.length),sv 10 (i64 child_3),sv 11 (.c .nil),sv 19 (.row 2 14 0 t19.length),sv 20 (i64 t20),sv 21 (i64 0)],[(0,some (.bx (aO before))),(bp 1 59 out_7),(bP 2 70 t19)],3⟩
abbrev ra (l:(List ae)) (state limit:Int) (out_7:(List ab)) (child_3:Int) (t19:(List ae)) (t20:Int) (before:ab) (r:(((List ab) × Int × (List ab)))):Option (((List ab) × Int) ⊕ (((List ab)))):=match r with | (out_9,child_5,days_1)=>((jT l state limit out_9 child_5 days_1 before).opt)
def sV (l:(List ae)) (state limit:Int) (out_7:(List ab)) (child_3:Int) (t19:(List ae)) (t20:Int) (before:ab):Option (((List ab) × Int) ⊕ (((List ab)))):=(fixL (ia l state limit out_7 child_3 t19 t20 before) (out_7,child_3,([]:List ab),0)).bind (ra l state limit out_7 child_3 t19 t20 before)
theorem afx:List.drop 2 uY = .block 2 (.loop (ah (ah (aQ uY 2)))) :: List.drop 3 uY:=by kernel_rfl
theorem agO (l state limit out_7 child_3 t19 t20 before K):∀ r,W (ra l state limit out_7 child_3 t19 t20 before r) (nE (mQ l state limit before) (mS l state limit before) K)→A7 l state limit out_7 child_3 t19 t20 before r (wK (bj 2 (aH (ar tP 62 (List.drop 3 uY) (bj 1 (aH (ar tP 62 (List.drop 3 kU) K) K))) (bj 1 (aH (ar tP 62 (List.drop 3 kU) K) K)))))
  | (out_9,child_5,days_1),h=>⟨(WK l state limit out_9 child_5 days_1 before),(.refl _),(aaa h)⟩
theorem afJ {l state limit out_7 child_3 t19 t20 before K} (h:W (sV l state limit out_7 child_3 t19 t20 before) (nE (mQ l state limit before) (mS l state limit before) K)):ar tP 62 (List.drop 2 uY) (bj 1 (aH (ar tP 62 (List.drop 3 kU) K) K)) (aht l state limit out_7 child_3 t19 t20 before) :=
  ar.at_ afx (ar.cons_loop (aC.weak (aC.ent (.trans (.nilrow 11 3 59 2 (aV aO aq []) (Nat.le_of_ble_eq_true rfl) rfl) (.cn [0,1,3,6,9,10,11,19,20,21])) (aC.loopF (x:=ah (ah (aQ uY 2))) (f:=ia l state limit out_7 child_3 t19 t20 before) (emb:=Cc l state limit out_7 child_3 t19 t20 before) (E:=A7 l state limit out_7 child_3 t19 t20 before) (adi l state limit out_7 child_3 t19 t20 before) (Tn l state limit out_7 child_3 t19 t20 before) (bT h (agO l state limit out_7 child_3 t19 t20 before K))))))
def aiv (l:(List ae)) (state limit:Int) (out_5:(List ab)) (child_2:Int) (before:ab):St:=⟨[sv 0 (bk l),sv 1 (i64 state),sv 3 (i64 limit),sv 6 (.ptr 0 2 0 0),sv 9 (.row 1 2 0 out_5.length),sv 10 (i64 child_2)],[(0,some (.bx (aO before))),(bp 1 59 out_5)],2⟩
def jV (l:(List ae)) (state limit:Int) (out_5:(List ab)) (child_2:Int) (before:ab):PT _ (nE (mQ l state limit before) (mS l state limit before)) (dK tP 62 uY 2 (fun K=>(bj 1 (aH (ar tP 62 (List.drop 3 kU) K) K)))):=.lk jG l fun L1_=>.bd (tQ L1_) [] fun r_10=>.lf (sV l state limit out_5 child_2 r_10 (r_10.length:Int) before) .normal _<|hh fun _ h=>l0 (afJ h)
theorem aab {l state limit out_5 child_2 before}:Ax tP 62 uY 0 (fun K=>(bj 1 (aH (ar tP 62 (List.drop 3 kU) K) K))) (jV l state limit out_5 child_2 before) (aiv l state limit out_5 child_2 before):=.tD mixed [e60] [0,1,3,6,9,10,11,19,20,21,29,30,31,32,35,36,37,38] 2
def akq (l:(List ae)) (state limit:Int) (out_3:(List ab)) (child_1:Int) (before:ab):St:=⟨[sv 0 (bk l),sv 1 (i64 state),sv 3 (i64 limit),sv 6 (.ptr 0 2 0 0),sv 9 (.row 1 2 0 out_3.length),sv 10 (i64 child_1)],[(0,some (.bx (aO before))),(bp 1 59 out_3)],2⟩
def sY (l:(List ae)) (state limit:Int) (out_3:(List ab)) (child_1:Int) (before:ab):Option (((List ab) × Int) ⊕ (((List ab)))):=((jV l state limit out_3 child_1 before).opt)
theorem abp:List.drop 2 kU = .block 1 (ah (aQ kU 2)) :: List.drop 3 kU:=by kernel_rfl
theorem aas {l state limit out_3 child_1 before K} (h:W (sY l state limit out_3 child_1 before) (nE (mQ l state limit before) (mS l state limit before) K)):ar tP 62 (List.drop 2 kU) K (akq l state limit out_3 child_1 before) :=
  ar.at_ abp (ar.cons_block (ar.en (aab h) (.refl _)))
def alH (l:(List ae)) (state limit:Int) (out_2:(List ab)) (child:Int) (before:ab):St:=mQ l state limit before (out_2,child)
def fx (l:(List ae)) (state limit:Int) (out_2:(List ab)) (child:Int) (before:ab):PT _ (nE (mQ l state limit before) (mS l state limit before)) (dK tP 62 kU 2 iK):=.bf (decide (child≤99)) (.lf (sY l state limit out_2 child before) .normal _<|hh fun _ h=>l0 (aas h)) (.lf (some (Sum.inr out_2)) (.exit 0) (mQ l state limit before (out_2,child))<|hh fun _=>lg (.cn [9]))
theorem abH {l state limit out_2 child before}:Ax tP 62 kU 0 iK (fx l state limit out_2 child before) (alH l state limit out_2 child before):=.tD mixed [] [0,1,3,6,9,10,29,30,31,32,35,36,37,38] 2
def fB (l:(List ae)) (state limit:Int) (before:ab) (s:((List ab) × Int)):Option (((List ab) × Int) ⊕ (((List ab)))):=match s with | (out_2,child)=>(fx l state limit out_2 child before).opt
theorem ab4 (l state limit before s):Pp tP 62 (List.drop 0 kU) (mQ l state limit before s) (fB l state limit before s) (cl (mQ l state limit before) (mS l state limit before)):=fun K h=>match s,h with | (out_2,child),h=>(abH h)
theorem ST (l state limit before):∀ r J K,mS l state limit before r K→mS l state limit before r (aH J K)
  | s,_,_,h=>h
def VZ (out_6:(List ab)):St:=⟨[sv 9 (.row 0 2 0 out_6.length)],[(bp 0 59 out_6)],1⟩
def jQ (out_6:(List ab)):PT _ (rE R3) iK:=.tv (aJ aO bB 2 2 out_6.length (fun i=>(bE out_6) (0+i))) (ac.ok aW (ac.zero .b))<|.ls (a:=lst bB out_6.length (fun i=>(bE out_6) (0+i))) (lr aW (ac.zero .b)) fun L1_=>.bd (mz L1_) [] fun r_12=>.lf (some r_12) .ret _<|hh fun _=>l0
theorem aec {out_6}:Ax tP 62 vn 4 iK (jQ out_6) (VZ out_6):=.tE mixed [Zo] [8] 2
def ai2 (l:(List ae)) (state limit:Int) (before:ab):St:=⟨[sv 0 (bk l),sv 1 (i64 state),sv 3 (i64 limit),sv 6 (.ptr 0 2 0 0),sv 9 (.c .nil),sv 10 (i64 1)],[(0,some (.bx (aO before)))],1⟩
abbrev rx (l:(List ae)) (state limit:Int) (before:ab) (r:(((List ab)))):Option ((List ab)):=match r with | out_4=>((jQ out_4).opt)
def sX (l:(List ae)) (state limit:Int) (before:ab):Option ((List ab)):=(fixL (fB l state limit before) (([]:List ab),1)).bind (rx l state limit before)
theorem aa2:List.drop 3 vn = .block 0 (.loop (ah (ah (aQ vn 3)))) :: List.drop 4 vn:=by kernel_rfl
theorem aje (l state limit before K):∀ r,W (rx l state limit before r) (rE R3 K)→mS l state limit before r (wK (bj 0 (aH (ar tP 62 (List.drop 4 vn) K) K)))
  | out_4,h=>⟨(VZ out_4),(.refl _),(aec h)⟩
theorem acI {l state limit before K} (h:W (sX l state limit before) (rE R3 K)):ar tP 62 (List.drop 3 vn) K (ai2 l state limit before) :=
  ar.at_ aa2 (ar.cons_loop (aC.weak (aC.ent (.trans (.nilrow 9 1 59 2 (aV aO aq []) (Nat.le_of_ble_eq_true rfl) rfl) (.cn [0,1,3,6,9,10])) (aC.loopF (x:=ah (ah (aQ vn 3))) (f:=fB l state limit before) (emb:=mQ l state limit before) (E:=mS l state limit before) (ab4 l state limit before) (ST l state limit before) (bT h (aje l state limit before K))))))
def akf (l:(List ae)) (state:Int) (before:ab) (limit:Int):St:=⟨[sv 0 (bk l),sv 1 (i64 state),sv 2 (.ag (aO before)),sv 3 (i64 limit)],[],0⟩
def tc (l:(List ae)) (state:Int) (before:ab) (limit:Int):PT _ (rE R3) (dK tP 62 vn 3 iK):=.lf (sX l state limit before) .normal _<|hh fun _ h=>l0 (acI h)
theorem agq {l state before limit}:Ax tP 62 vn 0 iK (tc l state before limit) (akf l state before limit):=.tD mixed [] [0,1,3,6,9,10,29,30,31,32,35,36,37,38] 3
def qT (l:(List ae)) (state:Int) (before:ab) (limit:Int):Option ((List ab)):=(tc l state before limit).opt
def wq:bU:=Qm ii (aI .i64) yB (aI .i64) qT ([]:List ab) Ei
theorem Fp:bc tP 31 wq:=OS Tryz.f31 (an Tryz.f31) [.tmp 8] 62 fun u0 u1 u2 u3 y h=>@agq u0 u1 u2 u3 _ (bn.2 ⟨y,h,(cz (.row 0 2 0 y.length) (⟨_,_,_,rfl,rfl,rfl,fun _ _=>rfl,fun _ i hi d hd=>eA _ d hd⟩))⟩)
abbrev e31:FE tP:=⟨31, .pure wq,Fp⟩
end
end Go.Ax
