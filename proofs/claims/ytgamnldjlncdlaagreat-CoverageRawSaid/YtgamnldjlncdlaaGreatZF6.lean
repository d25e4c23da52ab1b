import Derived.Test.YtgamnldjlncdlaaGreatZF5
import Derived.Test.YtgamnldjlncdlaaGreatRows
/- Types of the program, and functions of it: printed by a program, checked by the kernel. -/
set_option linter.all false
set_option maxRecDepth 100000
namespace Go.Ax
open Go.Proofs Go.Proofs.YtgamnldjlncdlaaGreat
noncomputable section
attribute [local irreducible] PT.opt
noncomputable def vF:List Code:=aA (ao Tryz.f25)
noncomputable def aa1:List Code:=aA (ah (ah (aP vF 1)))
def Nb (x_1:(List aj)):St:=⟨[sv 1000000 (.ptr 0 1 0 0)],[(0,some (.box [(.row 1 4 0 x_1.length)])),(cw 1 76 x_1)],2⟩
theorem XO (x_1:(List aj)) {H:ap} {nid:Nat} {ps:List Prop} {ob oc:Nat} {cs:List V} (hne:ob≠oc) (h0:ap.get H ob = some (.box cs)) (hl:cs.length = 1):ep tP [] (fun σ v=>∃ m,Left [ob,oc] nid H false { pre:=ps,val:=(.tup []),eff:=[(ob,some (.box [.row oc 4 0 x_1.length])),(oc,some (.row 76 4 x_1.length (aV cM cr x_1)))],kill:=[oc] } m σ v) .ret (Nb x_1) :=
  ep.intro (v:=(.tup [])) (by kernel_rfl) ⟨_,Rt (qb:=0) (qr:=1) hne h0 hl rfl rfl rfl (fun _ _=>rfl) rfl (VLe.rfl' _) (.inr ⟨rfl,fun i hi d hd=>sF _ d hd⟩) (.inl ⟨rfl,rfl⟩)⟩
theorem SO (x_1:(List aj)) {H:ap} {nid:Nat} {ps:List Prop} {ob:Nat} {cs:List V} (hne:ob≠nid) (h0:ap.get H ob = some (.box cs)) (hl:cs.length = 1):ep tP [] (fun σ v=>∃ m,Left [ob] nid H false { pre:=ps,val:=(.tup []),eff:=[(ob,some (.box [.row nid 4 0 x_1.length])),(nid,some (.row 76 4 x_1.length (aV cM cr x_1)))],kill:=[] } m σ v) .ret (Nb x_1) :=
  ep.intro (v:=(.tup [])) (by kernel_rfl) ⟨_,Rt (qb:=0) (qr:=1) hne h0 hl rfl rfl rfl (fun _ _=>rfl) rfl (VLe.rfl' _) (.inr ⟨rfl,fun i hi d hd=>sF _ d hd⟩) (.inr ⟨rfl,rfl,rfl⟩)⟩
def DJ (rank:Int) (t3:an) (days:(List ab)) (t2:(List aj)) (s:(Int × (List aj))):St:=match s with | (t10,t2_1)=>⟨[sv 0 (i64 rank),sv 2 (.ptr 0 1 0 0),sv 3 (.dptr 9 [(di t3.State),(di t3.Version.From),(di t3.Version.Rounding.Mode),(di t3.Version.Rounding.Unit),(.sl 2 t3.Version.Credits.length (gq t3.Version.Credits)),(.sl 3 t3.Version.Series.length (jv t3.Version.Series)),(.sl 7 t3.Version.Lets.length (mE t3.Version.Lets)),(.sl 13 t3.Version.Grants.length (ik t3.Version.Grants)),(.sl 7 t3.Version.Reduces.length (iT t3.Version.Reduces))] 0),sv 8 (dF days),sv 9 (i64 (days.length:Int)),sv 10 (i64 t10),sv 1000000 (.ptr 0 1 0 0)],[(0,some (.box [(.row 1 4 0 t2_1.length)])),(cw 1 76 t2_1)],2⟩
def adm (rank:Int) (t3:an) (days:(List ab)) (t2:(List aj)) (s:(List aj)):St:=match s with | t1000000=>⟨[sv 1000000 (.ptr 0 1 0 0)],[(0,some (.box [(.row 1 4 0 t1000000.length)])),(cw 1 76 t1000000)],2⟩
def DS (rank:Int) (t3:an) (days:(List ab)) (t2:(List aj)) (r:(((List aj)))) (K:KT):Prop:=match r with | s=>K (.exit 0) (adm rank t3 days t2 s)
def alB (rank:Int) (t3:an) (days:(List ab)) (t10:Int) (t2_1:(List aj)):St:=DJ rank t3 days ([]:List aj) (t10,t2_1)
def fe (rank:Int) (t3:an) (days:(List ab)) (t10:Int) (t2_1:(List aj)):PT _ (nE (DJ rank t3 days ([]:List aj)) (DS rank t3 days ([]:List aj))) iK:=.bf (decide (t10 < (days.length:Int))) (.g2 (0≤t10) (t10 < (days.length:Int))<|.tv (t2_1.length = t2_1.length) rfl<|.gc (t2_1.length+1) 32<|.lf (some (Sum.inl ((ai (t10+1)),(t2_1++([(aj.mk t3.State rank (days.getD (Int.toNat t10) aq))]:List aj))))) .normal (⟨[sv 0 (i64 rank),sv 2 (.ptr 0 1 0 0),sv 3 (.dptr 9 [(di t3.State),(di t3.Version.From),(di t3.Version.Rounding.Mode),(di t3.Version.Rounding.Unit),(.sl 2 t3.Version.Credits.length (gq t3.Version.Credits)),(.sl 3 t3.Version.Series.length (jv t3.Version.Series)),(.sl 7 t3.Version.Lets.length (mE t3.Version.Lets)),(.sl 13 t3.Version.Grants.length (ik t3.Version.Grants)),(.sl 7 t3.Version.Reduces.length (iT t3.Version.Reduces))] 0),sv 8 (dF days),sv 9 (i64 (days.length:Int)),sv 10 (i64 (ai (t10+1))),sv 1000000 (.ptr 0 1 0 0)],[(0,some (.box [(.row 1 4 0 (t2_1.length+1))])),(1,some (.row 76 4 (t2_1.length+1) (fun i=>bif Nat.blt i t2_1.length then (EL t2_1) i else (fun i=>(dj 4 (cM (aj.mk t3.State rank (days.getD (Int.toNat t10) aq)))) (0+i)) (i - t2_1.length))))],2⟩)<|hh fun _=>lg (.of (.qs 7 .nil) (.box rfl (.cons (.rown (bS rfl rfl)) .nil) (.row rfl (ae.app .b (ae.zero (ae.l1 (enc:=cM) (z:=cr) 4 (aj.mk t3.State rank (days.getD (Int.toNat t10) aq)) rfl))) .nil rfl)) rfl)) (.lf (some (Sum.inr t2_1)) (.exit 0) (DJ rank t3 days ([]:List aj) (t10,t2_1))<|hh fun _=>lg (.cn [1000000]))
theorem abx {rank t3 days t10 t2_1}:Ax tP 23 aa1 0 iK (fe rank t3 days t10 t2_1) (alB rank t3 days t10 t2_1):=.tE mixed [] [0,2,3,8,9,10,1000000] 4
def gx (rank:Int) (t3:an) (days:(List ab)) (t2:(List aj)) (s:(Int × (List aj))):Option ((Int × (List aj)) ⊕ (((List aj)))):=match s with | (t10,t2_1)=>(fe rank t3 days t10 t2_1).opt
theorem aex (rank t3 days t2 s):Pp tP 23 (List.drop 0 aa1) (DJ rank t3 days t2 s) (gx rank t3 days t2 s) (cd (DJ rank t3 days t2) (DS rank t3 days t2)):=fun K h=>match s,h with | (t10,t2_1),h=>(abx h)
theorem Tk (rank t3 days t2):∀ r J K,DS rank t3 days t2 r K→DS rank t3 days t2 r (aE J K)
  | s,_,_,h=>h
def akj (rank:Int) (t3:an) (days:(List ab)) (t2:(List aj)):St:=⟨[sv 0 (i64 rank),sv 2 (.ptr 0 1 0 0),sv 3 (.dptr 9 [(di t3.State),(di t3.Version.From),(di t3.Version.Rounding.Mode),(di t3.Version.Rounding.Unit),(.sl 2 t3.Version.Credits.length (gq t3.Version.Credits)),(.sl 3 t3.Version.Series.length (jv t3.Version.Series)),(.sl 7 t3.Version.Lets.length (mE t3.Version.Lets)),(.sl 13 t3.Version.Grants.length (ik t3.Version.Grants)),(.sl 7 t3.Version.Reduces.length (iT t3.Version.Reduces))] 0),sv 8 (dF days),sv 9 (i64 (days.length:Int)),sv 10 (i64 0),sv 1000000 (.ptr 0 1 0 0)],[(0,some (.box [(.row 1 4 0 t2.length)])),(cw 1 76 t2)],2⟩
abbrev qh (rank:Int) (t3:an) (days:(List ab)) (t2:(List aj)) (r:(((List aj)))):Option ((List aj)):=match r with | t1000000=>(some t1000000)
def sU (rank:Int) (t3:an) (days:(List ab)) (t2:(List aj)):Option ((List aj)):=(fixL (gx rank t3 days t2) (0,t2)).bind (qh rank t3 days t2)
theorem ad6:List.drop 1 vF = .block 0 (.loop (ah (ah (aP vF 1)))) :: List.drop 2 vF:=by kernel_rfl
theorem anQ (rank t3 days t2 K):∀ r,W (qh rank t3 days t2 r) (rEn Nb K)→DS rank t3 days t2 r (wK (aZ 0 (aE (au tP 23 (List.drop 2 vF) K) K)))
  | t1000000,h=>⟨(Nb t1000000),(.refl _),(au.end_ (by kernel_rfl:List.drop 2 vF = []) (And.left h))⟩
theorem act {rank t3 days t2 K} (h:W (sU rank t3 days t2) (rEn Nb K)):au tP 23 (List.drop 1 vF) K (akj rank t3 days t2) :=
  au.at_ ad6 (au.cons_loop (aC.weak (aC.ent (.refl _) (aC.loopF (x:=ah (ah (aP vF 1))) (f:=gx rank t3 days t2) (emb:=DJ rank t3 days t2) (E:=DS rank t3 days t2) (aex rank t3 days t2) (Tk rank t3 days t2) (bM h (anQ rank t3 days t2 K))))))
def alr (rank:Int) (days:(List ab)) (t3:an) (t2:(List aj)):St:=⟨[sv 0 (i64 rank),sv 1 (dF days),sv 2 (.ptr 0 1 0 0),sv 3 (.dptr 9 [(di t3.State),(di t3.Version.From),(di t3.Version.Rounding.Mode),(di t3.Version.Rounding.Unit),(.sl 2 t3.Version.Credits.length (gq t3.Version.Credits)),(.sl 3 t3.Version.Series.length (jv t3.Version.Series)),(.sl 7 t3.Version.Lets.length (mE t3.Version.Lets)),(.sl 13 t3.Version.Grants.length (ik t3.Version.Grants)),(.sl 7 t3.Version.Reduces.length (iT t3.Version.Reduces))] 0),sv 1000000 (.ptr 0 1 0 0)],[(0,some (.box [(.row 1 4 0 t2.length)])),(cw 1 76 t2)],2⟩
def sq (rank:Int) (days:(List ab)) (t3:an) (t2:(List aj)):PT _ (rEn Nb) (dK tP 23 vF 1 iK):=.lf (sU rank t3 days t2) .normal _<|hh fun _ h=>l0 (act h)
theorem SE {rank days t3 t2}:Ax tP 23 vF 0 iK (sq rank days t3 t2) (alr rank days t3 t2):=.tD mixed [] [0,2,3,8,9,10,1000000] 1
def cO (rank:Int) (days:(List ab)) (t2:(List aj)) (t3:an):Option ((List aj)):=(sq rank days t3 t2).opt
def nB:ap→Nat→List V→Option cR:=fun H nid args=>match oV H [false,false,true,false] args with
  | [(.c (.lit (.int .i64 a1))),(.c (.sl k2 n3 e4)),(.ptr o_ k_ i_ j_),(.dptr 9 [(.lit (.int .i64 a5)),(.lit (.int .i64 a6)),(.lit (.int .i64 a7)),(.lit (.int .i64 a8)),(.sl k9 n10 eH),(.sl k12 n13 e14),(.sl k15 n16 e17),(.sl k18 n19 e20),(.sl k21 n22 fK)] 0)]=>(match ap.get H o_ with
    | some (.box [.row c_ k2_ f_ n_])=>(match ap.get H c_ with
      | some (.row t_ k3_ m_ e_)=>bif !(Nat.beq o_ c_)&&Nat.beq k_ 1&&Nat.beq i_ 0&&Nat.beq j_ 0&&Nat.beq t_ 76&&Nat.beq k2_ 4&&Nat.beq k3_ 4&&Nat.beq f_ 0&&dY [o_,c_] H false [false,false,true,false] args then some { pre:=[aK aN bD 2 k2 n3 e4,n_ = m_,aK cM iW 4 4 m_ e_,aK cT bw 2 k9 n10 eH,aK fa bR 3 k12 n13 e14,aK jl cG 7 k15 n16 e17,aK eG bO 13 k18 n19 e20,aK eK bG 7 k21 n22 fK,(cO a1 (lst bD n3 e4) (lst iW m_ e_) (an.mk a5 (aJ.mk a6 (bs.mk a7 a8) (lst bw n10 eH) (lst bR n13 e14) (lst cG n16 e17) (lst bO n19 e20) (lst bG n22 fK)))).isSome = true],val:=(.tup []),eff:=[(o_,some (.box [.row c_ 4 0 ((cO a1 (lst bD n3 e4) (lst iW m_ e_) (an.mk a5 (aJ.mk a6 (bs.mk a7 a8) (lst bw n10 eH) (lst bR n13 e14) (lst cG n16 e17) (lst bO n19 e20) (lst bG n22 fK)))).getD ([]:List aj)).length])),(c_,some (.row 76 4 ((cO a1 (lst bD n3 e4) (lst iW m_ e_) (an.mk a5 (aJ.mk a6 (bs.mk a7 a8) (lst bw n10 eH) (lst bR n13 e14) (lst cG n16 e17) (lst bO n19 e20) (lst bG n22 fK)))).getD ([]:List aj)).length (aV cM cr ((cO a1 (lst bD n3 e4) (lst iW m_ e_) (an.mk a5 (aJ.mk a6 (bs.mk a7 a8) (lst bw n10 eH) (lst bR n13 e14) (lst cG n16 e17) (lst bO n19 e20) (lst bG n22 fK)))).getD ([]:List aj)))))],kill:=[c_] } else none
      | _=>none)
    | some (.box [.c .nil])=>bif !(Nat.beq o_ nid)&&Nat.beq k_ 1&&Nat.beq i_ 0&&Nat.beq j_ 0&&dY [o_] H false [false,false,true,false] args then some { pre:=[aK aN bD 2 k2 n3 e4,aK cT bw 2 k9 n10 eH,aK fa bR 3 k12 n13 e14,aK jl cG 7 k15 n16 e17,aK eG bO 13 k18 n19 e20,aK eK bG 7 k21 n22 fK,(cO a1 (lst bD n3 e4) ([]:List aj) (an.mk a5 (aJ.mk a6 (bs.mk a7 a8) (lst bw n10 eH) (lst bR n13 e14) (lst cG n16 e17) (lst bO n19 e20) (lst bG n22 fK)))).isSome = true],val:=(.tup []),eff:=[(o_,some (.box [.row nid 4 0 ((cO a1 (lst bD n3 e4) ([]:List aj) (an.mk a5 (aJ.mk a6 (bs.mk a7 a8) (lst bw n10 eH) (lst bR n13 e14) (lst cG n16 e17) (lst bO n19 e20) (lst bG n22 fK)))).getD ([]:List aj)).length])),(nid,some (.row 76 4 ((cO a1 (lst bD n3 e4) ([]:List aj) (an.mk a5 (aJ.mk a6 (bs.mk a7 a8) (lst bw n10 eH) (lst bR n13 e14) (lst cG n16 e17) (lst bO n19 e20) (lst bG n22 fK)))).getD ([]:List aj)).length (aV cM cr ((cO a1 (lst bD n3 e4) ([]:List aj) (an.mk a5 (aJ.mk a6 (bs.mk a7 a8) (lst bw n10 eH) (lst bR n13 e14) (lst cG n16 e17) (lst bO n19 e20) (lst bG n22 fK)))).getD ([]:List aj)))))],kill:=[] } else none
    | _=>none)
  | _=>none
theorem EB:bV tP 25 (.mut nB):=by
  refine Uq (fn:=Tryz.f25) (c:=ao Tryz.f25) (by kernel_rfl) (by kernel_rfl) (by kernel_rfl) (rs:=[]) (by kernel_rfl) (nt:=23) (by kernel_rfl) fun H nid args r h hp=>?_
  unfold nB at h
  split at h
  · next a1 k2 n3 e4 o_ k_ i_ j_ a5 a6 a7 a8 k9 n10 eH k12 n13 e14 k15 n16 e17 k18 n19 e20 k21 n22 fK hv =>
    split at h
    · next c_ k2_ f_ n_ hg =>
      split at h
      · next t_ k3_ m_ e_ hg2 =>
        cases hb:(!(Nat.beq o_ c_)&&Nat.beq k_ 1&&Nat.beq i_ 0&&Nat.beq j_ 0&&Nat.beq t_ 76&&Nat.beq k2_ 4&&Nat.beq k3_ 4&&Nat.beq f_ 0&&dY [o_,c_] H false [false,false,true,false] args) with
        | false=>rw [hb] at h; cases h
        | true =>
          rw [hb] at h
          simp only [Bool.and_eq_true,Nat.beq_eq] at hb
          obtain ⟨⟨⟨⟨⟨⟨⟨⟨hq,rfl⟩,rfl⟩,rfl⟩,rfl⟩,rfl⟩,rfl⟩,rfl⟩,hk⟩:=hb
          have hne:o_≠c_:=fun e=>by rw [e,J7] at hq; cases hq
          cases h
          obtain ⟨g0,hp⟩:=co hp
          obtain ⟨hn,hp⟩:=co hp
          obtain ⟨gr,hp⟩:=co hp
          obtain ⟨g1,hp⟩:=co hp
          obtain ⟨g2,hp⟩:=co hp
          obtain ⟨g3,hp⟩:=co hp
          obtain ⟨g4,hp⟩:=co hp
          obtain ⟨g5,hp⟩:=co hp
          obtain ⟨g,hp⟩:=co hp
          obtain ⟨x,hx⟩:=Option.isSome_iff_exists.1 g
          rw [hx]
          subst hn
          exact .inl ⟨false,[false,false,true,false],o_,c_,76,4,_,e_,[(i64 a1),(dF (lst bD n3 e4)), .ptr 0 1 0 0,(.dptr 9 [(di (an.mk a5 (aJ.mk a6 (bs.mk a7 a8) (lst bw n10 eH) (lst bR n13 e14) (lst cG n16 e17) (lst bO n19 e20) (lst bG n22 fK))).State),(di ((an.mk a5 (aJ.mk a6 (bs.mk a7 a8) (lst bw n10 eH) (lst bR n13 e14) (lst cG n16 e17) (lst bO n19 e20) (lst bG n22 fK))).Version).From),(di (((an.mk a5 (aJ.mk a6 (bs.mk a7 a8) (lst bw n10 eH) (lst bR n13 e14) (lst cG n16 e17) (lst bO n19 e20) (lst bG n22 fK))).Version).Rounding).Mode),(di (((an.mk a5 (aJ.mk a6 (bs.mk a7 a8) (lst bw n10 eH) (lst bR n13 e14) (lst cG n16 e17) (lst bO n19 e20) (lst bG n22 fK))).Version).Rounding).Unit),(.sl 2 (((an.mk a5 (aJ.mk a6 (bs.mk a7 a8) (lst bw n10 eH) (lst bR n13 e14) (lst cG n16 e17) (lst bO n19 e20) (lst bG n22 fK))).Version).Credits).length (gq (((an.mk a5 (aJ.mk a6 (bs.mk a7 a8) (lst bw n10 eH) (lst bR n13 e14) (lst cG n16 e17) (lst bO n19 e20) (lst bG n22 fK))).Version).Credits))),(.sl 3 (((an.mk a5 (aJ.mk a6 (bs.mk a7 a8) (lst bw n10 eH) (lst bR n13 e14) (lst cG n16 e17) (lst bO n19 e20) (lst bG n22 fK))).Version).Series).length (jv (((an.mk a5 (aJ.mk a6 (bs.mk a7 a8) (lst bw n10 eH) (lst bR n13 e14) (lst cG n16 e17) (lst bO n19 e20) (lst bG n22 fK))).Version).Series))),(.sl 7 (((an.mk a5 (aJ.mk a6 (bs.mk a7 a8) (lst bw n10 eH) (lst bR n13 e14) (lst cG n16 e17) (lst bO n19 e20) (lst bG n22 fK))).Version).Lets).length (mE (((an.mk a5 (aJ.mk a6 (bs.mk a7 a8) (lst bw n10 eH) (lst bR n13 e14) (lst cG n16 e17) (lst bO n19 e20) (lst bG n22 fK))).Version).Lets))),(.sl 13 (((an.mk a5 (aJ.mk a6 (bs.mk a7 a8) (lst bw n10 eH) (lst bR n13 e14) (lst cG n16 e17) (lst bO n19 e20) (lst bG n22 fK))).Version).Grants).length (ik (((an.mk a5 (aJ.mk a6 (bs.mk a7 a8) (lst bw n10 eH) (lst bR n13 e14) (lst cG n16 e17) (lst bO n19 e20) (lst bG n22 fK))).Version).Grants))),(.sl 7 (((an.mk a5 (aJ.mk a6 (bs.mk a7 a8) (lst bw n10 eH) (lst bR n13 e14) (lst cG n16 e17) (lst bO n19 e20) (lst bG n22 fK))).Version).Reduces).length (iT (((an.mk a5 (aJ.mk a6 (bs.mk a7 a8) (lst bw n10 eH) (lst bR n13 e14) (lst cG n16 e17) (lst bO n19 e20) (lst bG n22 fK))).Version).Reduces)))] 0)],hne,hg,hg2,hk,by rw [hv]; simp only [pP,cond_true,cond_false,QO]; exact (VLes.cons (VLe.rfl' _) (VLes.cons (VLe.slk g0.1 (ae.of_ok g0)) (VLes.cons (VLe.rfl' _) (VLes.cons (VLe.dptr (be.cons (.refl _) (be.cons (.refl _) (be.cons (.refl _) (be.cons (.refl _) (be.cons (dU.ls g1.1 (ae.of_ok g1)) (be.cons (dU.ls g2.1 (ae.of_ok g2)) (be.cons (dU.ls g3.1 (ae.of_ok g3)) (be.cons (dU.ls g4.1 (ae.of_ok g4)) (be.cons (dU.ls g5.1 (ae.of_ok g5)) be.nil)))))))))) VLes.nil)))),rfl,au.ent (du.of (bQ.cons rfl (VLe.rfl' _) (bQ.cons rfl (VLe.rfl' _) (bQ.cons rfl (VLe.rfl' _) (bQ.cons rfl (VLe.rfl' _) (bQ.cons rfl (VLe.rfl' _) bQ.nil))))) (cI.box rfl (VLes.cons (VLe.rown (ae.of_ok (z:=cr) gr).len) VLes.nil) (cI.row rfl (ae.of_ok gr) cI.nil rfl)) rfl) (@SE a1 (lst bD n3 e4) (an.mk a5 (aJ.mk a6 (bs.mk a7 a8) (lst bw n10 eH) (lst bR n13 e14) (lst cG n16 e17) (lst bO n19 e20) (lst bG n22 fK))) (lst iW _ e_) _ (bn.2 ⟨x,hx,⟨XO x hne hg rfl,XO x hne hg rfl⟩⟩))⟩
      · cases h
    · next hg =>
        cases hb:(!(Nat.beq o_ nid)&&Nat.beq k_ 1&&Nat.beq i_ 0&&Nat.beq j_ 0&&dY [o_] H false [false,false,true,false] args) with
        | false=>rw [hb] at h; cases h
        | true =>
          rw [hb] at h
          simp only [Bool.and_eq_true,Nat.beq_eq] at hb
          obtain ⟨⟨⟨⟨hq,rfl⟩,rfl⟩,rfl⟩,hk⟩:=hb
          have hne:o_≠nid:=fun e=>by rw [e,J7] at hq; cases hq
          cases h
          obtain ⟨g0,hp⟩:=co hp
          obtain ⟨g1,hp⟩:=co hp
          obtain ⟨g2,hp⟩:=co hp
          obtain ⟨g3,hp⟩:=co hp
          obtain ⟨g4,hp⟩:=co hp
          obtain ⟨g5,hp⟩:=co hp
          obtain ⟨g,hp⟩:=co hp
          obtain ⟨x,hx⟩:=Option.isSome_iff_exists.1 g
          rw [hx]
          exact .inr ⟨false,[false,false,true,false],o_,[(i64 a1),(dF (lst bD n3 e4)), .ptr 0 1 0 0,(.dptr 9 [(di (an.mk a5 (aJ.mk a6 (bs.mk a7 a8) (lst bw n10 eH) (lst bR n13 e14) (lst cG n16 e17) (lst bO n19 e20) (lst bG n22 fK))).State),(di ((an.mk a5 (aJ.mk a6 (bs.mk a7 a8) (lst bw n10 eH) (lst bR n13 e14) (lst cG n16 e17) (lst bO n19 e20) (lst bG n22 fK))).Version).From),(di (((an.mk a5 (aJ.mk a6 (bs.mk a7 a8) (lst bw n10 eH) (lst bR n13 e14) (lst cG n16 e17) (lst bO n19 e20) (lst bG n22 fK))).Version).Rounding).Mode),(di (((an.mk a5 (aJ.mk a6 (bs.mk a7 a8) (lst bw n10 eH) (lst bR n13 e14) (lst cG n16 e17) (lst bO n19 e20) (lst bG n22 fK))).Version).Rounding).Unit),(.sl 2 (((an.mk a5 (aJ.mk a6 (bs.mk a7 a8) (lst bw n10 eH) (lst bR n13 e14) (lst cG n16 e17) (lst bO n19 e20) (lst bG n22 fK))).Version).Credits).length (gq (((an.mk a5 (aJ.mk a6 (bs.mk a7 a8) (lst bw n10 eH) (lst bR n13 e14) (lst cG n16 e17) (lst bO n19 e20) (lst bG n22 fK))).Version).Credits))),(.sl 3 (((an.mk a5 (aJ.mk a6 (bs.mk a7 a8) (lst bw n10 eH) (lst bR n13 e14) (lst cG n16 e17) (lst bO n19 e20) (lst bG n22 fK))).Version).Series).length (jv (((an.mk a5 (aJ.mk a6 (bs.mk a7 a8) (lst bw n10 eH) (lst bR n13 e14) (lst cG n16 e17) (lst bO n19 e20) (lst bG n22 fK))).Version).Series))),(.sl 7 (((an.mk a5 (aJ.mk a6 (bs.mk a7 a8) (lst bw n10 eH) (lst bR n13 e14) (lst cG n16 e17) (lst bO n19 e20) (lst bG n22 fK))).Version).Lets).length (mE (((an.mk a5 (aJ.mk a6 (bs.mk a7 a8) (lst bw n10 eH) (lst bR n13 e14) (lst cG n16 e17) (lst bO n19 e20) (lst bG n22 fK))).Version).Lets))),(.sl 13 (((an.mk a5 (aJ.mk a6 (bs.mk a7 a8) (lst bw n10 eH) (lst bR n13 e14) (lst cG n16 e17) (lst bO n19 e20) (lst bG n22 fK))).Version).Grants).length (ik (((an.mk a5 (aJ.mk a6 (bs.mk a7 a8) (lst bw n10 eH) (lst bR n13 e14) (lst cG n16 e17) (lst bO n19 e20) (lst bG n22 fK))).Version).Grants))),(.sl 7 (((an.mk a5 (aJ.mk a6 (bs.mk a7 a8) (lst bw n10 eH) (lst bR n13 e14) (lst cG n16 e17) (lst bO n19 e20) (lst bG n22 fK))).Version).Reduces).length (iT (((an.mk a5 (aJ.mk a6 (bs.mk a7 a8) (lst bw n10 eH) (lst bR n13 e14) (lst cG n16 e17) (lst bO n19 e20) (lst bG n22 fK))).Version).Reduces)))] 0)],hg,hk,by rw [hv]; simp only [pP,cond_true,cond_false,QO]; exact (VLes.cons (VLe.rfl' _) (VLes.cons (VLe.slk g0.1 (ae.of_ok g0)) (VLes.cons (VLe.rfl' _) (VLes.cons (VLe.dptr (be.cons (.refl _) (be.cons (.refl _) (be.cons (.refl _) (be.cons (.refl _) (be.cons (dU.ls g1.1 (ae.of_ok g1)) (be.cons (dU.ls g2.1 (ae.of_ok g2)) (be.cons (dU.ls g3.1 (ae.of_ok g3)) (be.cons (dU.ls g4.1 (ae.of_ok g4)) (be.cons (dU.ls g5.1 (ae.of_ok g5)) be.nil)))))))))) VLes.nil)))),rfl,au.ent (du.trans (du.nilbox 0 0 1 76 4 (aV cM cr []) [.c .nil] (Nat.le_of_ble_eq_true rfl) rfl rfl) (du.of (bQ.cons rfl (VLe.rfl' _) (bQ.cons rfl (VLe.rfl' _) (bQ.cons rfl (VLe.rfl' _) (bQ.cons rfl (VLe.rfl' _) (bQ.cons rfl (VLe.rfl' _) bQ.nil))))) (cI.box rfl (VLes.cons (VLe.rown rfl) VLes.nil) (cI.row rfl (ae.ls cM cr []) cI.nil rfl)) rfl)) (@SE a1 (lst bD n3 e4) (an.mk a5 (aJ.mk a6 (bs.mk a7 a8) (lst bw n10 eH) (lst bR n13 e14) (lst cG n16 e17) (lst bO n19 e20) (lst bG n22 fK))) ([]:List aj) _ (bn.2 ⟨x,hx,⟨SO x hne hg rfl,SO x hne hg rfl⟩⟩))⟩
    · cases h
  · cases h
abbrev e25:FE tP:=⟨25, .mut nB,EB⟩
noncomputable def apL:List Code:=aA (ao Tryz.f28)
def CT (x_1:(List ca)):bN:=.own true 81 2 (x_1).length (aV fh mD x_1)
def aqp (x_1:(List ca)):St:=⟨[sv 0 (.row 0 2 0 x_1.length)],[(Ft 0 81 x_1)],1⟩
def ajy:St:=⟨[],[],0⟩
def tj:PT _ (rE aqp) iK:=.lf (some ([(ca.mk 6 2),(ca.mk 9 3),(ca.mk 7 4),(ca.mk 8 5),(ca.mk 10 6),(ca.mk 5 7)]:List ca)) .ret (⟨[sv 0 (.row 0 2 0 6)],[(0,some (.row 81 2 6 (fun i=>(List.take 2 (List.drop (i*2) (fh (ca.mk 6 2)++fh (ca.mk 9 3)++fh (ca.mk 7 4)++fh (ca.mk 8 5)++fh (ca.mk 10 6)++fh (ca.mk 5 7)))))))],1⟩)<|hh fun _=>lg (.of (.q rfl .nil) (.row rfl (ae.lits (el:=(fun i=>(List.take 2 (List.drop (i*2) (fh (ca.mk 6 2)++fh (ca.mk 9 3)++fh (ca.mk 7 4)++fh (ca.mk 8 5)++fh (ca.mk 10 6)++fh (ca.mk 5 7)))))) (z:=mD) (l:=([(ca.mk 6 2),(ca.mk 9 3),(ca.mk 7 4),(ca.mk 8 5),(ca.mk 10 6),(ca.mk 5 7)]:List ca)) ⟨.refl _, .refl _, .refl _, .refl _, .refl _, .refl _,trivial⟩) .nil rfl) rfl)
theorem aeg:Ax tP 8 apL 0 iK tj ajy:=.tE mixed [] [0] 3
def ld:Option ((List ca)):=tj.opt
def tQ:bW:=Rn ld ([]:List ca) CT
theorem Ei:bg tP 28 tQ:=PU Tryz.f28 (ao Tryz.f28) [.tmp 0] 8 fun y h=>@aeg _ (bn.2 ⟨y,h,(cx (.row 0 2 0 y.length) (⟨_,_,_,rfl,rfl,rfl,fun _ _=>rfl,fun _ i hi d hd=>P5 _ d hd⟩))⟩)
abbrev e28:FE tP:=⟨28, .pure tQ,Ei⟩
noncomputable def aoB:List Code:=aA (ao Tryz.f57)
def mH (x_1:Bool):bN:=.data (bl x_1)
def ajD (x_1:Bool):St:=⟨[sv 3 (bl x_1)],[],0⟩
theorem aiy (x_1:Bool):ez tP [.tmp 3] (dI (mH x_1)) .ret (ajD x_1) :=
  ez.intro (v:=(bl x_1)) (by kernel_rfl) ((VLe.rfl' _))
def Wu (c:av) (t1:Int):St:=⟨[sv 0 (.ag (cT c)),sv 1 (.dptr 1 [(di t1)] 0)],[],0⟩
def tR (c:av) (t1:Int):PT _ (rE ajD) iK:=.lf (some (c.Kind == t1)) .ret _<|hh fun _=>l0
theorem aeI {c t1}:Ax tP 8 aoB 0 iK (tR c t1) (Wu c t1):=.tE mixed [] [3] 3
def jL (c:av) (t1:Int):Option (Bool):=(tR c t1).opt
theorem ajh (c:av) (t1:Int) (y_:Bool) (h:jL c t1 = some y_):au tP 8 (aA (ao Tryz.f57)) (ez tP [.tmp 3] (dI (mH y_))) (Wu c t1) :=
  @aeI c t1 _ (bn.2 ⟨y_,h,aiy y_⟩)
def oF:bW
  | [(.agg [(.c (.lit (.int .i64 a1))),(.c (.lit (.int .i64 a2)))]),(.dptr 1 [(.lit (.int .i64 a3))] 0)]=>some ([(jL (av.mk a1 a2) a3).isSome = true],(mH ((jL (av.mk a1 a2) a3).getD false)))
  | _=>none
theorem GL:bg tP 57 oF:=by
  refine oL (fn:=Tryz.f57) (c:=ao Tryz.f57) (by kernel_rfl) (by kernel_rfl) (by kernel_rfl) (rs:=[.tmp 3]) (by kernel_rfl) (nt:=8) (by kernel_rfl) fun vs p out h hp=>?_
  unfold oF at h
  split at h
  · next a1 a2 a3 =>
    cases h
    obtain ⟨g,hp⟩:=co hp
    obtain ⟨x,hx⟩:=Option.isSome_iff_exists.1 g
    rw [hx]
    exact ⟨[(.agg [(i64 (av.mk a1 a2).Kind),(i64 (av.mk a1 a2).Limit)]),(.dptr 1 [(di a3)] 0)],(VLes.cons (VLe.rfl' _) (VLes.cons (VLe.rfl' _) VLes.nil)),rfl,ajh (av.mk a1 a2) a3 x hx⟩
  · cases h
abbrev e57:FE tP:=⟨57, .pure oF,GL⟩
noncomputable def vN:List Code:=aA (ao Tryz.f56)
noncomputable def abb:List Code:=aA (ah (ah (aP vN 2)))
def dh (x_1:Int):bN:=.data (i64 x_1)
def ML (x_1:Int):St:=⟨[sv 4 (i64 x_1)],[],0⟩
theorem ajd (x_1:Int):ez tP [.tmp 4] (dI (dh x_1)) .ret (ML x_1) :=
  ez.intro (v:=(i64 x_1)) (by kernel_rfl) ((VLe.rfl' _))
def Cn (s_1:(List av)) (f:Int) (s:(Int)):St:=match s with | t8=>⟨[sv 0 (oz s_1),sv 1 (.fn 57 [(.dptr 1 [(di f)] 0)]),sv 7 (i64 (s_1.length:Int)),sv 8 (i64 t8)],[],0⟩
def af0 (s_1:(List av)) (f:Int) (s:Int):St:=match s with | t4_1=>⟨[sv 4 (i64 t4_1)],[],0⟩
def ad1 (s_1:(List av)) (f:Int) (s:Unit):St:=match s with | ()=>⟨[],[],0⟩
def Dt (s_1:(List av)) (f:Int) (r:((Int) ⊕ (Unit))) (K:KT):Prop:=match r with | (.inl s)=>K .ret (af0 s_1 f s) | (.inr s)=>K (.exit 0) (ad1 s_1 f s)
def anq (s_1:(List av)) (f t8:Int):St:=Cn s_1 f t8
def bT (s_1:(List av)) (f t8:Int):PT _ (nE (Cn s_1 f) (Dt s_1 f)) iK:=.bf (decide (t8 < (s_1.length:Int))) (.g2 (0≤t8) (t8 < (s_1.length:Int))<|.bd (jL (s_1.getD (Int.toNat t8) cU) f) false fun r_2=>.bf r_2 (.lf (some (Sum.inr (Sum.inl t8))) .ret _<|hh fun _=>lx [4] [] [sv 0 (oz s_1),sv 1 (.fn 57 [(.dptr 1 [(di f)] 0)]),sv 7 (i64 (s_1.length:Int)),sv 8 (i64 t8)]) (.lf (some (Sum.inl (ai (t8+1)))) .normal _<|hh fun _=>l0)) (.lf (some (Sum.inr (Sum.inr ()))) (.exit 0) (Cn s_1 f t8)<|hh fun _=>lg (.cn []))
theorem abS {s_1 f t8}:Ax tP 19 abb 0 iK (bT s_1 f t8) (anq s_1 f t8):=.tE mixed [e57] [0,1,4,7,8] 4
def bt (s_1:(List av)) (f:Int) (s:(Int)):Option ((Int) ⊕ ((Int) ⊕ (Unit))):=match s with | t8=>(bT s_1 f t8).opt
theorem agJ (s_1 f s):Pp tP 19 (List.drop 0 abb) (Cn s_1 f s) (bt s_1 f s) (cd (Cn s_1 f) (Dt s_1 f)):=fun K h=>match s,h with | t8,h=>(abS h)
theorem UO (s_1 f):∀ r J K,Dt s_1 f r K→Dt s_1 f r (aE J K)
  | (.inl s),_,_,h=>h
  | (.inr s),_,_,h=>h
def WI:St:=⟨[],[],0⟩
def es:PT _ (rE ML) iK:=.lf (some (-1)) .ret _<|hh fun _=>l0
theorem abn:Ax tP 19 vN 3 iK es WI:=.tE mixed [] [4] 2
def ani (s_1:(List av)) (f:Int):St:=⟨[sv 0 (oz s_1),sv 1 (.fn 57 [(.dptr 1 [(di f)] 0)]),sv 7 (i64 (s_1.length:Int)),sv 8 (i64 0)],[],0⟩
abbrev dX (s_1:(List av)) (f:Int) (r:((Int) ⊕ (Unit))):Option (Int):=match r with | (.inl t4_1)=>(some t4_1) | (.inr ())=>es.opt
def et (s_1:(List av)) (f:Int):Option (Int):=(fixL (bt s_1 f) 0).bind (dX s_1 f)
theorem aeZ:List.drop 2 vN = .block 0 (.loop (ah (ah (aP vN 2)))) :: List.drop 3 vN:=by kernel_rfl
theorem ai8 (s_1 f K):∀ r,W (dX s_1 f r) (rE ML K)→Dt s_1 f r (wK (aZ 0 (aE (au tP 19 (List.drop 3 vN) K) K)))
  | (.inl t4_1),h=>⟨(ML t4_1),(.refl _),h⟩
  | (.inr ()),h=>⟨(WI),(.refl _),(abn h)⟩
theorem ahQ {s_1 f K} (h:W (et s_1 f) (rE ML K)):au tP 19 (List.drop 2 vN) K (ani s_1 f) :=
  au.at_ aeZ (au.cons_loop (aC.weak (aC.ent (.refl _) (aC.loopF (x:=ah (ah (aP vN 2))) (f:=bt s_1 f) (emb:=Cn s_1 f) (E:=Dt s_1 f) (agJ s_1 f) (UO s_1 f) (bM h (ai8 s_1 f K))))))
def Xw (s_1:(List av)) (f:Int):St:=⟨[sv 0 (oz s_1),sv 1 (.fn 57 [(.dptr 1 [(di f)] 0)])],[],0⟩
def eu (s_1:(List av)) (f:Int):PT _ (rE ML) (dK tP 19 vN 2 iK):=.lf (et s_1 f) .normal _<|hh fun _ h=>l0 (ahQ h)
theorem abt {s_1 f}:Ax tP 19 vN 0 iK (eu s_1 f) (Xw s_1 f):=.tD mixed [] [0,1,7,8] 2
def bY (s_1:(List av)) (f:Int):Option (Int):=(eu s_1 f).opt
theorem amC (s_1:(List av)) (f:Int) (y_:Int) (h:bY s_1 f = some y_):au tP 19 (aA (ao Tryz.f56)) (ez tP [.tmp 4] (dI (dh y_))) (Xw s_1 f) :=
  @abt s_1 f _ (bn.2 ⟨y_,h,ajd y_⟩)
def dt:bW
  | [(.c (.sl k1 n2 e3)),(.fn 57 [(.dptr 1 [(.lit (.int .i64 a4))] 0)])]=>some ([aK cT bw 2 k1 n2 e3,(bY (lst bw n2 e3) a4).isSome = true],(dh ((bY (lst bw n2 e3) a4).getD (0:Int))))
  | _=>none
theorem jp:bg tP 56 dt:=by
  refine oL (fn:=Tryz.f56) (c:=ao Tryz.f56) (by kernel_rfl) (by kernel_rfl) (by kernel_rfl) (rs:=[.tmp 4]) (by kernel_rfl) (nt:=19) (by kernel_rfl) fun vs p out h hp=>?_
  unfold dt at h
  split at h
  · next k1 n2 e3 a4 =>
    cases h
    obtain ⟨g0,hp⟩:=co hp
    obtain ⟨g,hp⟩:=co hp
    obtain ⟨x,hx⟩:=Option.isSome_iff_exists.1 g
    rw [hx]
    exact ⟨[(oz (lst bw n2 e3)),(.fn 57 [(.dptr 1 [(di a4)] 0)])],(VLes.cons (VLe.slk g0.1 (ae.of_ok g0)) (VLes.cons (VLe.rfl' _) VLes.nil)),rfl,amC (lst bw n2 e3) a4 x hx⟩
  · cases h
abbrev e56:FE tP:=⟨56, .pure dt,jp⟩
noncomputable def apF:List Code:=aA (ao Tryz.f29)
def HU (x_1:(Int × Bool)):bN:=.data (.tup [(i64 x_1.1),(bl x_1.2)])
def aqc (x_1:(Int × Bool)):St:=⟨[sv 4 (i64 x_1.1),sv 5 (bl x_1.2)],[],0⟩
def an5 (v:aJ) (kind:Int):St:=⟨[sv 0 (.ag (rC v)),sv 1 (i64 kind)],[],0⟩
def kY (v:aJ) (kind:Int):PT _ (rE aqc) iK:=.lk zx v.Credits fun L1_=>.bd (bY L1_ kind) 0 fun r_2=>.bf (decide (r_2 < 0)) (.lf (some (0,false)) .ret _<|hh fun _=>l0) (.g2 (0≤r_2) (r_2 < (v.Credits.length:Int))<|.lf (some ((v.Credits.getD (Int.toNat r_2) cU).Limit,true)) .ret _<|hh fun _=>l0)
theorem adc {v kind}:Ax tP 19 apF 0 iK (kY v kind) (an5 v kind):=.tE mixed [e56] [4,5] 6
def uq (v:aJ) (kind:Int):Option ((Int × Bool)):=(kY v kind).opt
def yr:bW:=fj N6 (aI .i64) uq ((0:Int),false) HU
theorem IX:bg tP 29 yr:=dv Tryz.f29 (ao Tryz.f29) [.tmp 4, .tmp 5] 19 fun u0 u1 y h=>@adc u0 u1 _ (bn.2 ⟨y,h,(cx (.tup [(i64 y.1),(bl y.2)]) (VLe.tup (VLes.cons (VLe.rfl' _) (VLes.cons (VLe.rfl' _) (VLes.nil)))))⟩)
abbrev e29:FE tP:=⟨29, .pure yr,IX⟩
noncomputable def Ri:List Code:=aA (ao Tryz.f100)
def OB (x_1:ByteArray):bN:=.data (bc x_1)
def abc (x_1:ByteArray):St:=⟨[sv 2 (bc x_1)],[],0⟩
def ae4:St:=⟨[],[],0⟩
def cg:PT _ (rE abc) iK:=.lf (some (am [])) .ret _<|hh fun _=>l0
theorem dp:Ax tP 26 Ri 3 iK cg ae4:=.tE mixed [] [2] 2
def acW (kind:Int):St:=⟨[sv 0 (i64 kind)],[],0⟩
def sm (kind:Int):PT _ (rE abc) (dK tP 26 Ri 3 iK):=.bf (kind == 1) (.lf (some (am [83,80,84,72,67,65])) .ret _<|hh fun _=>l0) (.bf (kind == 2) (.bf (kind == 2) (.lf (some (am [83,80,72,67,65])) .ret _<|hh fun _=>l0) (.bf (kind == 4) (.lf (some (am [83,80,84])) .ret _<|hh fun _=>l0) (.bf (kind == 5) (.bf (kind == 5) (.lf (some (am [83,80])) .ret _<|hh fun _=>l0) (.bf (kind == 6) (.lf (some (am [83,80,67,65])) .ret _<|hh fun _=>l0) (.bf (kind == 10) (.lf (some (am [83,80,82])) .ret _<|hh fun _=>l0) (.bf (kind == 11) (.bf (kind == 11) (.lf (some (am [80])) .ret _<|hh fun _=>l0) (.bf (kind == 14) (.lf (some (am [80,82])) .ret _<|hh fun _=>l0) (.lf cg.opt .normal _<|hh fun _ h=>lz (dp h) [] [] [sv 2 (bc (am []))]))) (.bf (kind == 12) (.bf (kind == 12) (.lf (some (am [80])) .ret _<|hh fun _=>l0) (.bf (kind == 14) (.lf (some (am [80,82])) .ret _<|hh fun _=>l0) (.lf cg.opt .normal _<|hh fun _ h=>lz (dp h) [] [] [sv 2 (bc (am []))]))) (.bf (kind == 13) (.lf (some (am [80])) .ret _<|hh fun _=>l0) (.bf (kind == 14) (.lf (some (am [80,82])) .ret _<|hh fun _=>l0) (.lf cg.opt .normal _<|hh fun _ h=>lz (dp h) [] [] [sv 2 (bc (am []))])))))))) (.bf (kind == 7) (.bf (kind == 7) (.lf (some (am [83,80])) .ret _<|hh fun _=>l0) (.bf (kind == 6) (.lf (some (am [83,80,67,65])) .ret _<|hh fun _=>l0) (.bf (kind == 10) (.lf (some (am [83,80,82])) .ret _<|hh fun _=>l0) (.bf (kind == 11) (.bf (kind == 11) (.lf (some (am [80])) .ret _<|hh fun _=>l0) (.bf (kind == 14) (.lf (some (am [80,82])) .ret _<|hh fun _=>l0) (.lf cg.opt .normal _<|hh fun _ h=>lz (dp h) [] [] [sv 2 (bc (am []))]))) (.bf (kind == 12) (.bf (kind == 12) (.lf (some (am [80])) .ret _<|hh fun _=>l0) (.bf (kind == 14) (.lf (some (am [80,82])) .ret _<|hh fun _=>l0) (.lf cg.opt .normal _<|hh fun _ h=>lz (dp h) [] [] [sv 2 (bc (am []))]))) (.bf (kind == 13) (.lf (some (am [80])) .ret _<|hh fun _=>l0) (.bf (kind == 14) (.lf (some (am [80,82])) .ret _<|hh fun _=>l0) (.lf cg.opt .normal _<|hh fun _ h=>lz (dp h) [] [] [sv 2 (bc (am []))])))))))) (.bf (kind == 8) (.bf (kind == 8) (.lf (some (am [83,80])) .ret _<|hh fun _=>l0) (.bf (kind == 6) (.lf (some (am [83,80,67,65])) .ret _<|hh fun _=>l0) (.bf (kind == 10) (.lf (some (am [83,80,82])) .ret _<|hh fun _=>l0) (.bf (kind == 11) (.bf (kind == 11) (.lf (some (am [80])) .ret _<|hh fun _=>l0) (.bf (kind == 14) (.lf (some (am [80,82])) .ret _<|hh fun _=>l0) (.lf cg.opt .normal _<|hh fun _ h=>lz (dp h) [] [] [sv 2 (bc (am []))]))) (.bf (kind == 12) (.bf (kind == 12) (.lf (some (am [80])) .ret _<|hh fun _=>l0) (.bf (kind == 14) (.lf (some (am [80,82])) .ret _<|hh fun _=>l0) (.lf cg.opt .normal _<|hh fun _ h=>lz (dp h) [] [] [sv 2 (bc (am []))]))) (.bf (kind == 13) (.lf (some (am [80])) .ret _<|hh fun _=>l0) (.bf (kind == 14) (.lf (some (am [80,82])) .ret _<|hh fun _=>l0) (.lf cg.opt .normal _<|hh fun _ h=>lz (dp h) [] [] [sv 2 (bc (am []))])))))))) (.bf (kind == 9) (.lf (some (am [83,80])) .ret _<|hh fun _=>l0) (.bf (kind == 6) (.lf (some (am [83,80,67,65])) .ret _<|hh fun _=>l0) (.bf (kind == 10) (.lf (some (am [83,80,82])) .ret _<|hh fun _=>l0) (.bf (kind == 11) (.bf (kind == 11) (.lf (some (am [80])) .ret _<|hh fun _=>l0) (.bf (kind == 14) (.lf (some (am [80,82])) .ret _<|hh fun _=>l0) (.lf cg.opt .normal _<|hh fun _ h=>lz (dp h) [] [] [sv 2 (bc (am []))]))) (.bf (kind == 12) (.bf (kind == 12) (.lf (some (am [80])) .ret _<|hh fun _=>l0) (.bf (kind == 14) (.lf (some (am [80,82])) .ret _<|hh fun _=>l0) (.lf cg.opt .normal _<|hh fun _ h=>lz (dp h) [] [] [sv 2 (bc (am []))]))) (.bf (kind == 13) (.lf (some (am [80])) .ret _<|hh fun _=>l0) (.bf (kind == 14) (.lf (some (am [80,82])) .ret _<|hh fun _=>l0) (.lf cg.opt .normal _<|hh fun _ h=>lz (dp h) [] [] [sv 2 (bc (am []))]))))))))))))) (.bf (kind == 3) (.lf (some (am [83,80,72,67,65])) .ret _<|hh fun _=>l0) (.bf (kind == 4) (.lf (some (am [83,80,84])) .ret _<|hh fun _=>l0) (.bf (kind == 5) (.bf (kind == 5) (.lf (some (am [83,80])) .ret _<|hh fun _=>l0) (.bf (kind == 6) (.lf (some (am [83,80,67,65])) .ret _<|hh fun _=>l0) (.bf (kind == 10) (.lf (some (am [83,80,82])) .ret _<|hh fun _=>l0) (.bf (kind == 11) (.bf (kind == 11) (.lf (some (am [80])) .ret _<|hh fun _=>l0) (.bf (kind == 14) (.lf (some (am [80,82])) .ret _<|hh fun _=>l0) (.lf cg.opt .normal _<|hh fun _ h=>lz (dp h) [] [] [sv 2 (bc (am []))]))) (.bf (kind == 12) (.bf (kind == 12) (.lf (some (am [80])) .ret _<|hh fun _=>l0) (.bf (kind == 14) (.lf (some (am [80,82])) .ret _<|hh fun _=>l0) (.lf cg.opt .normal _<|hh fun _ h=>lz (dp h) [] [] [sv 2 (bc (am []))]))) (.bf (kind == 13) (.lf (some (am [80])) .ret _<|hh fun _=>l0) (.bf (kind == 14) (.lf (some (am [80,82])) .ret _<|hh fun _=>l0) (.lf cg.opt .normal _<|hh fun _ h=>lz (dp h) [] [] [sv 2 (bc (am []))])))))))) (.bf (kind == 7) (.bf (kind == 7) (.lf (some (am [83,80])) .ret _<|hh fun _=>l0) (.bf (kind == 6) (.lf (some (am [83,80,67,65])) .ret _<|hh fun _=>l0) (.bf (kind == 10) (.lf (some (am [83,80,82])) .ret _<|hh fun _=>l0) (.bf (kind == 11) (.bf (kind == 11) (.lf (some (am [80])) .ret _<|hh fun _=>l0) (.bf (kind == 14) (.lf (some (am [80,82])) .ret _<|hh fun _=>l0) (.lf cg.opt .normal _<|hh fun _ h=>lz (dp h) [] [] [sv 2 (bc (am []))]))) (.bf (kind == 12) (.bf (kind == 12) (.lf (some (am [80])) .ret _<|hh fun _=>l0) (.bf (kind == 14) (.lf (some (am [80,82])) .ret _<|hh fun _=>l0) (.lf cg.opt .normal _<|hh fun _ h=>lz (dp h) [] [] [sv 2 (bc (am []))]))) (.bf (kind == 13) (.lf (some (am [80])) .ret _<|hh fun _=>l0) (.bf (kind == 14) (.lf (some (am [80,82])) .ret _<|hh fun _=>l0) (.lf cg.opt .normal _<|hh fun _ h=>lz (dp h) [] [] [sv 2 (bc (am []))])))))))) (.bf (kind == 8) (.bf (kind == 8) (.lf (some (am [83,80])) .ret _<|hh fun _=>l0) (.bf (kind == 6) (.lf (some (am [83,80,67,65])) .ret _<|hh fun _=>l0) (.bf (kind == 10) (.lf (some (am [83,80,82])) .ret _<|hh fun _=>l0) (.bf (kind == 11) (.bf (kind == 11) (.lf (some (am [80])) .ret _<|hh fun _=>l0) (.bf (kind == 14) (.lf (some (am [80,82])) .ret _<|hh fun _=>l0) (.lf cg.opt .normal _<|hh fun _ h=>lz (dp h) [] [] [sv 2 (bc (am []))]))) (.bf (kind == 12) (.bf (kind == 12) (.lf (some (am [80])) .ret _<|hh fun _=>l0) (.bf (kind == 14) (.lf (some (am [80,82])) .ret _<|hh fun _=>l0) (.lf cg.opt .normal _<|hh fun _ h=>lz (dp h) [] [] [sv 2 (bc (am []))]))) (.bf (kind == 13) (.lf (some (am [80])) .ret _<|hh fun _=>l0) (.bf (kind == 14) (.lf (some (am [80,82])) .ret _<|hh fun _=>l0) (.lf cg.opt .normal _<|hh fun _ h=>lz (dp h) [] [] [sv 2 (bc (am []))])))))))) (.bf (kind == 9) (.lf (some (am [83,80])) .ret _<|hh fun _=>l0) (.bf (kind == 6) (.lf (some (am [83,80,67,65])) .ret _<|hh fun _=>l0) (.bf (kind == 10) (.lf (some (am [83,80,82])) .ret _<|hh fun _=>l0) (.bf (kind == 11) (.bf (kind == 11) (.lf (some (am [80])) .ret _<|hh fun _=>l0) (.bf (kind == 14) (.lf (some (am [80,82])) .ret _<|hh fun _=>l0) (.lf cg.opt .normal _<|hh fun _ h=>lz (dp h) [] [] [sv 2 (bc (am []))]))) (.bf (kind == 12) (.bf (kind == 12) (.lf (some (am [80])) .ret _<|hh fun _=>l0) (.bf (kind == 14) (.lf (some (am [80,82])) .ret _<|hh fun _=>l0) (.lf cg.opt .normal _<|hh fun _ h=>lz (dp h) [] [] [sv 2 (bc (am []))]))) (.bf (kind == 13) (.lf (some (am [80])) .ret _<|hh fun _=>l0) (.bf (kind == 14) (.lf (some (am [80,82])) .ret _<|hh fun _=>l0) (.lf cg.opt .normal _<|hh fun _ h=>lz (dp h) [] [] [sv 2 (bc (am []))]))))))))))))))
theorem ZG {kind}:Ax tP 26 Ri 0 iK (sm kind) (acW kind):=.tD mixed [] [2] 3
def Id (kind:Int):Option (ByteArray):=(sm kind).opt
def Jv:bW:=dH (aI .i64) Id (am []) OB
theorem Qh:bg tP 100 Jv:=cJ Tryz.f100 (ao Tryz.f100) [.tmp 2] 26 fun u0 y h=>@ZG u0 _ (bn.2 ⟨y,h,(cx (bc y) (VLe.rfl' _))⟩)
abbrev aqN:FE tP:=⟨100, .pure Jv,Qh⟩
noncomputable def al3:List Code:=aA (ao Tryz.f103)
def Lm (x_2:Bool):bN:=.data (bl x_2)
def aoM (x_2:Bool):St:=⟨[sv 6 (bl x_2)],[],0⟩
def afl (x_1 low high:Int):St:=⟨[sv 0 (i64 x_1),sv 1 (i64 low),sv 2 (i64 high)],[],0⟩
def oY (x_1 low high:Int):PT _ (rE aoM) iK:=.lf (some (bif (decide (low≤x_1)) then (decide (x_1≤high)) else false)) .ret _<|hh fun _=>l0
theorem ZW {x_1 low high}:Ax tP 15 al3 0 iK (oY x_1 low high) (afl x_1 low high):=.tE mixed [] [6] 3
def df (x_1 low high:Int):Option (Bool):=(oY x_1 low high).opt
def FR:bW:=yE (aI .i64) (aI .i64) (aI .i64) df false Lm
theorem M6:bg tP 103 FR:=ta Tryz.f103 (ao Tryz.f103) [.tmp 6] 15 fun u0 u1 u2 y h=>@ZW u0 u1 u2 _ (bn.2 ⟨y,h,(cx (bl y) (VLe.rfl' _))⟩)
abbrev alE:FE tP:=⟨103, .pure FR,M6⟩
def gQ (s:ByteArray) (c:Int):Option Int:=some (firstIdx s c.toNat.toUInt8)
def jd:bW
  | [.c (.lit (.string s)), .c (.lit (.int .u8 c))]=>some ([(gQ s c).isSome = true], .data (i64 ((gQ s c).getD (0:Int))))
  | _=>none
theorem w5:bg tP 152 jd:=by
  intro ok w xs vs p out hx hok hcon hp
  unfold jd at hcon
  split at hcon
  · next s c =>
    cases hcon
    obtain ⟨x,y,rfl⟩:∃ x y,xs = [x,y]:=by
      have:=hx.1
      match xs,this with
      | [x,y],_=>exact ⟨x,y,rfl⟩
    have e1:=(hx.2 0 x _ rfl rfl).lit_inv
    have e2:=(hx.2 1 y _ rfl rfl).lit_inv
    subst e1 e2
    refine .inr ⟨.int .i64 (firstIdx s c.toNat.toUInt8),w, ?_, .refl _ _, .lit _⟩
    rw [run_callFunc_extern (fn:=Tryz.f152) (e:=Extern.BytealgIndexByte.indexByte) (by kernel_rfl) (by kernel_rfl) (by kernel_rfl) (by kernel_rfl) (by kernel_rfl)]
    have:=run_indexByte_string (P:=tP) s c w
    rw [show [Value.string s,Value.int .u8 c].toArray = #[Value.string s,Value.int .u8 c] from rfl,this]
    rfl
  · cases hcon
abbrev aq9:FE tP:=⟨152, .pure jd,w5⟩
noncomputable def aog:List Code:=aA (ao Tryz.f148)
def pK (x_1:Int):bN:=.data (i64 x_1)
def ao6 (x_1:Int):St:=⟨[sv 4 (i64 x_1)],[],0⟩
def ag0 (s_1:ByteArray) (c:Int):St:=⟨[sv 0 (bc s_1),sv 1 (.c (.lit (.int .u8 c)))],[],0⟩
def fE (s_1:ByteArray) (c:Int):PT _ (rE ao6) iK:=.bd (gQ s_1 c) 0 fun r_2=>.lf (some r_2) .ret _<|hh fun _=>l0
theorem YX {s_1 c}:Ax tP 8 aog 0 iK (fE s_1 c) (ag0 s_1 c):=.tE mixed [aq9] [4] 3
def gz (s_1:ByteArray) (c:Int):Option (Int):=(fE s_1 c).opt
def jH:bW:=fj aS (aI .u8) gz (0:Int) pK
theorem p9:bg tP 148 jH:=dv Tryz.f148 (ao Tryz.f148) [.tmp 4] 8 fun u0 u1 y h=>@YX u0 u1 _ (bn.2 ⟨y,h,(cx (i64 y) (VLe.rfl' _))⟩)
abbrev aq5:FE tP:=⟨148, .pure jH,p9⟩
noncomputable def VK:List Code:=aA (ao Tryz.f143)
def tq (x_1:Int):bN:=.data (i64 x_1)
def ao3 (x_1:Int):St:=⟨[sv 4 (i64 x_1)],[],0⟩
def agh (s_1 substr:ByteArray):St:=⟨[sv 0 (bc s_1),sv 1 (bc substr)],[],0⟩
def gI (s_1 substr:ByteArray):PT _ (rE ao3) (dK tP 143 VK 3 iK):=.bf (bif ((substr.size:Int) == 0) then true else (substr.toList == s_1.toList)) (.lf (some 0) .ret _<|hh fun _=>lx [4] [] [sv 0 (bc s_1),sv 1 (bc substr),sv 5 (i64 (substr.size:Int))]) (.bf ((substr.size:Int) == 1) (.g2 (0≤(0:Int)) ((0:Int) < (substr.size:Int))<|.bd (gz s_1 ((substr.data.getD 0 0).toNat:Int)) 0 fun r_2=>.lf (some r_2) .ret _<|hh fun _=>lx [4] [] [sv 0 (bc s_1),sv 1 (bc substr),sv 5 (i64 (substr.size:Int))]) (.bf (decide ((s_1.size:Int)≤(substr.size:Int))) (.lf (some (-1)) .ret _<|hh fun _=>lx [4] [] [sv 0 (bc s_1),sv 1 (bc substr),sv 5 (i64 (substr.size:Int))]) (.no)))
theorem ZQ {s_1 substr}:Ax tP 143 VK 0 iK (gI s_1 substr) (agh s_1 substr):=.tD mixed [aq5] [0,1,4,5,85,86,87,88,89,90,91,92,103,104,105,106,122,123,124,125,126,129,130,131] 3
def iV (s_1 substr:ByteArray):Option (Int):=(gI s_1 substr).opt
def lT:bW:=fj aS aS iV (0:Int) tq
theorem tu:bg tP 143 lT:=dv Tryz.f143 (ao Tryz.f143) [.tmp 4] 143 fun u0 u1 y h=>@ZQ u0 u1 _ (bn.2 ⟨y,h,(cx (i64 y) (VLe.rfl' _))⟩)
abbrev aqT:FE tP:=⟨143, .pure lT,tu⟩
noncomputable def anN:List Code:=aA (ao Tryz.f132)
def IT (x_1:Int):bN:=.data (i64 x_1)
def apM (x_1:Int):St:=⟨[sv 4 (i64 x_1)],[],0⟩
def afq (s_1 substr:ByteArray):St:=⟨[sv 0 (bc s_1),sv 1 (bc substr)],[],0⟩
def qQ (s_1 substr:ByteArray):PT _ (rE apM) iK:=.bd (iV s_1 substr) 0 fun r_2=>.lf (some r_2) .ret _<|hh fun _=>l0
theorem Zt {s_1 substr}:Ax tP 8 anN 0 iK (qQ s_1 substr) (afq s_1 substr):=.tE mixed [aqT] [4] 3
def wW (s_1 substr:ByteArray):Option (Int):=(qQ s_1 substr).opt
def Al:bW:=fj aS aS wW (0:Int) IT
theorem J8:bg tP 132 Al:=dv Tryz.f132 (ao Tryz.f132) [.tmp 4] 8 fun u0 u1 y h=>@Zt u0 u1 _ (bn.2 ⟨y,h,(cx (i64 y) (VLe.rfl' _))⟩)
abbrev arf:FE tP:=⟨132, .pure Al,J8⟩
noncomputable def alT:List Code:=aA (ao Tryz.f102)
def Ep (x_1:Bool):bN:=.data (bl x_1)
def apP (x_1:Bool):St:=⟨[sv 4 (bl x_1)],[],0⟩
def aeT (s_1 substr:ByteArray):St:=⟨[sv 0 (bc s_1),sv 1 (bc substr)],[],0⟩
def ny (s_1 substr:ByteArray):PT _ (rE apP) iK:=.bd (wW s_1 substr) 0 fun r_2=>.lf (some (decide (0≤r_2))) .ret _<|hh fun _=>l0
theorem Yd {s_1 substr}:Ax tP 9 alT 0 iK (ny s_1 substr) (aeT s_1 substr):=.tE mixed [arf] [4] 3
def rb (s_1 substr:ByteArray):Option (Bool):=(ny s_1 substr).opt
def wu:bW:=fj aS aS rb false Ep
theorem GK:bg tP 102 wu:=dv Tryz.f102 (ao Tryz.f102) [.tmp 4] 9 fun u0 u1 y h=>@Yd u0 u1 _ (bn.2 ⟨y,h,(cx (bl y) (VLe.rfl' _))⟩)
abbrev aqD:FE tP:=⟨102, .pure wu,GK⟩
noncomputable def ajb:List Code:=aA (ao Tryz.f101)
def qZ (x_1:Bool):bN:=.data (bl x_1)
def aa2 (x_1:Bool):St:=⟨[sv 3 (bl x_1)],[],0⟩
theorem agP (x_1:Bool):ez tP [.tmp 3] (dI (qZ x_1)) .ret (aa2 x_1) :=
  ez.intro (v:=(bl x_1)) (by kernel_rfl) ((VLe.rfl' _))
def SQ (letter t1:ByteArray):St:=⟨[sv 0 (bc letter),sv 1 (.dptr 1 [(ds t1)] 0)],[],0⟩
def nI (letter t1:ByteArray):PT _ (rE aa2) iK:=.bd (rb t1 letter) false fun r_2=>.lf (some r_2) .ret _<|hh fun _=>l0
theorem Yg {letter t1}:Ax tP 7 ajb 0 iK (nI letter t1) (SQ letter t1):=.tE mixed [aqD] [3] 3
def ck (letter t1:ByteArray):Option (Bool):=(nI letter t1).opt
theorem afD (letter t1:ByteArray) (y_:Bool) (h:ck letter t1 = some y_):au tP 7 (aA (ao Tryz.f101)) (ez tP [.tmp 3] (dI (qZ y_))) (SQ letter t1) :=
  @Yg letter t1 _ (bn.2 ⟨y_,h,agP y_⟩)
def uJ:bW
  | [(.c (.lit (.string a1))),(.dptr 1 [(.lit (.string a2))] 0)]=>some ([(ck a1 a2).isSome = true],(qZ ((ck a1 a2).getD false)))
  | _=>none
theorem Mo:bg tP 101 uJ:=by
  refine oL (fn:=Tryz.f101) (c:=ao Tryz.f101) (by kernel_rfl) (by kernel_rfl) (by kernel_rfl) (rs:=[.tmp 3]) (by kernel_rfl) (nt:=7) (by kernel_rfl) fun vs p out h hp=>?_
  unfold uJ at h
  split at h
  · next a1 a2 =>
    cases h
    obtain ⟨g,hp⟩:=co hp
    obtain ⟨x,hx⟩:=Option.isSome_iff_exists.1 g
    rw [hx]
    exact ⟨[(bc a1),(.dptr 1 [(ds a2)] 0)],(VLes.cons (VLe.rfl' _) (VLes.cons (VLe.rfl' _) VLes.nil)),rfl,afD a1 a2 x hx⟩
  · cases h
abbrev aqY:FE tP:=⟨101, .pure uJ,Mo⟩
noncomputable def ajq:List Code:=aA (ao Tryz.f104)
def Nl (x_2:Bool):bN:=.data (bl x_2)
def aoI (x_2:Bool):St:=⟨[sv 8 (bl x_2)],[],0⟩
def adQ (used:Bool) (x_1 low high:Int):St:=⟨[sv 0 (bl used),sv 1 (i64 x_1),sv 2 (i64 low),sv 3 (i64 high)],[],0⟩
def qG (used:Bool) (x_1 low high:Int):PT _ (rE aoI) iK:=.g1 ((used&&true) = true→(df x_1 low high).isSome = true)<|.lf (some (bif (bif used then ((df x_1 low high).getD false) else false) then true else (bif (!used) then (x_1 == 0) else false))) .ret _<|hh fun _=>l0
theorem Y6 {used x_1 low high}:Ax tP 24 ajq 0 iK (qG used x_1 low high) (adQ used x_1 low high):=.tE mixed [alE] [8] 3
def dn (used:Bool) (x_1 low high:Int):Option (Bool):=(qG used x_1 low high).opt
def Hc:bW:=JZ aB (aI .i64) (aI .i64) (aI .i64) dn false Nl
theorem OW:bg tP 104 Hc:=GR Tryz.f104 (ao Tryz.f104) [.tmp 8] 24 fun u0 u1 u2 u3 y h=>@Y6 u0 u1 u2 u3 _ (bn.2 ⟨y,h,(cx (bl y) (VLe.rfl' _))⟩)
abbrev aqo:FE tP:=⟨104, .pure Hc,OW⟩
noncomputable def amG:List Code:=aA (ao Tryz.f105)
def Hy (x_1:Bool):bN:=.data (bl x_1)
def ao1 (x_1:Bool):St:=⟨[sv 2 (bl x_1)],[],0⟩
def ah6 (s_1:ab):St:=⟨[sv 0 (.ag (aN s_1))],[],0⟩
def kW (s_1:ab):PT _ (rE ao1) iK:=.lf (some (bif (bif (decide (0≤s_1.From)) then (decide (s_1.From < s_1.To)) else false) then (decide (s_1.To≤73049)) else false)) .ret _<|hh fun _=>l0
theorem ZB {s_1}:Ax tP 18 amG 0 iK (kW s_1) (ah6 s_1):=.tE mixed [] [2] 3
def oW (s_1:ab):Option (Bool):=(kW s_1).opt
def zr:bW:=dH zo oW false Hy
theorem IS:bg tP 105 zr:=cJ Tryz.f105 (ao Tryz.f105) [.tmp 2] 18 fun u0 y h=>@ZB u0 _ (bn.2 ⟨y,h,(cx (bl y) (VLe.rfl' _))⟩)
abbrev aqt:FE tP:=⟨105, .pure zr,IS⟩
noncomputable def Ef:List Code:=aA (ao Tryz.f77)
def Nc (x_1:Bool):bN:=.data (bl x_1)
def Uf (x_1:Bool):St:=⟨[sv 2 (bl x_1)],[],0⟩
def amh:St:=⟨[],[],0⟩
def j9:PT _ (rE Uf) iK:=.lf (some true) .ret _<|hh fun _=>l0
theorem Ij:Ax tP 116 Ef 6 iK j9 amh:=.tE mixed [] [2] 2
def alb (f:ac):St:=⟨[sv 1 (.ptr 0 14 0 0),sv 89 (i64 f.Kind)],[(0,some (.bx (aX f)))],1⟩
def qu (f:ac):PT _ (rE Uf) (dK tP 116 Ef 6 iK):=.bf (f.Kind == 4) (.lf (some (f.State != f.Seat)) .ret _<|hh fun _=>l0) (.bf (f.Kind == 11) (.bf (f.Kind == 11) (.lf (some (f.Span.To == (ai (f.Span.From+1)))) .ret _<|hh fun _=>l0) (.bf (f.Kind == 10) (.bf (f.Kind == 10) (.lf (some (f.Ref != f.Person)) .ret _<|hh fun _=>l0) (.lf j9.opt .normal _<|hh fun _ h=>l0 (Ij h))) (.bf (f.Kind == 14) (.lf (some (f.Ref != f.Person)) .ret _<|hh fun _=>l0) (.lf j9.opt .normal _<|hh fun _ h=>l0 (Ij h))))) (.bf (f.Kind == 12) (.lf (some (f.Span.To == (ai (f.Span.From+1)))) .ret _<|hh fun _=>l0) (.bf (f.Kind == 10) (.bf (f.Kind == 10) (.lf (some (f.Ref != f.Person)) .ret _<|hh fun _=>l0) (.lf j9.opt .normal _<|hh fun _ h=>l0 (Ij h))) (.bf (f.Kind == 14) (.lf (some (f.Ref != f.Person)) .ret _<|hh fun _=>l0) (.lf j9.opt .normal _<|hh fun _ h=>l0 (Ij h))))))
theorem afa {f}:Ax tP 116 Ef 5 iK (qu f) (alb f):=.tD mixed [] [2] 1
def alQ (f:ac) (uses:ByteArray):St:=⟨[sv 1 (.ptr 0 14 0 0),sv 3 (.ptr 1 1 0 0),sv 4 (.fn 101 [(.ptr 1 1 0 0)])],[(0,some (.bx (aX f))),(1,some (.box [(bc uses)]))],2⟩
def wZ (f:ac) (uses:ByteArray):PT _ (rE Uf) (dK tP 116 Ef 5 iK):=.g1 (((!(uses.toList == (am []).toList))&&true) = true→(df f.Issuer 0 5).isSome = true)<|.g1 (((!(bif (uses.toList == (am []).toList) then true else (!((df f.Issuer 0 5).getD false))))&&true) = true→(df f.Number 1 999).isSome = true)<|.g1 (((!(bif (bif (uses.toList == (am []).toList) then true else (!((df f.Issuer 0 5).getD false))) then true else (!((df f.Number 1 999).getD false))))&&true) = true→(df f.Version 1 99).isSome = true)<|.g1 (((!(bif (bif (bif (uses.toList == (am []).toList) then true else (!((df f.Issuer 0 5).getD false))) then true else (!((df f.Number 1 999).getD false))) then true else (!((df f.Version 1 99).getD false))))&&true) = true→(df f.Person 1 99).isSome = true)<|.bf (bif (bif (bif (bif (uses.toList == (am []).toList) then true else (!((df f.Issuer 0 5).getD false))) then true else (!((df f.Number 1 999).getD false))) then true else (!((df f.Version 1 99).getD false))) then true else (!((df f.Person 1 99).getD false))) (.lf (some false) .ret (⟨[sv 1 (.ptr 0 14 0 0),sv 2 (bl false)],[(0,some (.bx (aX f)))],1⟩)<|hh fun _=>lg (.cn [2])) (.bd (ck (am [83]) uses) false fun r_6=>.bd (dn r_6 f.State 0 5) false fun r_7=>.g1 (((!(!r_7))&&true) = true→(ck (am [84]) uses).isSome = true)<|.g1 (((!(!r_7))&&true) = true→(dn ((ck (am [84]) uses).getD false) f.Seat 0 5).isSome = true)<|.g1 (((!(bif (!r_7) then true else (!((dn ((ck (am [84]) uses).getD false) f.Seat 0 5).getD false))))&&true) = true→(oW f.Span).isSome = true)<|.bf (bif (bif (!r_7) then true else (!((dn ((ck (am [84]) uses).getD false) f.Seat 0 5).getD false))) then true else (!((oW f.Span).getD false))) (.lf (some false) .ret (⟨[sv 1 (.ptr 0 14 0 0),sv 2 (bl false)],[(0,some (.bx (aX f)))],1⟩)<|hh fun _=>lg (.cn [2])) (.bd (ck (am [72]) uses) false fun r_8=>.bd (dn r_8 f.Share 1 100) false fun r_9=>.g1 (((!(!r_9))&&true) = true→(ck (am [67]) uses).isSome = true)<|.g1 (((!(!r_9))&&true) = true→(dn ((ck (am [67]) uses).getD false) f.Currency 1 999).isSome = true)<|.g1 (((!(bif (!r_9) then true else (!((dn ((ck (am [67]) uses).getD false) f.Currency 1 999).getD false))))&&true) = true→(ck (am [65]) uses).isSome = true)<|.g1 (((!(bif (!r_9) then true else (!((dn ((ck (am [67]) uses).getD false) f.Currency 1 999).getD false))))&&true) = true→(dn ((ck (am [65]) uses).getD false) f.Amount 0 1000000000).isSome = true)<|.g1 (((!(bif (bif (!r_9) then true else (!((dn ((ck (am [67]) uses).getD false) f.Currency 1 999).getD false))) then true else (!((dn ((ck (am [65]) uses).getD false) f.Amount 0 1000000000).getD false))))&&true) = true→(ck (am [82]) uses).isSome = true)<|.g1 (((!(bif (bif (!r_9) then true else (!((dn ((ck (am [67]) uses).getD false) f.Currency 1 999).getD false))) then true else (!((dn ((ck (am [65]) uses).getD false) f.Amount 0 1000000000).getD false))))&&true) = true→(dn ((ck (am [82]) uses).getD false) f.Ref 1 99).isSome = true)<|.bf (bif (bif (bif (!r_9) then true else (!((dn ((ck (am [67]) uses).getD false) f.Currency 1 999).getD false))) then true else (!((dn ((ck (am [65]) uses).getD false) f.Amount 0 1000000000).getD false))) then true else (!((dn ((ck (am [82]) uses).getD false) f.Ref 1 99).getD false))) (.lf (some false) .ret (⟨[sv 1 (.ptr 0 14 0 0),sv 2 (bl false)],[(0,some (.bx (aX f)))],1⟩)<|hh fun _=>lg (.cn [2])) (.lf ((qu f).opt) .normal _<|hh fun _ h=>l0 (afa h))))
theorem abU {f uses}:Ax tP 116 Ef 3 iK (wZ f uses) (alQ f uses):=.tD mixed [aqY,alE,aqo,aqt] [1,2,89] 2
def alR (f:ac):St:=⟨[sv 0 (.ag (aX f))],[],0⟩
def qA (f:ac):PT _ (rE Uf) (dK tP 116 Ef 3 iK):=.bd (Id f.Kind) (am []) fun r_10=>.lf ((wZ f r_10).opt) .normal _<|hh fun _ h=>l0 (abU h)
theorem ahU {f}:Ax tP 116 Ef 0 iK (qA f) (alR f):=.tD mixed [aqN] [1,3,4,13,14,15,16,19,20,21,22,25,26,27,28,31,32,33,34,44,45,46,47,48,49,52,53,54,55,65,66,67,68,69,70,73,74,75,76,77,78,81,82,83,84,85,86] 3
def Fl (f:ac):Option (Bool):=(qA f).opt
def G1:bW:=dH wz Fl false Nc
theorem OV:bg tP 77 G1:=cJ Tryz.f77 (ao Tryz.f77) [.tmp 2] 116 fun u0 y h=>@ahU u0 _ (bn.2 ⟨y,h,(cx (bl y) (VLe.rfl' _))⟩)
abbrev e77:FE tP:=⟨77, .pure G1,OV⟩
noncomputable def apk:List Code:=aA (ao Tryz.f58)
def Hz (x_1:Bool):bN:=.data (bl x_1)
def aqx (x_1:Bool):St:=⟨[sv 2 (bl x_1)],[],0⟩
def aiW (f:ac):St:=⟨[sv 0 (.ag (aX f))],[],0⟩
def kX (f:ac):PT _ (rE aqx) iK:=.bd (Fl f) false fun r_2=>.lf (some (bif r_2 then (!f.Withdrawn) else false)) .ret _<|hh fun _=>l0
theorem afY {f}:Ax tP 10 apk 0 iK (kX f) (aiW f):=.tE mixed [e77] [2] 3
def lA (f:ac):Option (Bool):=(kX f).opt
def yU:bW:=dH wz lA false Hz
theorem I0:bg tP 58 yU:=cJ Tryz.f58 (ao Tryz.f58) [.tmp 2] 10 fun u0 y h=>@afY u0 _ (bn.2 ⟨y,h,(cx (bl y) (VLe.rfl' _))⟩)
abbrev e58:FE tP:=⟨58, .pure yU,I0⟩
noncomputable def qc:List Code:=aA (ao Tryz.f106)
noncomputable def XZ:List Code:=aA (ah (ah (aP qc 3)))
def JT (x_1:(Int × Bool)):bN:=.data (.tup [(i64 x_1.1),(bl x_1.2)])
def Pi (x_1:(Int × Bool)):St:=⟨[sv 4 (i64 x_1.1),sv 5 (bl x_1.2)],[],0⟩
def yc (kind:Int) (l:(List ac)) (s:(Int × Bool × Int)):St:=match s with | (day,ok,t12)=>⟨[sv 1 (i64 kind),sv 6 (i64 day),sv 7 (bl ok),sv 10 (aU l),sv 11 (i64 (l.length:Int)),sv 12 (i64 t12)],[],0⟩
def Zo (kind:Int) (l:(List ac)) (s:Int × Bool):St:=match s with | (day_1,ok_1)=>⟨[sv 6 (i64 day_1),sv 7 (bl ok_1)],[],0⟩
def yo (kind:Int) (l:(List ac)) (r:((Int × Bool))) (K:KT):Prop:=match r with | s=>K (.exit 0) (Zo kind l s)
def agR (kind day:Int) (ok:Bool) (l:(List ac)) (t12:Int):St:=yc kind l (day,ok,t12)
def iL (kind day:Int) (ok:Bool) (l:(List ac)) (t12:Int):PT _ (nE (yc kind l) (yo kind l)) iK:=.bf (decide (t12 < (l.length:Int))) (.g2 (0≤t12) (t12 < (l.length:Int))<|.bd (lA (l.getD (Int.toNat t12) aW)) false fun r_2=>.bf (bif (bif r_2 then ((l.getD (Int.toNat t12) aW).Kind == kind) else false) then (bif (!ok) then true else (decide (((l.getD (Int.toNat t12) aW).Span).From < day))) else false) (.lf (some (Sum.inl (((l.getD (Int.toNat t12) aW).Span).From,true,(ai (t12+1))))) .normal _<|hh fun _=>lx [1,6,7,10,11,12] [19,20,21,22,25,26,27,28,29,30,31,32,33] []) (.lf (some (Sum.inl (day,ok,(ai (t12+1))))) .normal _<|hh fun _=>lx [1,6,7,10,11,12] [19,20,21,22,25,26,27,28,29,30,31,32,33] [])) (.lf (some (Sum.inr (day,ok))) (.exit 0) (yc kind l (day,ok,t12))<|hh fun _=>lg (.cn [6,7]))
theorem YN {kind day ok l t12}:Ax tP 41 XZ 0 iK (iL kind day ok l t12) (agR kind day ok l t12):=.tE mixed [e58] [1,6,7,10,11,12,19,20,21,22,25,26,27,28,29,30,31,32,33] 4
def kD (kind:Int) (l:(List ac)) (s:(Int × Bool × Int)):Option ((Int × Bool × Int) ⊕ ((Int × Bool))):=match s with | (day,ok,t12)=>(iL kind day ok l t12).opt
theorem Yo (kind l s):Pp tP 41 (List.drop 0 XZ) (yc kind l s) (kD kind l s) (cd (yc kind l) (yo kind l)):=fun K h=>match s,h with | (day,ok,t12),h=>(YN h)
theorem R2 (kind l):∀ r J K,yo kind l r K→yo kind l r (aE J K)
  | s,_,_,h=>h
def Su (day_2:Int) (ok_2:Bool):St:=⟨[sv 6 (i64 day_2),sv 7 (bl ok_2)],[],0⟩
def AJ (day_2:Int) (ok_2:Bool):PT _ (rE Pi) iK:=.lf (some (day_2,ok_2)) .ret _<|hh fun _=>l0
theorem aab {day_2 ok_2}:Ax tP 41 qc 4 iK (AJ day_2 ok_2) (Su day_2 ok_2):=.tE mixed [] [4,5] 2
def afZ (kind:Int) (l:(List ac)):St:=⟨[sv 1 (i64 kind),sv 6 (i64 0),sv 7 (bl false),sv 10 (aU l),sv 11 (i64 (l.length:Int)),sv 12 (i64 0)],[],0⟩
abbrev xz (kind:Int) (l:(List ac)) (r:((Int × Bool))):Option ((Int × Bool)):=match r with | (day_1,ok_1)=>((AJ day_1 ok_1).opt)
def AG (kind:Int) (l:(List ac)):Option ((Int × Bool)):=(fixL (kD kind l) (0,false,0)).bind (xz kind l)
theorem YC:List.drop 3 qc = .block 0 (.loop (ah (ah (aP qc 3)))) :: List.drop 4 qc:=by kernel_rfl
theorem acF (kind l K):∀ r,W (xz kind l r) (rE Pi K)→yo kind l r (wK (aZ 0 (aE (au tP 41 (List.drop 4 qc) K) K)))
  | (day_1,ok_1),h=>⟨(Su day_1 ok_1),(.refl _),(aab h)⟩
theorem Yh {kind l K} (h:W (AG kind l) (rE Pi K)):au tP 41 (List.drop 3 qc) K (afZ kind l) :=
  au.at_ YC (au.cons_loop (aC.weak (aC.ent (.refl _) (aC.loopF (x:=ah (ah (aP qc 3))) (f:=kD kind l) (emb:=yc kind l) (E:=yo kind l) (Yo kind l) (R2 kind l) (bM h (acF kind l K))))))
def ags (l:(List ac)) (kind:Int):St:=⟨[sv 0 (aU l),sv 1 (i64 kind)],[],0⟩
def z6 (l:(List ac)) (kind:Int):PT _ (rE Pi) (dK tP 41 qc 3 iK):=.lf (AG kind l) .normal _<|hh fun _ h=>l0 (Yh h)
theorem Zm {l kind}:Ax tP 41 qc 0 iK (z6 l kind) (ags l kind):=.tD mixed [] [1,6,7,10,11,12,19,20,21,22,25,26,27,28,29,30,31,32,33] 3
def sC (l:(List ac)) (kind:Int):Option ((Int × Bool)):=(z6 l kind).opt
def Dg:bW:=fj gn (aI .i64) sC ((0:Int),false) JT
theorem LD:bg tP 106 Dg:=dv Tryz.f106 (ao Tryz.f106) [.tmp 4, .tmp 5] 41 fun u0 u1 y h=>@Zm u0 u1 _ (bn.2 ⟨y,h,(cx (.tup [(i64 y.1),(bl y.2)]) (VLe.tup (VLes.cons (VLe.rfl' _) (VLes.cons (VLe.rfl' _) (VLes.nil)))))⟩)
abbrev alJ:FE tP:=⟨106, .pure Dg,LD⟩
noncomputable def apa:List Code:=aA (ao Tryz.f78)
def Kv (x_1:(Int × Bool)):bN:=.data (.tup [(i64 x_1.1),(bl x_1.2)])
def aqS (x_1:(Int × Bool)):St:=⟨[sv 2 (i64 x_1.1),sv 3 (bl x_1.2)],[],0⟩
def aju (l:(List ac)):St:=⟨[sv 0 (aU l)],[],0⟩
def nS (l:(List ac)):PT _ (rE aqS) iK:=.lk gX l fun L1_=>.bd (sC L1_ 11) (0,false) fun r_2=>.lf (some (r_2.1,r_2.2)) .ret _<|hh fun _=>l0
theorem adu {l}:Ax tP 8 apa 0 iK (nS l) (aju l):=.tE mixed [alJ] [2,3] 3
def zI (l:(List ac)):Option ((Int × Bool)):=(nS l).opt
def DM:bW:=dH gn zI ((0:Int),false) Kv
theorem Mf:bg tP 78 DM:=cJ Tryz.f78 (ao Tryz.f78) [.tmp 2, .tmp 3] 8 fun u0 y h=>@adu u0 _ (bn.2 ⟨y,h,(cx (.tup [(i64 y.1),(bl y.2)]) (VLe.tup (VLes.cons (VLe.rfl' _) (VLes.cons (VLe.rfl' _) (VLes.nil)))))⟩)
abbrev e78:FE tP:=⟨78, .pure DM,Mf⟩
noncomputable def aoL:List Code:=aA (ao Tryz.f79)
def J9 (x_1:(Int × Bool)):bN:=.data (.tup [(i64 x_1.1),(bl x_1.2)])
def aqe (x_1:(Int × Bool)):St:=⟨[sv 2 (i64 x_1.1),sv 3 (bl x_1.2)],[],0⟩
def amo (l:(List ac)):St:=⟨[sv 0 (aU l)],[],0⟩
def nN (l:(List ac)):PT _ (rE aqe) iK:=.lk gX l fun L1_=>.bd (sC L1_ 12) (0,false) fun r_2=>.lf (some (r_2.1,r_2.2)) .ret _<|hh fun _=>l0
theorem aic {l}:Ax tP 8 aoL 0 iK (nN l) (amo l):=.tE mixed [alJ] [2,3] 3
def zn (l:(List ac)):Option ((Int × Bool)):=(nN l).opt
def C8:bW:=dH gn zn ((0:Int),false) J9
theorem KK:bg tP 79 C8:=cJ Tryz.f79 (ao Tryz.f79) [.tmp 2, .tmp 3] 8 fun u0 y h=>@aic u0 _ (bn.2 ⟨y,h,(cx (.tup [(i64 y.1),(bl y.2)]) (VLe.tup (VLes.cons (VLe.rfl' _) (VLes.cons (VLe.rfl' _) (VLes.nil)))))⟩)
abbrev e79:FE tP:=⟨79, .pure C8,KK⟩
noncomputable def Tq:List Code:=aA (ao Tryz.f59)
def K8 (x_1:ab):bN:=.data (.agg [(i64 x_1.From),(i64 x_1.To)])
def akD (x_1:ab):St:=⟨[sv 2 (.ptr 0 2 0 0)],[(0,some (.box [(i64 x_1.From),(i64 x_1.To)]))],1⟩
def amk (birth death:Int):St:=⟨[sv 2 (.ptr 0 2 0 0),sv 3 (i64 birth),sv 5 (i64 death)],[(0,some (.bx (aN (ab.mk 0 0))))],1⟩
def oZ (birth death:Int):PT _ (rE akD) iK:=.bf (decide (death < birth)) (.lf (some (ab.mk 0 0)) .ret _<|hh fun _=>l0) (.lf (some (ab.mk birth (ai (death+1)))) .ret _<|hh fun _=>l0)
theorem S6 {birth death}:Ax tP 27 Tq 5 iK (oZ birth death) (amk birth death):=.tE mixed [] [2] 4
def aiS (l:(List ac)):St:=⟨[sv 0 (aU l)],[],0⟩
def po (l:(List ac)):PT _ (rE akD) (dK tP 27 Tq 5 iK):=.lk gX l fun L1_=>.bd (zI L1_) (0,false) fun r_3=>.tv (QK l) (kb cE)<|.bd (zn L1_) (0,false) fun r_4=>.bf (!r_4.2) (.lf ((oZ r_3.1 73048).opt) .normal _<|hh fun _ h=>l0 (S6 h)) (.lf ((oZ r_3.1 r_4.1).opt) .normal _<|hh fun _ h=>l0 (S6 h))
theorem ae0 {l}:Ax tP 27 Tq 0 iK (po l) (aiS l):=.tD mixed [e78,e79] [2,3,5] 5
def qi (l:(List ac)):Option (ab):=(po l).opt
def FU:bW:=dH gn qi aq K8
theorem Nx:bg tP 59 FU:=cJ Tryz.f59 (ao Tryz.f59) [.cell 2 59] 27 fun u0 y h=>@ae0 u0 _ (bn.2 ⟨y,h,(cx (.agg [(i64 y.From),(i64 y.To)]) (VLe.rfl' _))⟩)
abbrev e59:FE tP:=⟨59, .pure FU,Nx⟩
noncomputable def vA:List Code:=aA (ao Tryz.f30)
noncomputable def aa7:List Code:=aA (ah (ah (aP vA 3)))
def Ke (x_1:(List ab)):bN:=.own true 59 2 (x_1).length (aV aN aq x_1)
def Vf (x_1:(List ab)):St:=⟨[sv 6 (.row 0 2 0 x_1.length)],[(bh 0 59 x_1)],1⟩
def DZ (l:(List ac)) (kind state:Int) (s:((List ab) × Int)):St:=match s with | (out_1,t12)=>⟨[sv 0 (aU l),sv 1 (i64 kind),sv 2 (i64 state),sv 7 (.row 0 2 0 out_1.length),sv 10 (aU l),sv 11 (i64 (l.length:Int)),sv 12 (i64 t12)],[(bh 0 59 out_1)],1⟩
def adw (l:(List ac)) (kind state:Int) (s:(List ab)):St:=match s with | out_2=>⟨[sv 0 (aU l),sv 7 (.row 0 2 0 out_2.length)],[(bh 0 59 out_2)],1⟩
def CQ (l:(List ac)) (kind state:Int) (r:(((List ab)))) (K:KT):Prop:=match r with | s=>K (.exit 0) (adw l kind state s)
def amt (l:(List ac)) (kind state:Int) (out_1:(List ab)) (t12:Int):St:=DZ l kind state (out_1,t12)
def iM (l:(List ac)) (kind state:Int) (out_1:(List ab)) (t12:Int):PT _ (nE (DZ l kind state) (CQ l kind state)) iK:=.bf (decide (t12 < (l.length:Int))) (.g2 (0≤t12) (t12 < (l.length:Int))<|.bd (lA (l.getD (Int.toNat t12) aW)) false fun r_2=>.bf (bif (bif r_2 then ((l.getD (Int.toNat t12) aW).Kind == kind) else false) then ((l.getD (Int.toNat t12) aW).State == state) else false) (.tv (out_1.length = out_1.length) rfl<|.gc (out_1.length+1) 16<|.lf (some (Sum.inl ((out_1++([(l.getD (Int.toNat t12) aW).Span]:List ab)),(ai (t12+1))))) .normal (⟨[sv 0 (aU l),sv 1 (i64 kind),sv 2 (i64 state),sv 7 (.row 0 2 0 (out_1.length+1)),sv 10 (aU l),sv 11 (i64 (l.length:Int)),sv 12 (i64 (ai (t12+1))),un 19,un 20,un 21,un 22,un 25,un 26,un 27,un 28],[(0,some (.row 59 2 (out_1.length+1) (fun i=>bif Nat.blt i out_1.length then (bB out_1) i else (fun i=>(dj 2 (aN ((l.getD (Int.toNat t12) aW).Span))) (0+i)) (i - out_1.length))))],1⟩)<|hh fun _=>lg (.of (.qs 3 (.cons rfl (.rown (bS rfl rfl)) (.qs 3 .nil))) (.row rfl (ae.app .b (ae.zero (ae.l1 (enc:=aN) (z:=aq) 2 ((l.getD (Int.toNat t12) aW).Span) rfl))) .nil rfl) rfl)) (.lf (some (Sum.inl (out_1,(ai (t12+1))))) .normal _<|hh fun _=>lx [0,1,2,7,10,11,12] [19,20,21,22,25,26,27,28] [])) (.lf (some (Sum.inr out_1)) (.exit 0) (DZ l kind state (out_1,t12))<|hh fun _=>lg (.cn [0,7]))
theorem ais {l kind state out_1 t12}:Ax tP 40 aa7 0 iK (iM l kind state out_1 t12) (amt l kind state out_1 t12):=.tE mixed [e58] [0,1,2,7,10,11,12,19,20,21,22,25,26,27,28] 4
def gj (l:(List ac)) (kind state:Int) (s:((List ab) × Int)):Option (((List ab) × Int) ⊕ (((List ab)))):=match s with | (out_1,t12)=>(iM l kind state out_1 t12).opt
theorem abW (l kind state s):Pp tP 40 (List.drop 0 aa7) (DZ l kind state s) (gj l kind state s) (cd (DZ l kind state) (CQ l kind state)):=fun K h=>match s,h with | (out_1,t12),h=>(ais h)
theorem U5 (l kind state):∀ r J K,CQ l kind state r K→CQ l kind state r (aE J K)
  | s,_,_,h=>h
def Wy (l:(List ac)) (out_3:(List ab)):St:=⟨[sv 0 (aU l),sv 7 (.row 0 2 0 out_3.length)],[(bh 0 59 out_3)],1⟩
def AB (l:(List ac)) (out_3:(List ab)):PT _ (rE Vf) iK:=.lk gX l fun L1_=>.bd (qi L1_) aq fun r_5=>.tv (aK aN bD 2 2 out_3.length (fun i=>(bB out_3) (0+i))) (ae.ok aY (ae.zero .b))<|.ls (a:=lst bD out_3.length (fun i=>(bB out_3) (0+i))) (lr aY (ae.zero .b)) fun L2_=>.bd (md L2_ r_5) [] fun r_6=>.lf (some r_6) .ret _<|hh fun _=>l0
theorem afh {l out_3}:Ax tP 40 vA 4 iK (AB l out_3) (Wy l out_3):=.tE mixed [e26,e59] [6] 2
def aiT (l:(List ac)) (kind state:Int):St:=⟨[sv 0 (aU l),sv 1 (i64 kind),sv 2 (i64 state),sv 7 (.c .nil),sv 10 (aU l),sv 11 (i64 (l.length:Int)),sv 12 (i64 0)],[],0⟩
abbrev xm (l:(List ac)) (kind state:Int) (r:(((List ab)))):Option ((List ab)):=match r with | out_2=>((AB l out_2).opt)
def Ay (l:(List ac)) (kind state:Int):Option ((List ab)):=(fixL (gj l kind state) (([]:List ab),0)).bind (xm l kind state)
theorem aha:List.drop 3 vA = .block 0 (.loop (ah (ah (aP vA 3)))) :: List.drop 4 vA:=by kernel_rfl
theorem akn (l kind state K):∀ r,W (xm l kind state r) (rE Vf K)→CQ l kind state r (wK (aZ 0 (aE (au tP 40 (List.drop 4 vA) K) K)))
  | out_2,h=>⟨(Wy l out_2),(.refl _),(afh h)⟩
theorem ah4 {l kind state K} (h:W (Ay l kind state) (rE Vf K)):au tP 40 (List.drop 3 vA) K (aiT l kind state) :=
  au.at_ aha (au.cons_loop (aC.weak (aC.ent (.trans (.nilrow 7 0 59 2 (aV aN aq []) (Nat.le_of_ble_eq_true rfl) rfl) (.cn [0,1,2,7,10,11,12])) (aC.loopF (x:=ah (ah (aP vA 3))) (f:=gj l kind state) (emb:=DZ l kind state) (E:=CQ l kind state) (abW l kind state) (U5 l kind state) (bM h (akn l kind state K))))))
def amJ (l:(List ac)) (kind state:Int):St:=⟨[sv 0 (aU l),sv 1 (i64 kind),sv 2 (i64 state)],[],0⟩
def z8 (l:(List ac)) (kind state:Int):PT _ (rE Vf) (dK tP 40 vA 3 iK):=.lf (Ay l kind state) .normal _<|hh fun _ h=>l0 (ah4 h)
theorem af6 {l kind state}:Ax tP 40 vA 0 iK (z8 l kind state) (amJ l kind state):=.tD mixed [] [0,1,2,7,10,11,12,19,20,21,22,25,26,27,28] 3
def yD (l:(List ac)) (kind state:Int):Option ((List ab)):=(z8 l kind state).opt
def DC:bW:=yE gn (aI .i64) (aI .i64) yD ([]:List ab) Ke
theorem L5:bg tP 30 DC:=ta Tryz.f30 (ao Tryz.f30) [.tmp 6] 40 fun u0 u1 u2 y h=>@af6 u0 u1 u2 _ (bn.2 ⟨y,h,(cx (.row 0 2 0 y.length) (⟨_,_,_,rfl,rfl,rfl,fun _ _=>rfl,fun _ i hi d hd=>dJ _ d hd⟩))⟩)
abbrev e30:FE tP:=⟨30, .pure DC,L5⟩
noncomputable def vk:List Code:=aA (ao Tryz.f80)
noncomputable def aa6:List Code:=aA (ah (ah (aP vk 3)))
def jg (x_1:(List ac)):bN:=.own true 70 14 (x_1).length (aV aX aW x_1)
def PC (x_1:(List ac)):St:=⟨[sv 4 (.row 0 14 0 x_1.length)],[(bZ 0 70 x_1)],1⟩
theorem anh (x_1:(List ac)):ez tP [.tmp 4] (dI (jg x_1)) .ret (PC x_1) :=
  ez.intro (v:=(.row 0 14 0 x_1.length)) (by kernel_rfl) (⟨_,_,_,rfl,rfl,rfl,fun _ _=>rfl,fun _ i hi d hd=>mt _ d hd⟩)
def Cr (l:(List ac)) (s:((List ac) × Int)):St:=match s with | (out_1,t10)=>⟨[sv 1 (.fn 58 []),sv 5 (.row 0 14 0 out_1.length),sv 8 (aU l),sv 9 (i64 (l.length:Int)),sv 10 (i64 t10)],[(bZ 0 70 out_1)],1⟩
def acM (l:(List ac)) (s:(List ac)):St:=match s with | out_2=>⟨[sv 5 (.row 0 14 0 out_2.length)],[(bZ 0 70 out_2)],1⟩
def D2 (l:(List ac)) (r:(((List ac)))) (K:KT):Prop:=match r with | s=>K (.exit 0) (acM l s)
def anX (out_1 l:(List ac)) (t10:Int):St:=Cr l (out_1,t10)
def dO (out_1 l:(List ac)) (t10:Int):PT _ (nE (Cr l) (D2 l)) iK:=.bf (decide (t10 < (l.length:Int))) (.g2 (0≤t10) (t10 < (l.length:Int))<|.bd (lA (l.getD (Int.toNat t10) aW)) false fun r_2=>.bf r_2 (.tv (out_1.length = out_1.length) rfl<|.gc (out_1.length+1) 112<|.lf (some (Sum.inl ((out_1++([(l.getD (Int.toNat t10) aW)]:List ac)),(ai (t10+1))))) .normal (⟨[sv 1 (.fn 58 []),sv 5 (.row 0 14 0 (out_1.length+1)),sv 8 (aU l),sv 9 (i64 (l.length:Int)),sv 10 (i64 (ai (t10+1)))],[(0,some (.row 70 14 (out_1.length+1) (fun i=>bif Nat.blt i out_1.length then (fH out_1) i else (fun i=>(dj 14 (aX (l.getD (Int.toNat t10) aW))) (0+i)) (i - out_1.length))))],1⟩)<|hh fun _=>lg (.of (.q rfl (.cons rfl (.rown (bS rfl rfl)) (.qs 3 .nil))) (.row rfl (ae.app .b (ae.zero (ae.l1 (enc:=aX) (z:=aW) 14 (l.getD (Int.toNat t10) aW) rfl))) .nil rfl) rfl)) (.lf (some (Sum.inl (out_1,(ai (t10+1))))) .normal _<|hh fun _=>l0)) (.lf (some (Sum.inr out_1)) (.exit 0) (Cr l (out_1,t10))<|hh fun _=>lg (.cn [5]))
theorem aei {out_1 l t10}:Ax tP 23 aa6 0 iK (dO out_1 l t10) (anX out_1 l t10):=.tE mixed [e58] [1,5,8,9,10] 4
def gf (l:(List ac)) (s:((List ac) × Int)):Option (((List ac) × Int) ⊕ (((List ac)))):=match s with | (out_1,t10)=>(dO out_1 l t10).opt
theorem ag6 (l s):Pp tP 23 (List.drop 0 aa6) (Cr l s) (gf l s) (cd (Cr l) (D2 l)):=fun K h=>match s,h with | (out_1,t10),h=>(aei h)
theorem Vk (l):∀ r J K,D2 l r K→D2 l r (aE J K)
  | s,_,_,h=>h
def Wg (out_3:(List ac)):St:=⟨[sv 5 (.row 0 14 0 out_3.length)],[(bZ 0 70 out_3)],1⟩
def oJ (out_3:(List ac)):PT _ (rE PC) iK:=.lf (some out_3) .ret _<|hh fun _=>l0
theorem afF {out_3}:Ax tP 23 vk 4 iK (oJ out_3) (Wg out_3):=.tE mixed [] [4] 2
def alX (l:(List ac)):St:=⟨[sv 1 (.fn 58 []),sv 5 (.c .nil),sv 8 (aU l),sv 9 (i64 (l.length:Int)),sv 10 (i64 0)],[],0⟩
abbrev mS (l:(List ac)) (r:(((List ac)))):Option ((List ac)):=match r with | out_2=>((oJ out_2).opt)
def oe (l:(List ac)):Option ((List ac)):=(fixL (gf l) (([]:List ac),0)).bind (mS l)
theorem aev:List.drop 3 vk = .block 0 (.loop (ah (ah (aP vk 3)))) :: List.drop 4 vk:=by kernel_rfl
theorem alj (l K):∀ r,W (mS l r) (rE PC K)→D2 l r (wK (aZ 0 (aE (au tP 23 (List.drop 4 vk) K) K)))
  | out_2,h=>⟨(Wg out_2),(.refl _),(afF h)⟩
theorem ahW {l K} (h:W (oe l) (rE PC K)):au tP 23 (List.drop 3 vk) K (alX l) :=
  au.at_ aev (au.cons_loop (aC.weak (aC.ent (.trans (.nilrow 5 0 70 14 (aV aX aW []) (Nat.le_of_ble_eq_true rfl) rfl) (.cn [1,5,8,9,10])) (aC.loopF (x:=ah (ah (aP vk 3))) (f:=gf l) (emb:=Cr l) (E:=D2 l) (ag6 l) (Vk l) (bM h (alj l K))))))
def W0 (l:(List ac)):St:=⟨[sv 0 (aU l),sv 1 (.fn 58 [])],[],0⟩
def oO (l:(List ac)):PT _ (rE PC) (dK tP 23 vk 3 iK):=.lf (oe l) .normal _<|hh fun _ h=>l0 (ahW h)
theorem aek {l}:Ax tP 23 vk 0 iK (oO l) (W0 l):=.tD mixed [] [1,5,8,9,10] 3
def eF (l:(List ac)):Option ((List ac)):=(oO l).opt
theorem akg (l:(List ac)) (y_:(List ac)) (h:eF l = some y_):au tP 23 (aA (ao Tryz.f80)) (ez tP [.tmp 4] (dI (jg y_))) (W0 l) :=
  @aek l _ (bn.2 ⟨y_,h,anh y_⟩)
def j7:bW
  | [(.c (.sl k1 n2 e3)),(.fn 58 [])]=>some ([aK aX dR 14 k1 n2 e3,(eF (lst dR n2 e3)).isSome = true],(jg ((eF (lst dR n2 e3)).getD ([]:List ac))))
  | _=>none
theorem yQ:bg tP 80 j7:=by
  refine oL (fn:=Tryz.f80) (c:=ao Tryz.f80) (by kernel_rfl) (by kernel_rfl) (by kernel_rfl) (rs:=[.tmp 4]) (by kernel_rfl) (nt:=23) (by kernel_rfl) fun vs p out h hp=>?_
  unfold j7 at h
  split at h
  · next k1 n2 e3 =>
    cases h
    obtain ⟨g0,hp⟩:=co hp
    obtain ⟨g,hp⟩:=co hp
    obtain ⟨x,hx⟩:=Option.isSome_iff_exists.1 g
    rw [hx]
    exact ⟨[(aU (lst dR n2 e3)),(.fn 58 [])],(VLes.cons (VLe.slk g0.1 (ae.of_ok g0)) (VLes.cons (VLe.rfl' _) VLes.nil)),rfl,akg (lst dR n2 e3) x hx⟩
  · cases h
abbrev e80:FE tP:=⟨80, .pure j7,yQ⟩
noncomputable def aoN:List Code:=aA (ao Tryz.f60)
def HQ (x_1:(List ac)):bN:=.own true 70 14 (x_1).length (aV aX aW x_1)
def aqA (x_1:(List ac)):St:=⟨[sv 2 (.row 0 14 0 x_1.length)],[(bZ 0 70 x_1)],1⟩
def anA (l:(List ac)):St:=⟨[sv 0 (aU l)],[],0⟩
def xu (l:(List ac)):PT _ (rE aqA) iK:=.lk gX l fun L1_=>.bd (eF L1_) [] fun r_2=>.lf (some r_2) .ret _<|hh fun _=>l0
theorem acC {l}:Ax tP 5 aoN 0 iK (xu l) (anA l):=.tE mixed [e80] [2] 3
def tV (l:(List ac)):Option ((List ac)):=(xu l).opt
def yM:bW:=dH gn tV ([]:List ac) HQ
theorem IY:bg tP 60 yM:=cJ Tryz.f60 (ao Tryz.f60) [.tmp 2] 5 fun u0 y h=>@acC u0 _ (bn.2 ⟨y,h,(cx (.row 0 14 0 y.length) (⟨_,_,_,rfl,rfl,rfl,fun _ _=>rfl,fun _ i hi d hd=>mt _ d hd⟩))⟩)
abbrev e60:FE tP:=⟨60, .pure yM,IY⟩
noncomputable def vr:List Code:=aA (ao Tryz.f32)
noncomputable def aay:List Code:=aA (ah (ah (aP vr 3)))
def JU (x_1:(List ab)):bN:=.own true 59 2 (x_1).length (aV aN aq x_1)
def Tf (x_1:(List ab)):St:=⟨[sv 4 (.row 0 2 0 x_1.length)],[(bh 0 59 x_1)],1⟩
def yJ (n:Int) (t9:(List ab)) (t10:Int) (s:(Int × (List ab) × Int)):St:=match s with | (n_1,out_1,t11)=>⟨[sv 1 (i64 n_1),sv 5 (.row 0 2 0 out_1.length),sv 9 (.row 1 2 0 t9.length),sv 10 (i64 t10),sv 11 (i64 t11)],[(bh 0 59 out_1),(bh 1 59 t9)],2⟩
def aec (n:Int) (t9:(List ab)) (t10:Int) (s:(List ab)):St:=match s with | out_2=>⟨[sv 5 (.row 0 2 0 out_2.length)],[(bh 0 59 out_2)],1⟩
def D5 (n:Int) (t9:(List ab)) (t10:Int) (r:(((List ab)))) (K:KT):Prop:=match r with | s=>K (.exit 0) (aec n t9 t10 s)
def ajZ (n_1:Int) (out_1 t9:(List ab)) (t10 t11:Int):St:=yJ (0:Int) t9 t10 (n_1,out_1,t11)
def iE (n_1:Int) (out_1 t9:(List ab)) (t10 t11:Int):PT _ (nE (yJ (0:Int) t9 t10) (D5 (0:Int) t9 t10)) iK:=.bf (decide (t11 < t10)) (.g2 (0≤t11) (t11 < (t9.length:Int))<|.bf (decide (n_1 < 1)) (.lf (some (Sum.inr out_1)) (.exit 0) (yJ (0:Int) t9 t10 (n_1,out_1,t11))<|hh fun _=>lg (.cn [5])) (.bf (decide (n_1 < (ai ((t9.getD (0+(Int.toNat t11)) aq).To - (t9.getD (0+(Int.toNat t11)) aq).From)))) (.tv (out_1.length = out_1.length) rfl<|.gc (out_1.length+1) 16<|.lf (some (Sum.inl ((ai (n_1 - (ai ((ai ((t9.getD (0+(Int.toNat t11)) aq).From+n_1)) - (t9.getD (0+(Int.toNat t11)) aq).From)))),(out_1++([(ab.mk (t9.getD (0+(Int.toNat t11)) aq).From (ai ((t9.getD (0+(Int.toNat t11)) aq).From+n_1)))]:List ab)),(ai (t11+1))))) .normal (⟨[sv 1 (i64 (ai (n_1 - (ai ((ai ((t9.getD (0+(Int.toNat t11)) aq).From+n_1)) - (t9.getD (0+(Int.toNat t11)) aq).From))))),sv 5 (.row 0 2 0 (out_1.length+1)),sv 9 (.row 1 2 0 t9.length),sv 10 (i64 t10),sv 11 (i64 (ai (t11+1)))],[(0,some (.row 59 2 (out_1.length+1) (fun i=>bif Nat.blt i out_1.length then (bB out_1) i else (fun i=>(dj 2 (aN (ab.s_To (t9.getD (0+(Int.toNat t11)) aq) (ai ((t9.getD (0+(Int.toNat t11)) aq).From+n_1))))) (0+i)) (i - out_1.length)))),(bh 1 59 t9)],2⟩)<|hh fun _=>lg (.of (.q rfl (.cons rfl (.rown (bS rfl rfl)) (.qs 3 .nil))) (.row rfl (ae.app .b (ae.zero (ae.l1 (enc:=aN) (z:=aq) 2 (ab.s_To (t9.getD (0+(Int.toNat t11)) aq) (ai ((t9.getD (0+(Int.toNat t11)) aq).From+n_1))) rfl))) (.same rfl .nil) rfl) rfl)) (.tv (out_1.length = out_1.length) rfl<|.gc (out_1.length+1) 16<|.lf (some (Sum.inl ((ai (n_1 - (ai ((t9.getD (0+(Int.toNat t11)) aq).To - (t9.getD (0+(Int.toNat t11)) aq).From)))),(out_1++([(t9.getD (0+(Int.toNat t11)) aq)]:List ab)),(ai (t11+1))))) .normal (⟨[sv 1 (i64 (ai (n_1 - (ai ((t9.getD (0+(Int.toNat t11)) aq).To - (t9.getD (0+(Int.toNat t11)) aq).From))))),sv 5 (.row 0 2 0 (out_1.length+1)),sv 9 (.row 1 2 0 t9.length),sv 10 (i64 t10),sv 11 (i64 (ai (t11+1)))],[(0,some (.row 59 2 (out_1.length+1) (fun i=>bif Nat.blt i out_1.length then (bB out_1) i else (fun i=>(dj 2 (aN (t9.getD (0+(Int.toNat t11)) aq))) (0+i)) (i - out_1.length)))),(bh 1 59 t9)],2⟩)<|hh fun _=>lg (.of (.q rfl (.cons rfl (.rown (bS rfl rfl)) (.qs 3 .nil))) (.row rfl (ae.app .b (ae.zero (ae.l1 (enc:=aN) (z:=aq) 2 (t9.getD (0+(Int.toNat t11)) aq) rfl))) (.same rfl .nil) rfl) rfl)))) (.lf (some (Sum.inr out_1)) (.exit 0) (yJ (0:Int) t9 t10 (n_1,out_1,t11))<|hh fun _=>lg (.cn [5]))
theorem afj {n_1 out_1 t9 t10 t11}:Ax tP 42 aay 0 iK (iE n_1 out_1 t9 t10 t11) (ajZ n_1 out_1 t9 t10 t11):=.tE mixed [] [1,5,9,10,11] 4
def gp (n:Int) (t9:(List ab)) (t10:Int) (s:(Int × (List ab) × Int)):Option ((Int × (List ab) × Int) ⊕ (((List ab)))):=match s with | (n_1,out_1,t11)=>(iE n_1 out_1 t9 t10 t11).opt
theorem adL (n t9 t10 s):Pp tP 42 (List.drop 0 aay) (yJ n t9 t10 s) (gp n t9 t10 s) (cd (yJ n t9 t10) (D5 n t9 t10)):=fun K h=>match s,h with | (n_1,out_1,t11),h=>(afj h)
theorem Vg (n t9 t10):∀ r J K,D5 n t9 t10 r K→D5 n t9 t10 r (aE J K)
  | s,_,_,h=>h
def VJ (out_3:(List ab)):St:=⟨[sv 5 (.row 0 2 0 out_3.length)],[(bh 0 59 out_3)],1⟩
def Ai (out_3:(List ab)):PT _ (rE Tf) iK:=.lf (some out_3) .ret _<|hh fun _=>l0
theorem agL {out_3}:Ax tP 42 vr 4 iK (Ai out_3) (VJ out_3):=.tE mixed [] [4] 2
def ajS (n:Int) (t9:(List ab)) (t10:Int):St:=⟨[sv 1 (i64 n),sv 5 (.c .nil),sv 9 (.row 0 2 0 t9.length),sv 10 (i64 t10),sv 11 (i64 0)],[(bh 0 59 t9)],1⟩
abbrev xt (n:Int) (t9:(List ab)) (t10:Int) (r:(((List ab)))):Option ((List ab)):=match r with | out_2=>((Ai out_2).opt)
def AY (n:Int) (t9:(List ab)) (t10:Int):Option ((List ab)):=(fixL (gp n t9 t10) (n,([]:List ab),0)).bind (xt n t9 t10)
theorem aie:List.drop 3 vr = .block 0 (.loop (ah (ah (aP vr 3)))) :: List.drop 4 vr:=by kernel_rfl
theorem amm (n t9 t10 K):∀ r,W (xt n t9 t10 r) (rE Tf K)→D5 n t9 t10 r (wK (aZ 0 (aE (au tP 42 (List.drop 4 vr) K) K)))
  | out_2,h=>⟨(VJ out_2),(.refl _),(agL h)⟩
theorem adj {n t9 t10 K} (h:W (AY n t9 t10) (rE Tf K)):au tP 42 (List.drop 3 vr) K (ajS n t9 t10) :=
  au.at_ aie (au.cons_loop (aC.weak (aC.ent (.trans (.nilrow 5 1 59 2 (aV aN aq []) (Nat.le_of_ble_eq_true rfl) rfl) (.cn [1,5,9,10,11])) (aC.loopF (x:=ah (ah (aP vr 3))) (f:=gp n t9 t10) (emb:=yJ n t9 t10) (E:=D5 n t9 t10) (adL n t9 t10) (Vg n t9 t10) (bM h (amm n t9 t10 K))))))
def aiK (l:(List ab)) (n:Int):St:=⟨[sv 0 (dF l),sv 1 (i64 n)],[],0⟩
def nX (l:(List ab)) (n:Int):PT _ (rE Tf) (dK tP 42 vr 3 iK):=.lk oQ l fun L1_=>.bd (mF L1_) [] fun r_2=>.lf (AY n r_2 (r_2.length:Int)) .normal _<|hh fun _ h=>l0 (adj h)
theorem af3 {l n}:Ax tP 42 vr 0 iK (nX l n) (aiK l n):=.tD mixed [e55] [1,5,9,10,11] 3
def sd (l:(List ab)) (n:Int):Option ((List ab)):=(nX l n).opt
def DQ:bW:=fj lD (aI .i64) sd ([]:List ab) JU
theorem Mr:bg tP 32 DQ:=dv Tryz.f32 (ao Tryz.f32) [.tmp 4] 42 fun u0 u1 y h=>@af3 u0 u1 _ (bn.2 ⟨y,h,(cx (.row 0 2 0 y.length) (⟨_,_,_,rfl,rfl,rfl,fun _ _=>rfl,fun _ i hi d hd=>dJ _ d hd⟩))⟩)
abbrev e32:FE tP:=⟨32, .pure DQ,Mr⟩
noncomputable def uU:List Code:=aA (ao Tryz.f31)
noncomputable def lj:List Code:=aA (ah (ah (aP uU 3)))
noncomputable def uP:List Code:=aA (ah (aP lj 2))
noncomputable def aaP:List Code:=aA (ah (ah (aP uP 2)))
def Ff (x_1:(List ab)):bN:=.own true 59 2 (x_1).length (aV aN aq x_1)
def Ve (x_1:(List ab)):St:=⟨[sv 8 (.row 0 2 0 x_1.length)],[(bh 0 59 x_1)],1⟩
def mV (l:(List ac)) (state limit:Int) (before:ab) (s:((List ab) × Int)):St:=match s with | (out_2,child)=>⟨[sv 0 (aU l),sv 1 (i64 state),sv 3 (i64 limit),sv 6 (.ptr 0 2 0 0),sv 9 (.row 1 2 0 out_2.length),sv 10 (i64 child)],[(0,some (.bx (aN before))),(bh 1 59 out_2)],2⟩
def agj (l:(List ac)) (state limit:Int) (before:ab) (s:(List ab)):St:=match s with | out_4=>⟨[sv 9 (.row 0 2 0 out_4.length)],[(bh 0 59 out_4)],1⟩
def mR (l:(List ac)) (state limit:Int) (before:ab) (r:(((List ab)))) (K:KT):Prop:=match r with | s=>K (.exit 0) (agj l state limit before s)
def Ci (l:(List ac)) (state limit:Int) (out_7:(List ab)) (child_3:Int) (t19:(List ac)) (t20:Int) (before:ab) (s:((List ab) × Int × (List ab) × Int)):St:=match s with | (out_8,child_4,days,t21)=>⟨[sv 0 (aU l),sv 1 (i64 state),sv 3 (i64 limit),sv 6 (.ptr 0 2 0 0),sv 9 (.row 1 2 0 out_8.length),sv 10 (i64 child_4),sv 11 (.row 2 2 0 days.length),sv 19 (.row 3 14 0 t19.length),sv 20 (i64 t20),sv 21 (i64 t21)],[(0,some (.bx (aN before))),(bh 1 59 out_8),(bh 2 59 days),(bZ 3 70 t19)],4⟩
def ac5 (l:(List ac)) (state limit:Int) (out_7:(List ab)) (child_3:Int) (t19:(List ac)) (t20:Int) (before:ab) (s:(List ab) × Int × (List ab)):St:=match s with | (out_9,child_5,days_1)=>⟨[sv 0 (aU l),sv 1 (i64 state),sv 3 (i64 limit),sv 6 (.ptr 0 2 0 0),sv 9 (.row 1 2 0 out_9.length),sv 10 (i64 child_5),sv 11 (.row 2 2 0 days_1.length)],[(0,some (.bx (aN before))),(bh 1 59 out_9),(bh 2 59 days_1)],3⟩
def D1 (l:(List ac)) (state limit:Int) (out_7:(List ab)) (child_3:Int) (t19:(List ac)) (t20:Int) (before:ab) (r:(((List ab) × Int × (List ab)))) (K:KT):Prop:=match r with | s=>K (.exit 2) (ac5 l state limit out_7 child_3 t19 t20 before s)
def ano (l:(List ac)) (state limit:Int) (out_8:(List ab)) (child_4:Int) (days:(List ab)) (t19:(List ac)) (t20 t21:Int) (before:ab):St:=Ci l state limit ([]:List ab) (0:Int) t19 t20 before (out_8,child_4,days,t21)
def fA (l:(List ac)) (state limit:Int) (out_8:(List ab)) (child_4:Int) (days:(List ab)) (t19:(List ac)) (t20 t21:Int) (before:ab):PT _ (nE (Ci l state limit ([]:List ab) (0:Int) t19 t20 before) (D1 l state limit ([]:List ab) (0:Int) t19 t20 before)) iK:=.bf (decide (t21 < t20)) (.g2 (0≤t21) (t21 < (t19.length:Int))<|.bf (bif (bif ((t19.getD (0+(Int.toNat t21)) aW).Kind == 10) then ((t19.getD (0+(Int.toNat t21)) aW).State == state) else false) then ((t19.getD (0+(Int.toNat t21)) aW).Ref == child_4) else false) (.tv (days.length = days.length) rfl<|.gc (days.length+1) 16<|.lf (some (Sum.inl (out_8,child_4,(days++([(t19.getD (0+(Int.toNat t21)) aW).Span]:List ab)),(ai (t21+1))))) .normal (⟨[sv 0 (aU l),sv 1 (i64 state),sv 3 (i64 limit),sv 6 (.ptr 0 2 0 0),sv 9 (.row 1 2 0 out_8.length),sv 10 (i64 child_4),sv 11 (.row 2 2 0 (days.length+1)),sv 19 (.row 3 14 0 t19.length),sv 20 (i64 t20),sv 21 (i64 (ai (t21+1))),un 29,un 30,un 31,un 32,un 35,un 36,un 37,un 38],[(0,some (.bx (aN before))),(bh 1 59 out_8),(2,some (.row 59 2 (days.length+1) (fun i=>bif Nat.blt i days.length then (bB days) i else (fun i=>(dj 2 (aN ((t19.getD (0+(Int.toNat t21)) aW).Span))) (0+i)) (i - days.length)))),(bZ 3 70 t19)],4⟩)<|hh fun _=>lg (.of (.qs 6 (.cons rfl (.rown (bS rfl rfl)) (.qs 3 .nil))) (.same rfl (.same rfl (.row rfl (ae.app .b (ae.zero (ae.l1 (enc:=aN) (z:=aq) 2 ((t19.getD (0+(Int.toNat t21)) aW).Span) rfl))) (.same rfl .nil) rfl))) rfl)) (.lf (some (Sum.inl (out_8,child_4,days,(ai (t21+1))))) .normal _<|hh fun _=>lx [0,1,3,6,9,10,11,19,20,21] [29,30,31,32,35,36,37,38] [])) (.lf (some (Sum.inr (out_8,child_4,days))) (.exit 2) (Ci l state limit ([]:List ab) (0:Int) t19 t20 before (out_8,child_4,days,t21))<|hh fun _=>lg (.cn [0,1,3,6,9,10,11]))
theorem adH {l state limit out_8 child_4 days t19 t20 t21 before}:Ax tP 62 aaP 0 iK (fA l state limit out_8 child_4 days t19 t20 t21 before) (ano l state limit out_8 child_4 days t19 t20 t21 before):=.tE mixed [] [0,1,3,6,9,10,11,19,20,21,29,30,31,32,35,36,37,38] 4
def gY (l:(List ac)) (state limit:Int) (out_7:(List ab)) (child_3:Int) (t19:(List ac)) (t20:Int) (before:ab) (s:((List ab) × Int × (List ab) × Int)):Option (((List ab) × Int × (List ab) × Int) ⊕ (((List ab) × Int × (List ab)))):=match s with | (out_8,child_4,days,t21)=>(fA l state limit out_8 child_4 days t19 t20 t21 before).opt
theorem aga (l state limit out_7 child_3 t19 t20 before s):Pp tP 62 (List.drop 0 aaP) (Ci l state limit out_7 child_3 t19 t20 before s) (gY l state limit out_7 child_3 t19 t20 before s) (cd (Ci l state limit out_7 child_3 t19 t20 before) (D1 l state limit out_7 child_3 t19 t20 before)):=fun K h=>match s,h with | (out_8,child_4,days,t21),h=>(adH h)
theorem Vm (l state limit out_7 child_3 t19 t20 before):∀ r J K,D1 l state limit out_7 child_3 t19 t20 before r K→D1 l state limit out_7 child_3 t19 t20 before r (aE J K)
  | s,_,_,h=>h
def akv (l:(List ac)) (state limit:Int) (out_1:(List ab)) (child_7:Int) (before:ab):St:=⟨[sv 0 (aU l),sv 1 (i64 state),sv 3 (i64 limit),sv 6 (.ptr 0 2 0 0),sv 9 (.row 1 2 0 out_1.length),sv 10 (i64 child_7)],[(0,some (.bx (aN before))),(bh 1 59 out_1)],2⟩
def em (l:(List ac)) (state limit:Int) (out_1:(List ab)) (child_7:Int) (before:ab):PT _ (nE (mV l state limit before) (mR l state limit before)) iK:=.lf (some (Sum.inl (out_1,(ai (child_7+1))))) .normal _<|hh fun _=>l0
theorem S9 {l state limit out_1 child_7 before}:Ax tP 62 lj 3 iK (em l state limit out_1 child_7 before) (akv l state limit out_1 child_7 before):=.tE mixed [] [0,1,3,6,9,10,29,30,31,32,35,36,37,38] 1
def Xs (l:(List ac)) (state limit:Int) (out_10:(List ab)) (child_6:Int) (days_2:(List ab)) (before:ab):St:=⟨[sv 0 (aU l),sv 1 (i64 state),sv 3 (i64 limit),sv 6 (.ptr 0 2 0 0),sv 9 (.row 1 2 0 out_10.length),sv 10 (i64 child_6),sv 11 (.row 2 2 0 days_2.length)],[(0,some (.bx (aN before))),(bh 1 59 out_10),(bh 2 59 days_2)],3⟩
def jR (l:(List ac)) (state limit:Int) (out_10:(List ab)) (child_6:Int) (days_2:(List ab)) (before:ab):PT _ (nE (mV l state limit before) (mR l state limit before)) (fun K=>(aZ 1 (aE (au tP 62 (List.drop 3 lj) K) K))):=.bf (decide (0 < (days_2.length:Int))) (.lk gX l fun L1_=>.bd (qi L1_) aq fun r_6=>.tv (aK aN bD 2 2 days_2.length (fun i=>(bB days_2) (0+i))) (ae.ok aY (ae.zero .b))<|.ls (a:=lst bD days_2.length (fun i=>(bB days_2) (0+i))) (lr aY (ae.zero .b)) fun L2_=>.bd (md L2_ r_6) [] fun r_7=>.tv (aK aN bD 2 2 r_7.length (fun i=>(bB r_7) (0+i))) (ae.ok aY (ae.zero .b))<|.ls (a:=lst bD r_7.length (fun i=>(bB r_7) (0+i))) (lr aY (ae.zero .b)) fun L3_=>.bd (md L3_ before) [] fun r_8=>.tv (aK aN bD 2 2 r_8.length (fun i=>(bB r_8) (0+i))) (ae.ok aY (ae.zero .b))<|.ls (a:=lst bD r_8.length (fun i=>(bB r_8) (0+i))) (lr aY (ae.zero .b)) fun L4_=>.bd (sd L4_ limit) [] fun r_9=>.tv (out_10.length = out_10.length) rfl<|.gc (out_10.length+r_9.length) 16<|.lf ((em l state limit (out_10++r_9) child_6 before).opt) .normal (⟨[sv 0 (aU l),sv 1 (i64 state),sv 3 (i64 limit),sv 6 (.ptr 0 2 0 0),sv 9 (.row 1 2 0 (out_10.length+r_9.length)),sv 10 (i64 child_6)],[(0,some (.bx (aN before))),(1,some (.row 59 2 (out_10.length+r_9.length) (fun i=>bif Nat.blt i out_10.length then (bB out_10) i else (fun i=>(bB r_9) (0+i)) (i - out_10.length))))],2⟩)<|hh fun _ h=>lf (S9 h) (.of (.qs 4 (.cons rfl (.rown (bS rfl rfl)) (.q rfl .nil))) (.same rfl (.row rfl (ae.app .b (ae.zero .b)) .nil rfl)) rfl)) (.lf ((em l state limit out_10 child_6 before).opt) .normal _<|hh fun _ h=>l0 (S9 h))
theorem adk {l state limit out_10 child_6 days_2 before}:Ax tP 62 uP 3 (fun K=>(aZ 1 (aE (au tP 62 (List.drop 3 lj) K) K))) (jR l state limit out_10 child_6 days_2 before) (Xs l state limit out_10 child_6 days_2 before):=.tE mixed [e26,e32,e59] [0,1,3,6,9,10,29,30,31,32,35,36,37,38] 2
def aka (l:(List ac)) (state limit:Int) (out_7:(List ab)) (child_3:Int) (t19:(List ac)) (t20:Int) (before:ab):St:=⟨[sv 0 (aU l),sv 1 (i64 state),sv 3 (i64 limit),sv 6 (.ptr 0 2 0 0),sv 9 (.row 1 2 0 out_7.length),sv 10 (i64 child_3),sv 11 (.c .nil),sv 19 (.row 2 14 0 t19.length),sv 20 (i64 t20),sv 21 (i64 0)],[(0,some (.bx (aN before))),(bh 1 59 out_7),(bZ 2 70 t19)],3⟩
abbrev rH (l:(List ac)) (state limit:Int) (out_7:(List ab)) (child_3:Int) (t19:(List ac)) (t20:Int) (before:ab) (r:(((List ab) × Int × (List ab)))):Option (((List ab) × Int) ⊕ (((List ab)))):=match r with | (out_9,child_5,days_1)=>((jR l state limit out_9 child_5 days_1 before).opt)
def tT (l:(List ac)) (state limit:Int) (out_7:(List ab)) (child_3:Int) (t19:(List ac)) (t20:Int) (before:ab):Option (((List ab) × Int) ⊕ (((List ab)))):=(fixL (gY l state limit out_7 child_3 t19 t20 before) (out_7,child_3,([]:List ab),0)).bind (rH l state limit out_7 child_3 t19 t20 before)
theorem ahc:List.drop 2 uP = .block 2 (.loop (ah (ah (aP uP 2)))) :: List.drop 3 uP:=by kernel_rfl
theorem ann (l state limit out_7 child_3 t19 t20 before K):∀ r,W (rH l state limit out_7 child_3 t19 t20 before r) (nE (mV l state limit before) (mR l state limit before) K)→D1 l state limit out_7 child_3 t19 t20 before r (wK (aZ 2 (aE (au tP 62 (List.drop 3 uP) (aZ 1 (aE (au tP 62 (List.drop 3 lj) K) K))) (aZ 1 (aE (au tP 62 (List.drop 3 lj) K) K)))))
  | (out_9,child_5,days_1),h=>⟨(Xs l state limit out_9 child_5 days_1 before),(.refl _),(adk h)⟩
theorem aig {l state limit out_7 child_3 t19 t20 before K} (h:W (tT l state limit out_7 child_3 t19 t20 before) (nE (mV l state limit before) (mR l state limit before) K)):au tP 62 (List.drop 2 uP) (aZ 1 (aE (au tP 62 (List.drop 3 lj) K) K)) (aka l state limit out_7 child_3 t19 t20 before) :=
  au.at_ ahc (au.cons_loop (aC.weak (aC.ent (.trans (.nilrow 11 3 59 2 (aV aN aq []) (Nat.le_of_ble_eq_true rfl) rfl) (.cn [0,1,3,6,9,10,11,19,20,21])) (aC.loopF (x:=ah (ah (aP uP 2))) (f:=gY l state limit out_7 child_3 t19 t20 before) (emb:=Ci l state limit out_7 child_3 t19 t20 before) (E:=D1 l state limit out_7 child_3 t19 t20 before) (aga l state limit out_7 child_3 t19 t20 before) (Vm l state limit out_7 child_3 t19 t20 before) (bM h (ann l state limit out_7 child_3 t19 t20 before K))))))
def aiE (l:(List ac)) (state limit:Int) (out_5:(List ab)) (child_2:Int) (before:ab):St:=⟨[sv 0 (aU l),sv 1 (i64 state),sv 3 (i64 limit),sv 6 (.ptr 0 2 0 0),sv 9 (.row 1 2 0 out_5.length),sv 10 (i64 child_2)],[(0,some (.bx (aN before))),(bh 1 59 out_5)],2⟩
def jN (l:(List ac)) (state limit:Int) (out_5:(List ab)) (child_2:Int) (before:ab):PT _ (nE (mV l state limit before) (mR l state limit before)) (dK tP 62 uP 2 (fun K=>(aZ 1 (aE (au tP 62 (List.drop 3 lj) K) K)))):=.lk gX l fun L1_=>.bd (tV L1_) [] fun r_10=>.lf (tT l state limit out_5 child_2 r_10 (r_10.length:Int) before) .normal _<|hh fun _ h=>l0 (aig h)
theorem aes {l state limit out_5 child_2 before}:Ax tP 62 uP 0 (fun K=>(aZ 1 (aE (au tP 62 (List.drop 3 lj) K) K))) (jN l state limit out_5 child_2 before) (aiE l state limit out_5 child_2 before):=.tD mixed [e60] [0,1,3,6,9,10,11,19,20,21,29,30,31,32,35,36,37,38] 2
def anr (l:(List ac)) (state limit:Int) (out_3:(List ab)) (child_1:Int) (before:ab):St:=⟨[sv 0 (aU l),sv 1 (i64 state),sv 3 (i64 limit),sv 6 (.ptr 0 2 0 0),sv 9 (.row 1 2 0 out_3.length),sv 10 (i64 child_1)],[(0,some (.bx (aN before))),(bh 1 59 out_3)],2⟩
def tz (l:(List ac)) (state limit:Int) (out_3:(List ab)) (child_1:Int) (before:ab):Option (((List ab) × Int) ⊕ (((List ab)))):=((jN l state limit out_3 child_1 before).opt)
theorem agT:List.drop 2 lj = .block 1 (ah (aP lj 2)) :: List.drop 3 lj:=by kernel_rfl
theorem abD {l state limit out_3 child_1 before K} (h:W (tz l state limit out_3 child_1 before) (nE (mV l state limit before) (mR l state limit before) K)):au tP 62 (List.drop 2 lj) K (anr l state limit out_3 child_1 before) :=
  au.at_ agT (au.cons_block (au.en (aes h) (.refl _)))
def amx (l:(List ac)) (state limit:Int) (out_2:(List ab)) (child:Int) (before:ab):St:=mV l state limit before (out_2,child)
def fw (l:(List ac)) (state limit:Int) (out_2:(List ab)) (child:Int) (before:ab):PT _ (nE (mV l state limit before) (mR l state limit before)) (dK tP 62 lj 2 iK):=.bf (decide (child≤99)) (.lf (tz l state limit out_2 child before) .normal _<|hh fun _ h=>l0 (abD h)) (.lf (some (Sum.inr out_2)) (.exit 0) (mV l state limit before (out_2,child))<|hh fun _=>lg (.cn [9]))
theorem acm {l state limit out_2 child before}:Ax tP 62 lj 0 iK (fw l state limit out_2 child before) (amx l state limit out_2 child before):=.tD mixed [] [0,1,3,6,9,10,29,30,31,32,35,36,37,38] 2
def fu (l:(List ac)) (state limit:Int) (before:ab) (s:((List ab) × Int)):Option (((List ab) × Int) ⊕ (((List ab)))):=match s with | (out_2,child)=>(fw l state limit out_2 child before).opt
theorem afz (l state limit before s):Pp tP 62 (List.drop 0 lj) (mV l state limit before s) (fu l state limit before s) (cd (mV l state limit before) (mR l state limit before)):=fun K h=>match s,h with | (out_2,child),h=>(acm h)
theorem Uo (l state limit before):∀ r J K,mR l state limit before r K→mR l state limit before r (aE J K)
  | s,_,_,h=>h
def We (out_6:(List ab)):St:=⟨[sv 9 (.row 0 2 0 out_6.length)],[(bh 0 59 out_6)],1⟩
def jM (out_6:(List ab)):PT _ (rE Ve) iK:=.tv (aK aN bD 2 2 out_6.length (fun i=>(bB out_6) (0+i))) (ae.ok aY (ae.zero .b))<|.ls (a:=lst bD out_6.length (fun i=>(bB out_6) (0+i))) (lr aY (ae.zero .b)) fun L1_=>.bd (mF L1_) [] fun r_12=>.lf (some r_12) .ret _<|hh fun _=>l0
theorem adM {out_6}:Ax tP 62 uU 4 iK (jM out_6) (We out_6):=.tE mixed [e55] [8] 2
def ank (l:(List ac)) (state limit:Int) (before:ab):St:=⟨[sv 0 (aU l),sv 1 (i64 state),sv 3 (i64 limit),sv 6 (.ptr 0 2 0 0),sv 9 (.c .nil),sv 10 (i64 1)],[(0,some (.bx (aN before)))],1⟩
abbrev ry (l:(List ac)) (state limit:Int) (before:ab) (r:(((List ab)))):Option ((List ab)):=match r with | out_4=>((jM out_4).opt)
def tO (l:(List ac)) (state limit:Int) (before:ab):Option ((List ab)):=(fixL (fu l state limit before) (([]:List ab),1)).bind (ry l state limit before)
theorem aeH:List.drop 3 uU = .block 0 (.loop (ah (ah (aP uU 3)))) :: List.drop 4 uU:=by kernel_rfl
theorem anv (l state limit before K):∀ r,W (ry l state limit before r) (rE Ve K)→mR l state limit before r (wK (aZ 0 (aE (au tP 62 (List.drop 4 uU) K) K)))
  | out_4,h=>⟨(We out_4),(.refl _),(adM h)⟩
theorem ad0 {l state limit before K} (h:W (tO l state limit before) (rE Ve K)):au tP 62 (List.drop 3 uU) K (ank l state limit before) :=
  au.at_ aeH (au.cons_loop (aC.weak (aC.ent (.trans (.nilrow 9 1 59 2 (aV aN aq []) (Nat.le_of_ble_eq_true rfl) rfl) (.cn [0,1,3,6,9,10])) (aC.loopF (x:=ah (ah (aP uU 3))) (f:=fu l state limit before) (emb:=mV l state limit before) (E:=mR l state limit before) (afz l state limit before) (Uo l state limit before) (bM h (anv l state limit before K))))))
def amU (l:(List ac)) (state:Int) (before:ab) (limit:Int):St:=⟨[sv 0 (aU l),sv 1 (i64 state),sv 2 (.ag (aN before)),sv 3 (i64 limit)],[],0⟩
def tx (l:(List ac)) (state:Int) (before:ab) (limit:Int):PT _ (rE Ve) (dK tP 62 uU 3 iK):=.lf (tO l state limit before) .normal _<|hh fun _ h=>l0 (ad0 h)
theorem aii {l state before limit}:Ax tP 62 uU 0 iK (tx l state before limit) (amU l state before limit):=.tD mixed [] [0,1,3,6,9,10,29,30,31,32,35,36,37,38] 3
def qS (l:(List ac)) (state:Int) (before:ab) (limit:Int):Option ((List ab)):=(tx l state before limit).opt
def wI:bW:=JZ gn (aI .i64) zo (aI .i64) qS ([]:List ab) Ff
theorem GG:bg tP 31 wI:=GR Tryz.f31 (ao Tryz.f31) [.tmp 8] 62 fun u0 u1 u2 u3 y h=>@aii u0 u1 u2 u3 _ (bn.2 ⟨y,h,(cx (.row 0 2 0 y.length) (⟨_,_,_,rfl,rfl,rfl,fun _ _=>rfl,fun _ i hi d hd=>dJ _ d hd⟩))⟩)
abbrev e31:FE tP:=⟨31, .pure wI,GG⟩
end
end Go.Ax
