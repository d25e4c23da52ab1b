import Derived.Test.YtkijjjdaijjpaaaGreatZF1
import Derived.Test.YtkijjjdaijjpaaaGreatRows
/- Types of the program, and functions of it: printed by a program, checked by the kernel. -/
set_option linter.all false
set_option maxRecDepth 100000
namespace Go.Ax
open Go.Proofs Go.Proofs.YtkijjjdaijjpaaaGreat
noncomputable def cz (l : List ae) (i : Int) (v : List ae) : Option (List ae) := gd ((0 : Int) ≤ i ∧ i ≤ ((l.length : Nat) : Int) ∧ cL (l.length + v.length) 24) (some (l.take i.toNat ++ v ++ l.drop i.toNat))
noncomputable def eo : az → Nat → List V → Option dE := Vq aU bU aK 84 3 cz
structure bA (P : Program) : Prop where
  mixed : P.follows .mixedOrders = true
  ff : P.funcs[64]? = some Tryz.f64
  tI : P.underlying 3 = some (.int .i64)
  tB : P.underlying 4 = some .bool
  tS : P.underlying 81 = some (.slice 84)
  zE : ∀ w,(Go.sizeOf 84).run P w = .ok 3 w
theorem cg : Tryz.f64.ntmps = 95 := by kernel_rfl
section
open Go.Shelf Go.Lib
variable {P : Program}
set_option maxHeartbeats 4000000 in
theorem iO (L : bA P) (w : World) (ad a2 : Option Addr) (n c i vc : Nat) (hi : i ≤ n) (hnc : n ≤ c) (hn : ad = none → n = 0 ∧ c = 0) :
    Calls P 64 #[.slice ad n c, .int .i64 i, .slice a2 0 vc] w fun e w' => e = .returned (.slice ad n c) ∧ w' = w := by
  have tI := L.tI; have tB := L.tB; have tS := L.tS; have zE := L.zE
  have uI := run_underlying L.tI; have uB := run_underlying L.tB; have uS := run_underlying L.tS
  have mixed := L.mixed
  go_enter L.ff,cg
  cases ad with
  | none =>
    obtain ⟨rfl,rfl⟩ := hn rfl
    have : i = 0 := by omega
    subst this
    go_wp2
    go_ret
    exact ⟨rfl,rfl⟩
  | some a =>
    obtain ⟨ab,ao,asp⟩ := a
    go_wp2
    all_goals (go_ret; exact ⟨rfl,rfl⟩)
set_option maxHeartbeats 4000000 in
theorem iW (L : bA P) (w : World) (ad a2 : Option Addr) (n c m vc : Nat) (v' : Value) (w1 : World) (hm : 0 < m) (hnc : n ≤ c) (hn : ad = none → n = 0 ∧ c = 0)
    (hr : ∀ ty,(Builtin.append_ #[81,81] ty #[.slice ad n c, .slice a2 m vc]).run P w = .ok v' w1) :
    Calls P 64 #[.slice ad n c, .int .i64 n, .slice a2 m vc] w fun e w' => e = .returned v' ∧ w' = w1 := by
  have tI := L.tI; have tB := L.tB; have tS := L.tS; have zE := L.zE
  have uI := run_underlying L.tI; have uB := run_underlying L.tB; have uS := run_underlying L.tS
  have mixed := L.mixed
  have hz1 : ¬ ((m : Int) = 0) := by omega
  go_enter L.ff,cg
  cases ad with
  | none =>
    obtain ⟨rfl,rfl⟩ := hn rfl
    go_wp2_with (at_builtin; refine Lib.wpList_append_run _ rfl _ _ _ _ rfl _ _ rfl rfl _ _ (hr _) ?_)
    go_ret
    exact ⟨rfl,rfl⟩
  | some a =>
    obtain ⟨ab,ao,asp⟩ := a
    go_wp2_with (at_builtin; refine Lib.wpList_append_run _ rfl _ _ _ _ rfl _ _ rfl rfl _ _ (hr _) ?_)
    all_goals (go_ret; exact ⟨rfl,rfl⟩)
set_option maxHeartbeats 4000000 in
theorem iP (L : bA P) (w : World) (g n c i vb voff m vc N G : Nat) (W1 W2 W3 : World) (hi : i < n) (hm : 0 < m) (hnc : n ≤ c) (hroom : c < n + m) (hG : n + m ≤ G) (hG63 : G ≤ 9223372036854775807) (hbig : n + m ≤ 140737488355328)
    (hap : ∀ ty,(Builtin.append_ #[81,3] ty #[.slice (some ⟨g,0,none⟩) i c, .int .i64 ((n : Int) + (m : Int) - (i : Int))]).run P w = .ok (.slice (some ⟨N,0,none⟩) (n + m) G) W1)
    (hcp1 : ∀ ty dc,(Builtin.copy_ #[81,81] ty #[.slice (some ⟨N,i * 3,none⟩) (n + m - i) dc, .slice (some ⟨vb,voff,none⟩) m vc]).run P W1 = .ok (goInt m) W2)
    (hcp2 : ∀ ty dc sc,(Builtin.copy_ #[81,81] ty #[.slice (some ⟨N,(i + m) * 3,none⟩) (n + m - (i + m)) dc, .slice (some ⟨g,i * 3,none⟩) (n - i) sc]).run P W2.drew = .ok (goInt ((n - i : Nat) : Int)) W3) :
    Calls P 64 #[.slice (some ⟨g,0,none⟩) n c, .int .i64 i, .slice (some ⟨vb,voff,none⟩) m vc] w fun e w' => e = .returned (.slice (some ⟨N,0,none⟩) (n + m) G) ∧ w' = W3 := by
  have tI := L.tI; have tB := L.tB; have tS := L.tS; have zE := L.zE
  have uI := run_underlying L.tI; have uB := run_underlying L.tB; have uS := run_underlying L.tS
  have mixed := L.mixed
  have hz1 : ¬ ((m : Int) = 0) := by omega
  have hz2 : ¬ ((i : Int) = (n : Int)) := by omega
  have hz3 : (c : Int) < (n : Int) + (m : Int) := by omega
  have hw1 : IntKind.i64.wrap ((i : Int) + (m : Int)) = (i : Int) + (m : Int) := by rw [IntKind.wrap_i64]; omega
  have hb1 : (0 : Int) ≤ (i : Int) + (m : Int) := by omega
  have hin : i ≤ n := by omega
  have htn : ((i : Int) + (m : Int)).toNat = i + m := by omega
  have hb2 : ¬ (G = i + m) := by omega
  have hb3 : (i : Int) ≤ (n : Int) + (m : Int) := by omega
  have hb4 : ¬ (G = i) := by omega
  have hb5 : ¬ (c = i) := by omega
  go_enter L.ff,cg
  go_wp2_with (at_builtin; first | refine Lib.wpList_append_run _ rfl _ _ _ _ rfl _ _ rfl rfl _ _ (hap _) ?_ | refine yn _ rfl _ _ 81 81 rfl _ _ rfl rfl (hcp1 _ _) ?_)
  go_region_law_o (refine BB rfl _ _ 81 81 rfl _ _ (by simp [Act.eval,Act.put]) (by simp [Act.eval,Act.put]) (hcp2 _ _ _) ?_)
  go_wp2
  go_ret
  exact ⟨rfl,rfl⟩
set_option maxHeartbeats 4000000 in
theorem iS (L : bA P) (w : World) (g n c i vb voff m vc : Nat) (W1 W2 : World) (hi : i < n) (hm : 0 < m) (hroom : n + m ≤ c) (hc63 : c ≤ 9223372036854775807) (hvb : vb ≠ g)
    (hov : ∀ lb cb,(callFunc 76 #[.slice (some ⟨vb,voff,none⟩) m vc, .slice (some ⟨g,(i + m) * 3,none⟩) lb cb]).run P w = .ok (.value (.bool false)) w)
    (hcp1 : ∀ ty dc sc,(Builtin.copy_ #[81,81] ty #[.slice (some ⟨g,(i + m) * 3,none⟩) (n + m - (i + m)) dc, .slice (some ⟨g,i * 3,none⟩) (n + m - i) sc]).run P w.drew = .ok (goInt ((n - i : Nat) : Int)) W1)
    (hcp2 : ∀ ty dc,(Builtin.copy_ #[81,81] ty #[.slice (some ⟨g,i * 3,none⟩) (n + m - i) dc, .slice (some ⟨vb,voff,none⟩) m vc]).run P W1 = .ok (goInt m) W2) :
    Calls P 64 #[.slice (some ⟨g,0,none⟩) n c, .int .i64 i, .slice (some ⟨vb,voff,none⟩) m vc] w fun e w' => e = .returned (.slice (some ⟨g,0,none⟩) (n + m) c) ∧ w' = W2 := by
  have tI := L.tI; have tB := L.tB; have tS := L.tS; have zE := L.zE
  have uI := run_underlying L.tI; have uB := run_underlying L.tB; have uS := run_underlying L.tS
  have mixed := L.mixed
  have hz1 : ¬ ((m : Int) = 0) := by omega
  have hz2 : ¬ ((i : Int) = (n : Int)) := by omega
  have hw1 : IntKind.i64.wrap ((i : Int) + (m : Int)) = (i : Int) + (m : Int) := by rw [IntKind.wrap_i64]; omega
  have hb1 : (0 : Int) ≤ (i : Int) + (m : Int) := by omega
  have hin : i ≤ n := by omega
  have htn : ((i : Int) + (m : Int)).toNat = i + m := by omega
  have hb2 : ¬ (c = i + m) := by omega
  have hb3 : (i : Int) ≤ (n : Int) + (m : Int) := by omega
  have hb4 : ¬ (c = i) := by omega
  go_enter L.ff,cg
  go_wp2_with (simp only [hov])
  go_region_law_o (refine BB rfl _ _ 81 81 rfl _ _ (by simp [Act.eval,Act.put]) (by simp [Act.eval,Act.put]) (hcp1 _ _ _) ?_)
  go_wp2_with (at_builtin; refine yn _ rfl _ _ 81 81 rfl _ _ rfl rfl (hcp2 _ _) ?_)
  go_ret
  exact ⟨rfl,rfl⟩
theorem iF (L : bA P) : KN P 64 81 3 76 3 := ⟨iO L,iW L,iP L,iS L⟩
end
theorem d8 : ∃ i,Tryz.prog.info? 84 = some i ∧ i.zero = some (.agg #[.int .i64 0, .int .i64 0, .int .i64 0]) ∧ i.size = 3 ∧ i.bytes = 24 := info_parts (by kernel_rfl)
theorem ej : ∀ w,(Go.sizeOf 84).run Tryz.prog w = .ok 3 w := by
  obtain ⟨i,hi,_,h,_⟩ := d8
  intro w
  simp [Go.sizeOf,typeInfo,hi,h]
theorem bJ : bA Tryz.prog := ⟨by kernel_rfl,by kernel_rfl,by kernel_rfl,by kernel_rfl,by kernel_rfl,ej⟩
theorem i8 : dl Tryz.prog 64 (.mut eo) := by
  obtain ⟨i,hi,hz,hs,hb⟩ := d8
  refine QW (b := 24) (by decide) (fun _ => rfl) (fun l i v x h => ?_) ((iF bJ).run bJ.tS bJ.tI hi hz hs hb rfl (by decide) (rH bJ.ff (c := ar Tryz.f64) (by kernel_rfl) (by kernel_rfl))
    (JI (fn := Tryz.f76) (tR := 4) (by kernel_rfl) (by kernel_rfl) (by kernel_rfl) (by kernel_rfl) (by kernel_rfl) bJ.tS ej))
  obtain ⟨h1,h2⟩ := KH.1 h
  exact ⟨h1,(Option.some.inj h2).symm⟩
noncomputable abbrev e64 : FE Tryz.prog := ⟨64, .mut eo,i8⟩
noncomputable def vk : List Code := aD (ar Tryz.f40)
noncomputable def Xj : List Code := aD (aj (aj (aQ vk 2)))
def Hv (x_1 : (List ae)) : St := ⟨[sv 4 (.row 0 3 0 x_1.length)],[(bv 0 84 x_1)],1⟩
theorem aig (x_1 : (List ae)) {H : az} {nid : Nat} {ps : List Prop} {o : Nat} : lK Tryz.prog [.tmp 4] (fun σ v => ∃ m,Left [o] nid H false { pre := ps,val := .row o 3 0 x_1.length,eff := [(o,some (.row 84 3 x_1.length (bf aU aK x_1)))],kill := [o] } m σ v) .ret (Hv x_1) :=
  lK.intro (v := (.row 0 3 0 x_1.length)) (by kernel_rfl) ⟨_,Cg (q := 0) rfl (fun _ _ => rfl) (.inr fun i hi d hd => nU _ d hd)⟩
theorem aak (x_1 : (List ae)) {H : az} {nid : Nat} {ps : List Prop} : lK Tryz.prog [.tmp 4] (fun σ v => ∃ m,Left [] nid H false { pre := ps,val := .row nid 3 0 x_1.length,eff := [(nid,some (.row 84 3 x_1.length (bf aU aK x_1)))],kill := [] } m σ v) .ret (Hv x_1) :=
  lK.intro (v := (.row 0 3 0 x_1.length)) (by kernel_rfl) ⟨_,C6 (q := 0) rfl (fun _ _ => rfl) (.inr fun i hi d hd => nU _ d hd)⟩
def Jm (l : (List ae)) (r_1 : ae) (s : (Int)) : St := match s with | k => ⟨[sv 0 (.row 0 3 0 l.length),sv 3 (.ptr 1 3 0 0),sv 5 (i64 k)],[(bv 0 84 l),(1,some (.bx (aU r_1)))],2⟩
def aeh (l : (List ae)) (r_1 : ae) (s : Int) : St := match s with | k_1 => ⟨[sv 0 (.row 0 3 0 l.length),sv 3 (.ptr 1 3 0 0),sv 5 (i64 k_1)],[(bv 0 84 l),(1,some (.bx (aU r_1)))],2⟩
def BP (l : (List ae)) (r_1 : ae) (r : ((Int))) (K : KT) : Prop := match r with | s => K (.exit 0) (aeh l r_1 s)
def ag6 (l : (List ae)) (k : Int) (r_1 : ae) : St := ⟨[sv 0 (.row 0 3 0 l.length),sv 3 (.ptr 1 3 0 0),sv 5 (i64 k)],[(bv 0 84 l),(1,some (.bx (aU r_1)))],2⟩
noncomputable def go (l : (List ae)) (k : Int) (r_1 : ae) : Option ((Int) ⊕ ((Int))) := gd (((decide (0 < k)) && true) = true → 0 ≤ (ak (k - 1))) (gd (((decide (0 < k)) && true) = true → (ak (k - 1)) < (l.length : Int)) (gd (((decide (0 < k)) && true) = true → 0 ≤ (ak (k - 1))) (gd (((decide (0 < k)) && true) = true → (ak (k - 1)) < (l.length : Int)) ((bif (bif (decide (0 < k)) then (decide ((ak ((l.getD (0 + (Int.toNat (ak (k - 1)))) aK).num * r_1.den)) < (ak (r_1.num * (l.getD (0 + (Int.toNat (ak (k - 1)))) aK).den)))) else false) then (some (Sum.inl (ak (k - 1)))) else (some (Sum.inr k)))))))
theorem X9 {l : (List ae)} {k : Int} {r_1 : ae} {K : KT} (h : W (go l k r_1) (nE (Jm l r_1) (BP l r_1) K)) : ah Tryz.prog 38 (List.drop 0 Xj) K (ag6 l k r_1) :=
  ah.qE mixed [] [0,3,5,11,12,13,14,15,16,17,18,19,20,21,22,23,24,25,26,27,28,29] 0 3 (.nx (fun K => let a1_ := (decide (0 < k)) && true; let a2_ := l.getD (0 + (Int.toNat (ak (k - 1)))) aK; let a3_ := a1_ = true → (ak (k - 1)) < (l.length : Int); let a4_ := a1_ = true → 0 ≤ (ak (k - 1)); let a5_ := bv 0 84 l; let a6_ := aU r_1; a4_ ∧ a3_ ∧ a4_ ∧ a3_ ∧ ((bif (bif (decide (0 < k)) then (decide ((ak (a2_.num * r_1.den)) < (ak (r_1.num * a2_.den)))) else false) then wK K .normal (⟨[sv 0 (.row 0 3 0 l.length),sv 3 (.ptr 1 3 0 0),sv 5 (i64 (ak (k - 1))),un 11,un 12,un 13,un 14,un 15,un 16,un 17,un 18,un 19,un 20,un 21,un 22,un 23,un 24,un 25,un 26,un 27,un 28,un 29],[a5_,(1,some (.bx a6_))],2⟩) else wK K (.exit 0) (⟨[sv 0 (.row 0 3 0 l.length),sv 3 (.ptr 1 3 0 0),sv 5 (i64 k),un 11,un 12,un 13,un 14,un 15,un 16,un 17,un 18,un 19,un 20,un 21,un 22,un 23,un 24,un 25,un 26,un 27,un 28,un 29],[a5_,(1,some (.bx a6_))],2⟩)))) (bF h fun _ h => (bF h fun _ h => (bF h fun _ h => (bF h fun _ h => (al h (fun _ h => (lf h (.cn [0,3,5]))) (fun _ h => (lf h (.cn [0,3,5])))))))))
noncomputable def iI (l : (List ae)) (r_1 : ae) (s : (Int)) : Option ((Int) ⊕ ((Int))) := match s with | k => go l k r_1
theorem aeG (l : (List ae)) (r_1 : ae) (s : (Int)) : Pp Tryz.prog 38 (List.drop 0 Xj) (Jm l r_1 s) (iI l r_1 s) (cq (Jm l r_1) (BP l r_1)) := fun K h => match s,h with | k,h => (X9 h)
theorem Rg (l : (List ae)) (r_1 : ae) : ∀ (r : ((Int))) (J : St → Prop) (K : KT),BP l r_1 r K → BP l r_1 r (aM J K)
  | s,_,_,h => h
def MQ (l : (List ae)) (k_2 : Int) (r_1 : ae) : St := ⟨[sv 0 (.row 0 3 0 l.length),sv 3 (.ptr 1 3 0 0),sv 5 (i64 k_2)],[(bv 0 84 l),(1,some (.bx (aU r_1)))],2⟩
noncomputable def kj (l : (List ae)) (k_2 : Int) (r_1 : ae) : Option ((List ae)) := (cz l k_2 ([r_1] : List ae)).bind fun r_2 => ((some r_2))
theorem abF (l : (List ae)) (k_2 : Int) (r_1 : ae) (K : KT) {L1_ : List ae} (hL1_ : lst bU l.length (qI l) = L1_) {L2_ : List ae} (hL2_ : lst bU 1 (fun i => (dw 3 (aU r_1)) (0 + i)) = L2_) :
    ev Tryz.prog (cy [e64]) 38 (ofItems ((List.drop 3 vk).take 2)) (cN [4] K) (MQ l k_2 r_1) =
    (let a1_ := cz L1_ k_2 L2_; (l.length = l.length) ∧ (qO l) ∧ (bk aU bU 3 3 1 (fun i => (dw 3 (aU r_1)) (0 + i))) ∧ (a1_.isSome = true) ∧ (wK K .ret (Hv (a1_.getD [])))) := by subst hL1_ hL2_; kernel_rfl
theorem ac8 {l : (List ae)} {k_2 : Int} {r_1 : ae} {K : KT} (h : W (kj l k_2 r_1) (rE Hv K)) : ah Tryz.prog 38 (List.drop 3 vk) K (MQ l k_2 r_1) :=
  ah.qE mixed [e64] [4] 3 2 (.of (abF l k_2 r_1 _ (lb bX) (lr bX (ai.zero (ai.l1 (enc := aU) (z := aK) 3 r_1 rfl)))) (⟨(rfl),⟨kb bX,⟨ai.ok bX (ai.zero (ai.l1 (enc := aU) (z := aK) 3 r_1 rfl)),(aq [] h fun _ h => (l0 h))⟩⟩⟩))
def Un (l : (List ae)) (r_1 : ae) : St := ⟨[sv 0 (.row 0 3 0 l.length),sv 3 (.ptr 1 3 0 0),sv 5 (i64 (l.length : Int))],[(bv 0 84 l),(1,some (.bx (aU r_1)))],2⟩
noncomputable def qx (l : (List ae)) (r_1 : ae) (r : ((Int))) : Option ((List ae)) := match r with | k_1 => (kj l k_1 r_1)
noncomputable def sH (l : (List ae)) (r_1 : ae) : Option ((List ae)) := (aN (iI l r_1) (l.length : Int)).bind (qx l r_1)
theorem ZP : List.drop 2 vk = .block 0 (.loop (aj (aj (aQ vk 2)))) :: List.drop 3 vk := by kernel_rfl
theorem agH (l : (List ae)) (r_1 : ae) (K : KT) : ∀ r : ((Int)),W (qx l r_1 r) (rE Hv K) → BP l r_1 r (wK (bg 0 (aM (ah Tryz.prog 38 (List.drop 3 vk) K) K)))
  | k_1,h => ⟨(MQ l k_1 r_1),(.refl _),(ac8 h)⟩
theorem abi {l : (List ae)} {r_1 : ae} {K : KT} (h : W (sH l r_1) (rE Hv K)) : ah Tryz.prog 38 (List.drop 2 vk) K (Un l r_1) :=
  ah.at_ ZP (ah.cons_loop (aE.weak (aE.ent (.refl _) (aE.loopF (x := aj (aj (aQ vk 2))) (f := iI l r_1) (emb := Jm l r_1) (E := BP l r_1) (aeG l r_1) (Rg l r_1) (bT h (agH l r_1 K))))))
def ag9 (l : (List ae)) (r_1 : ae) : St := ⟨[sv 0 (.row 0 3 0 l.length),sv 1 (.ag (aU r_1))],[(bv 0 84 l)],1⟩
noncomputable def tD (l : (List ae)) (r_1 : ae) : Option ((List ae)) := (sH l r_1)
theorem O4 {l : (List ae)} {r_1 : ae} {K : KT} (h : W (tD l r_1) (rE Hv K)) : ah Tryz.prog 38 (List.drop 0 vk) K (ag9 l r_1) :=
  ah.qD mixed [] [0,3,5,11,12,13,14,15,16,17,18,19,20,21,22,23,24,25,26,27,28,29] 0 2 2 (.nx (fun K => wK K .normal (Un l r_1)) (l0 (abi h)))
noncomputable def cX (l : (List ae)) (r_1 : ae) : Option ((List ae)) := tD l r_1
noncomputable def oo : az → Nat → List V → Option dE := fun H nid args => match ki H [true,false] args with
  | [(.row o_ k_ f_ n_),(.agg [(.c (.lit (.int .i64 a1))),(.c (.lit (.int .i64 a2))),(.c (.lit (.int .i64 a3)))])] => (match az.get H o_ with
    | some (.row t_ k2_ m_ e_) => bif Nat.beq t_ 84 && Nat.beq k2_ 3 && Nat.beq k_ 3 && Nat.beq f_ 0 && ea [o_] H false [true,false] args then some { pre := [n_ = m_,bk aU bU 3 3 m_ e_,(cX (lst bU m_ e_) (ae.mk a1 a2 a3)).isSome = true],val := .row o_ 3 0 ((cX (lst bU m_ e_) (ae.mk a1 a2 a3)).getD ([] : List ae)).length,eff := [(o_,some (.row 84 3 ((cX (lst bU m_ e_) (ae.mk a1 a2 a3)).getD ([] : List ae)).length (bf aU aK ((cX (lst bU m_ e_) (ae.mk a1 a2 a3)).getD ([] : List ae)))))],kill := [o_] } else none
    | _ => none)
  | [(.c .nil),(.agg [(.c (.lit (.int .i64 a1))),(.c (.lit (.int .i64 a2))),(.c (.lit (.int .i64 a3)))])] => bif ea [] H false [true,false] args then some { pre := [(cX ([] : List ae) (ae.mk a1 a2 a3)).isSome = true],val := .row nid 3 0 ((cX ([] : List ae) (ae.mk a1 a2 a3)).getD ([] : List ae)).length,eff := [(nid,some (.row 84 3 ((cX ([] : List ae) (ae.mk a1 a2 a3)).getD ([] : List ae)).length (bf aU aK ((cX ([] : List ae) (ae.mk a1 a2 a3)).getD ([] : List ae)))))],kill := [] } else none
  | _ => none
theorem B0 : dl Tryz.prog 40 (.mut oo) := by
  refine zc (fn := Tryz.f40) (c := ar Tryz.f40) (by kernel_rfl) (by kernel_rfl) (by kernel_rfl) (rs := [.tmp 4]) (by kernel_rfl) (nt := 38) (by kernel_rfl) fun H nid args r h hp => ?_
  unfold oo at h
  split at h
  · next o_ k_ f_ n_ a1 a2 a3 hv =>
    split at h
    · next t_ k2_ m_ e_ hg =>
      cases hb : (Nat.beq t_ 84 && Nat.beq k2_ 3 && Nat.beq k_ 3 && Nat.beq f_ 0 && ea [o_] H false [true,false] args) with
      | false => rw [hb] at h; cases h
      | true =>
        rw [hb] at h
        simp only [Bool.and_eq_true,Nat.beq_eq] at hb
        obtain ⟨⟨⟨⟨rfl,rfl⟩,rfl⟩,rfl⟩,hk⟩ := hb
        cases h
        obtain ⟨hn,hp⟩ := dP hp
        obtain ⟨gr,hp⟩ := dP hp
        obtain ⟨g,hp⟩ := dP hp
        obtain ⟨x,hx⟩ := Option.isSome_iff_exists.1 g
        rw [hx]
        subst hn
        exact .inl ⟨false,[true,false],o_,84,3,_,e_,[.row 0 3 0 (lst bU _ e_).length,(.agg [(i64 (ae.mk a1 a2 a3).at_),(i64 (ae.mk a1 a2 a3).num),(i64 (ae.mk a1 a2 a3).den)])],hg,hk,by rw [hv]; simp only [p9,cond_true,cond_false,CS]; exact (VLes.cons (VLe.rown (ai.of_ok (z := aK) gr).len) (VLes.cons (VLe.agg (VLes.cons (VLe.rfl' _) (VLes.cons (VLe.rfl' _) (VLes.cons (VLe.rfl' _) VLes.nil)))) VLes.nil)),rfl,ah.ent (em.of (dg.cons rfl (VLe.rfl' _) (dg.cons rfl (VLe.rfl' _) dg.nil)) (eN.row rfl (ai.of_ok gr) eN.nil rfl) rfl) (@O4 (lst bU _ e_) (ae.mk a1 a2 a3) _ (bi.2 ⟨x,hx,aig x⟩))⟩
    · cases h
  · next a1 a2 a3 hv =>
    cases hb : ea [] H false [true,false] args with
      | false => rw [hb] at h; cases h
      | true =>
        rw [hb] at h
        cases h
        obtain ⟨g,hp⟩ := dP hp
        obtain ⟨x,hx⟩ := Option.isSome_iff_exists.1 g
        rw [hx]
        exact .inr ⟨false,[true,false],[.c .nil,(.agg [(i64 (ae.mk a1 a2 a3).at_),(i64 (ae.mk a1 a2 a3).num),(i64 (ae.mk a1 a2 a3).den)])],hb,by rw [hv]; simp only [p9,cond_true,cond_false]; exact (VLes.cons (VLe.rfl' _) (VLes.cons (VLe.agg (VLes.cons (VLe.rfl' _) (VLes.cons (VLe.rfl' _) (VLes.cons (VLe.rfl' _) VLes.nil)))) VLes.nil)),rfl,ah.ent (em.trans (em.nilrow 0 0 84 3 (bf aU aK []) (Nat.le_refl _) rfl) (em.of (dg.cons rfl (VLe.rown rfl) (dg.cons rfl (VLe.rfl' _) dg.nil)) (eN.row rfl (ai.ls aU aK []) eN.nil rfl) rfl)) (@O4 ([] : List ae) (ae.mk a1 a2 a3) _ (bi.2 ⟨x,hx,aak x⟩))⟩
  · cases h
noncomputable abbrev e40 : FE Tryz.prog := ⟨40, .mut oo,B0⟩
noncomputable def la : List Code := aD (ar Tryz.f16)
noncomputable def Rc : List Code := aD (aj (aj (aQ la 11)))
noncomputable def XV : List Code := aD (aj (aj (aQ la 13)))
def AN (x_1 : ((List bh) × Int)) : bS := .new (.tup [(ahQ x_1.1),(i64 x_1.2)])
def El (x_1 : ((List bh) × Int)) : St := ⟨[sv 4 (.row 0 2 0 x_1.1.length),sv 5 (i64 x_1.2)],[(nM 0 58 x_1.1)],1⟩
def Ig (total : Int) (l : (List af)) (missing : Int) (t42 : (List aR)) (t43 : Int) (s : (Int × (List bh) × (List ae) × Int)) : St := match s with | (missing_1,out_1,cut,t44) => ⟨[sv 0 (i64 total),sv 1 (aZ l),sv 10 (i64 missing_1),sv 11 (.row 0 2 0 out_1.length),sv 12 (.row 1 3 0 cut.length),sv 42 (mY t42),sv 43 (i64 t43),sv 44 (i64 t44)],[(nM 0 58 out_1),(bv 1 84 cut)],2⟩
def aaW (total : Int) (l : (List af)) (missing : Int) (t42 : (List aR)) (t43 : Int) (s : Int × (List bh) × (List ae)) : St := match s with | (missing_2,out_2,cut_1) => ⟨[sv 10 (i64 missing_2),sv 11 (.row 0 2 0 out_2.length),sv 12 (.row 1 3 0 cut_1.length)],[(nM 0 58 out_2),(bv 1 84 cut_1)],2⟩
def BQ (total : Int) (l : (List af)) (missing : Int) (t42 : (List aR)) (t43 : Int) (r : ((Int × (List bh) × (List ae)))) (K : KT) : Prop := match r with | s => K (.exit 0) (aaW total l missing t42 t43 s)
def RY (total : Int) (l : (List af)) (missing_1 : Int) (out_1 : (List bh)) (cut : (List ae)) (t42 : (List aR)) (t43 t44 : Int) : St := ⟨[sv 0 (i64 total),sv 1 (aZ l),sv 10 (i64 missing_1),sv 11 (.row 0 2 0 out_1.length),sv 12 (.row 1 3 0 cut.length),sv 42 (mY t42),sv 43 (i64 t43),sv 44 (i64 t44)],[(nM 0 58 out_1),(bv 1 84 cut)],2⟩
noncomputable def gj (total : Int) (l : (List af)) (missing_1 : Int) (out_1 : (List bh)) (cut : (List ae)) (t42 : (List aR)) (t43 t44 : Int) : Option ((Int × (List bh) × (List ae) × Int) ⊕ ((Int × (List bh) × (List ae)))) := (bif (decide (t44 < t43)) then gd (0 ≤ t44 ∧ t44 < (t42.length : Int)) (gd ((t42.getD (Int.toNat t44) bd).Den ≠ 0) (gd (0 ≤ t44 ∧ t44 < (l.length : Int)) (gd (cL (out_1.length + 1) 16) (gd ((t42.getD (Int.toNat t44) bd).Den ≠ 0) ((cX cut (ae.mk t44 (Int.tmod (ak (total * (t42.getD (Int.toNat t44) bd).Num)) (t42.getD (Int.toNat t44) bd).Den) (t42.getD (Int.toNat t44) bd).Den)).bind fun r_3 => ((some (Sum.inl ((ak (missing_1 - (ak (Int.tdiv (ak (total * (t42.getD (Int.toNat t44) bd).Num)) (t42.getD (Int.toNat t44) bd).Den)))),(out_1 ++ ([(bh.mk (l.getD (Int.toNat t44) bq).Person (ak (Int.tdiv (ak (total * (t42.getD (Int.toNat t44) bd).Num)) (t42.getD (Int.toNat t44) bd).Den)))] : List bh)),r_3,(ak (t44 + 1))))))))))) else (some (Sum.inr (missing_1,out_1,cut))))
theorem abo (total : Int) (l : (List af)) (missing_1 : Int) (out_1 : (List bh)) (cut : (List ae)) (t42 : (List aR)) (t43 t44 missing : Int) (K : KT) {L1_ : List ae} (hL1_ : lst bU cut.length (qI cut) = L1_) :
    ev Tryz.prog (cy [e40]) 104 (ofItems ((List.drop 0 Rc).take 4)) (cN [0,1,10,11,12,42,43,44] K) (RY total l missing_1 out_1 cut t42 t43 t44) =
    (let a1_ := t42.getD (Int.toNat t44) bd; let a2_ := cX L1_ (ae.mk t44 (Int.tmod (ak (total * a1_.Num)) a1_.Den) a1_.Den); let a3_ := out_1.length + 1; let a4_ := ak (Int.tdiv (ak (total * a1_.Num)) a1_.Den); (bif (decide (t44 < t43)) then (0 ≤ t44) ∧ (t44 < (t42.length : Int)) ∧ ((a1_.Den ≠ 0) ∧ ((0 ≤ t44) ∧ (t44 < (l.length : Int)) ∧ (out_1.length = out_1.length) ∧ (a3_ * 16 ≤ 140737488355328) ∧ (a3_ ≤ 140737488355328) ∧ ((a1_.Den ≠ 0) ∧ (cut.length = cut.length) ∧ (qO cut) ∧ (a2_.isSome = true) ∧ (wK K .normal (⟨[sv 0 (i64 total),sv 1 (aZ l),sv 10 (i64 (ak (missing_1 - a4_))),sv 11 (.row 0 2 0 a3_),sv 12 (.row 1 3 0 ((a2_.getD [])).length),sv 42 (mY t42),sv 43 (i64 t43),sv 44 (i64 (ak (t44 + 1)))],[(0,some (.row 58 2 a3_ (fun i => bif Nat.blt i out_1.length then (T1 out_1) i else (fun i => (dw 2 (nF (bh.mk (l.getD (Int.toNat t44) bq).Person a4_))) (0 + i)) (i - out_1.length)))),(bv 1 84 (a2_.getD []))],2⟩))))) else wK K (.exit 0) (⟨[sv 0 (i64 total),sv 1 (aZ l),sv 10 (i64 missing_1),sv 11 (.row 0 2 0 out_1.length),sv 12 (.row 1 3 0 cut.length),sv 42 (mY t42),sv 43 (i64 t43),sv 44 (i64 t44)],[(nM 0 58 out_1),(bv 1 84 cut)],2⟩))) := by subst hL1_; kernel_rfl
theorem adV {total : Int} {l : (List af)} {missing_1 : Int} {out_1 : (List bh)} {cut : (List ae)} {t42 : (List aR)} {t43 t44 missing : Int} {K : KT} (h : W (gj total l missing_1 out_1 cut t42 t43 t44) (nE (Ig total l missing t42 t43) (BQ total l missing t42 t43) K)) : ah Tryz.prog 104 (List.drop 0 Rc) K (RY total l missing_1 out_1 cut t42 t43 t44) :=
  ah.qE mixed [e40] [0,1,10,11,12,42,43,44] 0 4 (.of (abo total l missing_1 out_1 cut t42 t43 t44 missing _ (lb bX)) (al h (fun _ h => (aT h fun _ h => (bF h fun _ h => (aT h fun _ h => ⟨rfl,(aT h fun _ h => (bF h fun _ h => ⟨(rfl),⟨kb bX,(aq [] h fun _ h => (lf h (.of (.qs 3 (.cons rfl (.rown (ce rfl rfl)) (.qs 4 .nil))) (.row rfl (ai.app .b (ai.zero (ai.l1 (enc := nF) (z := dB) 2 (bh.mk (l.getD (Int.toNat t44) bq).Person (ak (Int.tdiv (ak (total * (t42.getD (Int.toNat t44) bd).Num)) (t42.getD (Int.toNat t44) bd).Den))) rfl))) (.same rfl .nil) rfl) rfl)))⟩⟩))⟩)))) (fun _ h => (lf h (.cn [10,11,12])))))
noncomputable def gm (total : Int) (l : (List af)) (missing : Int) (t42 : (List aR)) (t43 : Int) (s : (Int × (List bh) × (List ae) × Int)) : Option ((Int × (List bh) × (List ae) × Int) ⊕ ((Int × (List bh) × (List ae)))) := match s with | (missing_1,out_1,cut,t44) => gj total l missing_1 out_1 cut t42 t43 t44
theorem YE (total : Int) (l : (List af)) (missing : Int) (t42 : (List aR)) (t43 : Int) (s : (Int × (List bh) × (List ae) × Int)) : Pp Tryz.prog 104 (List.drop 0 Rc) (Ig total l missing t42 t43 s) (gm total l missing t42 t43 s) (cq (Ig total l missing t42 t43) (BQ total l missing t42 t43)) := fun K h => match s,h with | (missing_1,out_1,cut,t44),h => (adV h)
theorem Qq (total : Int) (l : (List af)) (missing : Int) (t42 : (List aR)) (t43 : Int) : ∀ (r : ((Int × (List bh) × (List ae)))) (J : St → Prop) (K : KT),BQ total l missing t42 t43 r K → BQ total l missing t42 t43 r (aM J K)
  | s,_,_,h => h
def FG (missing_4 : Int) (out_4 : (List bh)) (t83 : (List ae)) (t84 : Int) (s : (Int × (List bh) × (List ae) × Int × Int)) : St := match s with | (missing_5,out_5,t83_1,t84_1,t85) => ⟨[sv 10 (i64 missing_5),sv 11 (.row 0 2 0 out_5.length),sv 83 (.row 1 3 0 t83_1.length),sv 84 (i64 t84_1),sv 85 (i64 t85)],[(nM 0 58 out_5),(bv 1 84 t83_1)],2⟩
def ZB (missing_4 : Int) (out_4 : (List bh)) (t83 : (List ae)) (t84 : Int) (s : (List bh)) : St := match s with | out_6 => ⟨[sv 11 (.row 0 2 0 out_6.length)],[(nM 0 58 out_6)],1⟩
def AR (missing_4 : Int) (out_4 : (List bh)) (t83 : (List ae)) (t84 : Int) (r : (((List bh)))) (K : KT) : Prop := match r with | s => K (.exit 2) (ZB missing_4 out_4 t83 t84 s)
def agn (missing_5 : Int) (out_5 : (List bh)) (t83_1 : (List ae)) (t84_1 t85 : Int) : St := ⟨[sv 10 (i64 missing_5),sv 11 (.row 0 2 0 out_5.length),sv 83 (.row 1 3 0 t83_1.length),sv 84 (i64 t84_1),sv 85 (i64 t85)],[(nM 0 58 out_5),(bv 1 84 t83_1)],2⟩
noncomputable def gc (missing_5 : Int) (out_5 : (List bh)) (t83_1 : (List ae)) (t84_1 t85 : Int) : Option ((Int × (List bh) × (List ae) × Int × Int) ⊕ (((List bh)))) := (bif (decide (t85 < t84_1)) then gd (0 ≤ t85 ∧ t85 < (t83_1.length : Int)) ((bif (decide (0 < missing_5)) then gd (0 ≤ (t83_1.getD (0 + (Int.toNat t85)) aK).at_ ∧ (t83_1.getD (0 + (Int.toNat t85)) aK).at_ < (out_5.length : Int)) (gd (0 ≤ (t83_1.getD (0 + (Int.toNat t85)) aK).at_ ∧ (t83_1.getD (0 + (Int.toNat t85)) aK).at_ < (out_5.length : Int)) ((some (Sum.inl ((ak (missing_5 - 1)),(out_5.set (0 + (Int.toNat (t83_1.getD (0 + (Int.toNat t85)) aK).at_)) (bh.mk (out_5.getD (0 + (Int.toNat (t83_1.getD (0 + (Int.toNat t85)) aK).at_)) dB).Person (ak ((out_5.getD (0 + (Int.toNat (t83_1.getD (0 + (Int.toNat t85)) aK).at_)) dB).Amount + 1)))),t83_1,t84_1,(ak (t85 + 1))))))) else (some (Sum.inl (missing_5,out_5,t83_1,t84_1,(ak (t85 + 1))))))) else (some (Sum.inr out_5)))
theorem aas {missing_5 : Int} {out_5 : (List bh)} {t83_1 : (List ae)} {t84_1 t85 missing_4 : Int} {out_4 : (List bh)} {t83 : (List ae)} {t84 : Int} {K : KT} (h : W (gc missing_5 out_5 t83_1 t84_1 t85) (nE (FG missing_4 out_4 t83 t84) (AR missing_4 out_4 t83 t84) K)) : ah Tryz.prog 104 (List.drop 0 XV) K (agn missing_5 out_5 t83_1 t84_1 t85) :=
  ah.qE mixed [] [10,11,83,84,85] 0 4 (.nx (fun K => let a1_ := t83_1.getD (0 + (Int.toNat t85)) aK; let a2_ := 0 + (Int.toNat a1_.at_); let a3_ := bv 1 84 t83_1; let a4_ := a1_.at_ < (out_5.length : Int); (bif (decide (t85 < t84_1)) then (0 ≤ t85) ∧ (t85 < (t83_1.length : Int)) ∧ ((bif (decide (0 < missing_5)) then (0 ≤ a1_.at_) ∧ a4_ ∧ (0 ≤ a1_.at_) ∧ a4_ ∧ (wK K .normal (⟨[sv 10 (i64 (ak (missing_5 - 1))),sv 11 (.row 0 2 0 out_5.length),sv 83 (.row 1 3 0 t83_1.length),sv 84 (i64 t84_1),sv 85 (i64 (ak (t85 + 1)))],[(0,some (.row 58 2 out_5.length (fun q => bif Nat.beq q a2_ then (nF (bh.s_Amount (out_5.getD a2_ dB) (ak ((out_5.getD a2_ dB).Amount + 1)))) else (T1 out_5) q))),a3_],2⟩)) else wK K .normal (FG missing_4 out_4 t83 t84 (missing_5,out_5,t83_1,t84_1,(ak (t85 + 1)))))) else wK K (.exit 2) (⟨[sv 10 (i64 missing_5),sv 11 (.row 0 2 0 out_5.length),sv 83 (.row 1 3 0 t83_1.length),sv 84 (i64 t84_1),sv 85 (i64 t85)],[(nM 0 58 out_5),a3_],2⟩))) (al h (fun _ h => (aT h fun _ h => (al h (fun _ h => (aT h fun _ h => (aT h fun _ h => (lf h (.of (.q rfl (.cons rfl (.rown (uA rfl)) (.qs 3 .nil))) (.row rfl (ai.set .b (0 + (Int.toNat (t83_1.getD (0 + (Int.toNat t85)) aK).at_)) (bh.s_Amount (out_5.getD (0 + (Int.toNat (t83_1.getD (0 + (Int.toNat t85)) aK).at_)) dB) (ak ((out_5.getD (0 + (Int.toNat (t83_1.getD (0 + (Int.toNat t85)) aK).at_)) dB).Amount + 1))) rfl) (.same rfl .nil) rfl) rfl))))) (fun _ h => (l0 h))))) (fun _ h => (lf h (.cn [11])))))
noncomputable def fZ (missing_4 : Int) (out_4 : (List bh)) (t83 : (List ae)) (t84 : Int) (s : (Int × (List bh) × (List ae) × Int × Int)) : Option ((Int × (List bh) × (List ae) × Int × Int) ⊕ (((List bh)))) := match s with | (missing_5,out_5,t83_1,t84_1,t85) => gc missing_5 out_5 t83_1 t84_1 t85
theorem YG (missing_4 : Int) (out_4 : (List bh)) (t83 : (List ae)) (t84 : Int) (s : (Int × (List bh) × (List ae) × Int × Int)) : Pp Tryz.prog 104 (List.drop 0 XV) (FG missing_4 out_4 t83 t84 s) (fZ missing_4 out_4 t83 t84 s) (cq (FG missing_4 out_4 t83 t84) (AR missing_4 out_4 t83 t84)) := fun K h => match s,h with | (missing_5,out_5,t83_1,t84_1,t85),h => (aas h)
theorem RH (missing_4 : Int) (out_4 : (List bh)) (t83 : (List ae)) (t84 : Int) : ∀ (r : (((List bh)))) (J : St → Prop) (K : KT),AR missing_4 out_4 t83 t84 r K → AR missing_4 out_4 t83 t84 r (aM J K)
  | s,_,_,h => h
def T4 (out_7 : (List bh)) : St := ⟨[sv 11 (.row 0 2 0 out_7.length)],[(nM 0 58 out_7)],1⟩
noncomputable def su (out_7 : (List bh)) : Option (((List bh) × Int)) := (some (out_7,0))
theorem aae {out_7 : (List bh)} {K : KT} (h : W (su out_7) (rE El K)) : ah Tryz.prog 104 (List.drop 14 la) K (T4 out_7) :=
  ah.qE mixed [] [4,5] 14 2 (.nx (fun K => wK K .ret (El (out_7,0))) (l0 h))
def TJ (missing_4 : Int) (out_4 : (List bh)) (t83 : (List ae)) (t84 : Int) : St := ⟨[sv 10 (i64 missing_4),sv 11 (.row 0 2 0 out_4.length),sv 83 (.row 1 3 0 t83.length),sv 84 (i64 t84),sv 85 (i64 0)],[(nM 0 58 out_4),(bv 1 84 t83)],2⟩
noncomputable def qv (missing_4 : Int) (out_4 : (List bh)) (t83 : (List ae)) (t84 : Int) (r : (((List bh)))) : Option (((List bh) × Int)) := match r with | out_6 => (su out_6)
noncomputable def sY (missing_4 : Int) (out_4 : (List bh)) (t83 : (List ae)) (t84 : Int) : Option (((List bh) × Int)) := (aN (fZ missing_4 out_4 t83 t84) (missing_4,out_4,t83,t84,0)).bind (qv missing_4 out_4 t83 t84)
theorem ach : List.drop 13 la = .block 2 (.loop (aj (aj (aQ la 13)))) :: List.drop 14 la := by kernel_rfl
theorem aiq (missing_4 : Int) (out_4 : (List bh)) (t83 : (List ae)) (t84 : Int) (K : KT) : ∀ r : (((List bh))),W (qv missing_4 out_4 t83 t84 r) (rE El K) → AR missing_4 out_4 t83 t84 r (wK (bg 2 (aM (ah Tryz.prog 104 (List.drop 14 la) K) K)))
  | out_6,h => ⟨(T4 out_6),(.refl _),(aae h)⟩
theorem Z5 {missing_4 : Int} {out_4 : (List bh)} {t83 : (List ae)} {t84 : Int} {K : KT} (h : W (sY missing_4 out_4 t83 t84) (rE El K)) : ah Tryz.prog 104 (List.drop 13 la) K (TJ missing_4 out_4 t83 t84) :=
  ah.at_ ach (ah.cons_loop (aE.weak (aE.ent (.refl _) (aE.loopF (x := aj (aj (aQ la 13))) (f := fZ missing_4 out_4 t83 t84) (emb := FG missing_4 out_4 t83 t84) (E := AR missing_4 out_4 t83 t84) (YG missing_4 out_4 t83 t84) (RH missing_4 out_4 t83 t84) (bT h (aiq missing_4 out_4 t83 t84 K))))))
def Ux (missing_3 : Int) (out_3 : (List bh)) (cut_2 : (List ae)) : St := ⟨[sv 10 (i64 missing_3),sv 11 (.row 0 2 0 out_3.length),sv 12 (.row 1 3 0 cut_2.length)],[(nM 0 58 out_3),(bv 1 84 cut_2)],2⟩
noncomputable def s7 (missing_3 : Int) (out_3 : (List bh)) (cut_2 : (List ae)) : Option (((List bh) × Int)) := (sY missing_3 out_3 cut_2 (cut_2.length : Int))
theorem aej {missing_3 : Int} {out_3 : (List bh)} {cut_2 : (List ae)} {K : KT} (h : W (s7 missing_3 out_3 cut_2) (rE El K)) : ah Tryz.prog 104 (List.drop 12 la) K (Ux missing_3 out_3 cut_2) :=
  ah.qD mixed [] [10,11,83,84,85] 12 1 13 (.nx (fun K => wK K .normal (TJ missing_3 out_3 cut_2 (cut_2.length : Int))) (l0 (Z5 h)))
def agq (total : Int) (l : (List af)) (missing : Int) (t42 : (List aR)) (t43 : Int) : St := ⟨[sv 0 (i64 total),sv 1 (aZ l),sv 10 (i64 missing),sv 11 (.c .nil),sv 12 (.c .nil),sv 42 (mY t42),sv 43 (i64 t43),sv 44 (i64 0)],[],0⟩
noncomputable def qH (total : Int) (l : (List af)) (missing : Int) (t42 : (List aR)) (t43 : Int) (r : ((Int × (List bh) × (List ae)))) : Option (((List bh) × Int)) := match r with | (missing_2,out_2,cut_1) => (s7 missing_2 out_2 cut_1)
noncomputable def nf (total : Int) (l : (List af)) (missing : Int) (t42 : (List aR)) (t43 : Int) : Option (((List bh) × Int)) := (aN (gm total l missing t42 t43) (missing,([] : List bh),([] : List ae),0)).bind (qH total l missing t42 t43)
theorem ae3 : List.drop 11 la = .block 0 (.loop (aj (aj (aQ la 11)))) :: List.drop 12 la := by kernel_rfl
theorem afx (total : Int) (l : (List af)) (missing : Int) (t42 : (List aR)) (t43 : Int) (K : KT) : ∀ r : ((Int × (List bh) × (List ae))),W (qH total l missing t42 t43 r) (rE El K) → BQ total l missing t42 t43 r (wK (bg 0 (aM (ah Tryz.prog 104 (List.drop 12 la) K) K)))
  | (missing_2,out_2,cut_1),h => ⟨(Ux missing_2 out_2 cut_1),(.refl _),(aej h)⟩
theorem Ze {total : Int} {l : (List af)} {missing : Int} {t42 : (List aR)} {t43 : Int} {K : KT} (h : W (nf total l missing t42 t43) (rE El K)) : ah Tryz.prog 104 (List.drop 11 la) K (agq total l missing t42 t43) :=
  ah.at_ ae3 (ah.cons_loop (aE.weak (aE.ent (.trans (.nilrow 11 0 58 2 (bf nF dB []) (Nat.le_of_ble_eq_true rfl) rfl) (.trans (.nilrow 12 1 84 3 (bf aU aK []) (Nat.le_of_ble_eq_true rfl) rfl) (.cn [0,1,10,11,12,42,43,44]))) (aE.loopF (x := aj (aj (aQ la 11))) (f := gm total l missing t42 t43) (emb := Ig total l missing t42 t43) (E := BQ total l missing t42 t43) (YE total l missing t42 t43) (Qq total l missing t42 t43) (bT h (afx total l missing t42 t43 K))))))
def Sg (total : Int) (l : (List af)) : St := ⟨[sv 0 (i64 total),sv 1 (aZ l)],[],0⟩
noncomputable def kq (total : Int) (l : (List af)) : Option (((List bh) × Int)) := (bif (bif (decide (total < 0)) then true else (decide (1000000000000 < total))) then (some (([] : List bh),1)) else (cE l).bind fun r_1 => ((bif (r_1.2 != 0) then (some (([] : List bh),r_1.2)) else (eT l).bind fun r_2 => ((nf total l (ak (Int.tdiv (ak (total * (if (100 : Int) < r_2.1 then (100 : Int) else r_2.1))) 100)) r_1.1 (r_1.1.length : Int))))))
theorem aeQ (total : Int) (l : (List af)) (K : KT) {L1_ : List af} (hL1_ : lst iG l.length (eZ l) = L1_) {L2_ : List af} (hL2_ : lst iG l.length (eZ l) = L2_) :
    ev Tryz.prog (cy [XA,Xh]) 104 (ofItems ((List.drop 0 la).take 11)) (cN [0,1,4,5,10,11,12,42,43,44] K) (Sg total l) =
    (let a1_ := (cE L1_).getD ([],0); let a2_ := eT L2_; (bif (bif (decide (total < 0)) then true else (decide (1000000000000 < total))) then wK K .ret (⟨[sv 0 (i64 total),sv 1 (aZ l),sv 4 (.c .nil),sv 5 (i64 1)],[],0⟩) else (Jw l) ∧ ((cE L1_).isSome = true) ∧ ((bif (a1_.2 != 0) then wK K .ret (⟨[sv 0 (i64 total),sv 1 (aZ l),sv 4 (.c .nil),sv 5 (i64 a1_.2)],[],0⟩) else (Jw l) ∧ (a2_.isSome = true) ∧ (((100 : Int) ≠ 0) ∧ (wK K .normal (⟨[sv 0 (i64 total),sv 1 (aZ l),sv 4 (.c .nil),sv 5 (i64 0),sv 10 (i64 (ak (Int.tdiv (ak (total * (if (100 : Int) < (a2_.getD (0,0)).1 then (100 : Int) else (a2_.getD (0,0)).1))) 100))),sv 11 (.c .nil),sv 12 (.c .nil),sv 42 (mY (a1_.1)),sv 43 (i64 ((a1_.1).length : Int)),sv 44 (i64 0)],[],0⟩))))))) := by subst hL1_ hL2_; kernel_rfl
theorem aen {total : Int} {l : (List af)} {K : KT} (h : W (kq total l) (rE El K)) : ah Tryz.prog 104 (List.drop 0 la) K (Sg total l) :=
  ah.qD mixed [XA,Xh] [0,1,4,5,10,11,12,42,43,44] 0 11 11 (.of (aeQ total l _ (lb cA) (lb cA)) (al h (fun _ h => (lf h (.trans (.nilrow 4 0 58 2 (bf nF dB []) (Nat.le_of_ble_eq_true rfl) rfl) (.cn [4,5])))) (fun _ h => ⟨kb cA,(aq ([],0) h fun _ h => (al h (fun _ h => (lf h (.trans (.nilrow 4 0 58 2 (bf nF dB []) (Nat.le_of_ble_eq_true rfl) rfl) (.cn [4,5])))) (fun _ h => ⟨kb cA,(aq (0,0) h fun _ h => ⟨(by decide),(lf (Ze h) (.cn [0,1,10,11,12,42,43,44]))⟩)⟩)))⟩)))
noncomputable def et (total : Int) (l : (List af)) : Option (((List bh) × Int)) := kq total l
noncomputable def tN : bW := fK (aI .i64) Bh et (([] : List bh),(0 : Int)) AN
theorem BY : Meets Tryz.prog 16 tN := dp Tryz.f16 (ar Tryz.f16) [.tmp 4, .tmp 5] 104 fun u0 u1 y h => @aen u0 u1 _ (bi.2 ⟨y,h,(cH (.tup [(.row 0 2 0 y.1.length),(i64 y.2)]) (⟨VLe.tup (VLes.cons (VLe.sl (ai.ls0 nF dB y.1)) (VLes.cons (VLe.rfl' _) (VLes.nil))),⟨⟨_,_,_,rfl,fun i hi d hd => Qu _ d hd⟩,rfl,trivial⟩⟩))⟩)
noncomputable abbrev e16 : FE Tryz.prog := ⟨16, .pure tN,BY⟩
noncomputable def ajF : List Code := aD (ar Tryz.f41)
def yh (x_1 : Bool) : bS := .data (bl x_1)
def ajb (x_1 : Bool) : St := ⟨[sv 3 (bl x_1)],[],0⟩
def ajp (n t1 : ay) : St := ⟨[sv 0 (.ag (fg n)),sv 1 (.dptr 7 [(di t1.State),(di t1.Benefit),(di t1.Currency),(di t1.Independent),(di t1.ProRata),(di t1.Deducted),(di t1.Amount)] 0)],[],0⟩
noncomputable def jb (n t1 : ay) : Option (Bool) := (some (bif (bif (n.State == t1.State) then (n.Benefit == 1) else false) then (decide (0 < n.Amount)) else false))
theorem ab4 {n t1 : ay} {K : KT} (h : W (jb n t1) (rE ajb K)) : ah Tryz.prog 19 (List.drop 0 ajF) K (ajp n t1) :=
  ah.qE mixed [] [3] 0 3 (.nx (fun K => wK K .ret (ajb (bif (bif (n.State == t1.State) then (n.Benefit == 1) else false) then (decide (0 < n.Amount)) else false))) (l0 h))
noncomputable def np (n t1 : ay) : Option (Bool) := jb n t1
noncomputable def qB : bW := fK Xm XZ np false yh
theorem yB : Meets Tryz.prog 41 qB := dp Tryz.f41 (ar Tryz.f41) [.tmp 3] 19 fun u0 u1 y h => @ab4 u0 u1 _ (bi.2 ⟨y,h,(cH (bl y) (VLe.rfl' _))⟩)
noncomputable abbrev e41 : FE Tryz.prog := ⟨41, .pure qB,yB⟩
noncomputable def wO : List Code := aD (ar Tryz.f42)
noncomputable def Xa : List Code := aD (aj (aj (aQ wO 2)))
def dU (x_1 : Int) : bS := .data (i64 x_1)
def Hn (x_1 : Int) : St := ⟨[sv 4 (i64 x_1)],[],0⟩
theorem aix (x_1 : Int) : dX Tryz.prog [.tmp 4] (du (dU x_1)) .ret (Hn x_1) :=
  dX.intro (v := (i64 x_1)) (by kernel_rfl) ((VLe.rfl' _))
def Fg (s_1 : (List ay)) (f : ay) (s : (Int)) : St := match s with | t8 => ⟨[sv 0 (cO s_1),sv 1 (.fn 41 [(.dptr 7 [(di f.State),(di f.Benefit),(di f.Currency),(di f.Independent),(di f.ProRata),(di f.Deducted),(di f.Amount)] 0)]),sv 7 (i64 (s_1.length : Int)),sv 8 (i64 t8)],[],0⟩
def Z6 (s_1 : (List ay)) (f : ay) (s : Int) : St := match s with | t4_1 => ⟨[sv 4 (i64 t4_1)],[],0⟩
def YK (s_1 : (List ay)) (f : ay) (s : Unit) : St := match s with | () => ⟨[],[],0⟩
def BJ (s_1 : (List ay)) (f : ay) (r : ((Int) ⊕ (Unit))) (K : KT) : Prop := match r with | (.inl s) => K .ret (Z6 s_1 f s) | (.inr s) => K (.exit 0) (YK s_1 f s)
def ahe (s_1 : (List ay)) (f : ay) (t8 : Int) : St := ⟨[sv 0 (cO s_1),sv 1 (.fn 41 [(.dptr 7 [(di f.State),(di f.Benefit),(di f.Currency),(di f.Independent),(di f.ProRata),(di f.Deducted),(di f.Amount)] 0)]),sv 7 (i64 (s_1.length : Int)),sv 8 (i64 t8)],[],0⟩
noncomputable def bZ (s_1 : (List ay)) (f : ay) (t8 : Int) : Option ((Int) ⊕ ((Int) ⊕ (Unit))) := (bif (decide (t8 < (s_1.length : Int))) then gd (0 ≤ t8 ∧ t8 < (s_1.length : Int)) ((np (s_1.getD (Int.toNat t8) cF) f).bind fun r_1 => ((bif r_1 then (some (Sum.inr (Sum.inl t8))) else (some (Sum.inl (ak (t8 + 1))))))) else (some (Sum.inr (Sum.inr ()))))
theorem abJ {s_1 : (List ay)} {f : ay} {t8 : Int} {K : KT} (h : W (bZ s_1 f t8) (nE (Fg s_1 f) (BJ s_1 f) K)) : ah Tryz.prog 19 (List.drop 0 Xa) K (ahe s_1 f t8) :=
  ah.qE mixed [e41] [0,1,4,7,8] 0 4 (.nx (fun K => let a1_ := np (s_1.getD (Int.toNat t8) cF) f; let a2_ := (s_1.length : Int); (bif (decide (t8 < a2_)) then (0 ≤ t8) ∧ (t8 < a2_) ∧ (a1_.isSome = true) ∧ ((bif (a1_.getD false) then wK K .ret (⟨[sv 0 (cO s_1),sv 1 (.fn 41 [(.dptr 7 [(di f.State),(di f.Benefit),(di f.Currency),(di f.Independent),(di f.ProRata),(di f.Deducted),(di f.Amount)] 0)]),sv 4 (i64 t8),sv 7 (i64 a2_),sv 8 (i64 t8)],[],0⟩) else wK K .normal (Fg s_1 f (ak (t8 + 1))))) else wK K (.exit 0) (⟨[sv 0 (cO s_1),sv 1 (.fn 41 [(.dptr 7 [(di f.State),(di f.Benefit),(di f.Currency),(di f.Independent),(di f.ProRata),(di f.Deducted),(di f.Amount)] 0)]),sv 7 (i64 a2_),sv 8 (i64 t8)],[],0⟩))) (al h (fun _ h => (aT h fun _ h => (aq false h fun _ h => (al h (fun _ h => (lf h (.cn [4]))) (fun _ h => (l0 h)))))) (fun _ h => (lf h (.cn [])))))
noncomputable def cW (s_1 : (List ay)) (f : ay) (s : (Int)) : Option ((Int) ⊕ ((Int) ⊕ (Unit))) := match s with | t8 => bZ s_1 f t8
theorem aeK (s_1 : (List ay)) (f : ay) (s : (Int)) : Pp Tryz.prog 19 (List.drop 0 Xa) (Fg s_1 f s) (cW s_1 f s) (cq (Fg s_1 f) (BJ s_1 f)) := fun K h => match s,h with | t8,h => (abJ h)
theorem Rt (s_1 : (List ay)) (f : ay) : ∀ (r : ((Int) ⊕ (Unit))) (J : St → Prop) (K : KT),BJ s_1 f r K → BJ s_1 f r (aM J K)
  | (.inl s),_,_,h => h
  | (.inr s),_,_,h => h
def SE : St := ⟨[],[],0⟩
noncomputable def gJ : Option (Int) := (some (-1))
theorem adK {K : KT} (h : W (gJ) (rE Hn K)) : ah Tryz.prog 19 (List.drop 3 wO) K (SE) :=
  ah.qE mixed [] [4] 3 2 (.nx (fun K => wK K .ret (Hn (-1))) (l0 h))
def S3 (s_1 : (List ay)) (f : ay) : St := ⟨[sv 0 (cO s_1),sv 1 (.fn 41 [(.dptr 7 [(di f.State),(di f.Benefit),(di f.Currency),(di f.Independent),(di f.ProRata),(di f.Deducted),(di f.Amount)] 0)]),sv 7 (i64 (s_1.length : Int)),sv 8 (i64 0)],[],0⟩
noncomputable def fY (s_1 : (List ay)) (f : ay) (r : ((Int) ⊕ (Unit))) : Option (Int) := match r with | (.inl t4_1) => (some t4_1) | (.inr ()) => gJ
noncomputable def gO (s_1 : (List ay)) (f : ay) : Option (Int) := (aN (cW s_1 f) 0).bind (fY s_1 f)
theorem aai : List.drop 2 wO = .block 0 (.loop (aj (aj (aQ wO 2)))) :: List.drop 3 wO := by kernel_rfl
theorem aji (s_1 : (List ay)) (f : ay) (K : KT) : ∀ r : ((Int) ⊕ (Unit)),W (fY s_1 f r) (rE Hn K) → BJ s_1 f r (wK (bg 0 (aM (ah Tryz.prog 19 (List.drop 3 wO) K) K)))
  | (.inl t4_1),h => ⟨(Hn t4_1),(.refl _),h⟩
  | (.inr ()),h => ⟨(SE),(.refl _),(adK h)⟩
theorem aea {s_1 : (List ay)} {f : ay} {K : KT} (h : W (gO s_1 f) (rE Hn K)) : ah Tryz.prog 19 (List.drop 2 wO) K (S3 s_1 f) :=
  ah.at_ aai (ah.cons_loop (aE.weak (aE.ent (.refl _) (aE.loopF (x := aj (aj (aQ wO 2))) (f := cW s_1 f) (emb := Fg s_1 f) (E := BJ s_1 f) (aeK s_1 f) (Rt s_1 f) (bT h (aji s_1 f K))))))
def TH (s_1 : (List ay)) (f : ay) : St := ⟨[sv 0 (cO s_1),sv 1 (.fn 41 [(.dptr 7 [(di f.State),(di f.Benefit),(di f.Currency),(di f.Independent),(di f.ProRata),(di f.Deducted),(di f.Amount)] 0)])],[],0⟩
noncomputable def gL (s_1 : (List ay)) (f : ay) : Option (Int) := (gO s_1 f)
theorem acj {s_1 : (List ay)} {f : ay} {K : KT} (h : W (gL s_1 f) (rE Hn K)) : ah Tryz.prog 19 (List.drop 0 wO) K (TH s_1 f) :=
  ah.qD mixed [] [0,1,7,8] 0 2 2 (.nx (fun K => wK K .normal (S3 s_1 f)) (l0 (aea h)))
noncomputable def cf (s_1 : (List ay)) (f : ay) : Option (Int) := gL s_1 f
theorem aih (s_1 : (List ay)) (f : ay) (y_ : Int) (h : cf s_1 f = some y_) : ah Tryz.prog 19 (aD (ar Tryz.f42)) (dX Tryz.prog [.tmp 4] (du (dU y_))) (TH s_1 f) :=
  @acj s_1 f _ (bi.2 ⟨y_,h,aix y_⟩)
noncomputable def cZ : bW
  | [(.c (.sl k1 n2 e3)),(.fn 41 [(.dptr 7 [(.lit (.int .i64 a4)),(.lit (.int .i64 a5)),(.lit (.int .i64 a6)),(.lit (.int .i64 a7)),(.lit (.int .i64 a8)),(.lit (.int .i64 a9)),(.lit (.int .i64 a10))] 0)])] => some ([bk fg jQ 7 k1 n2 e3,(cf (lst jQ n2 e3) (ay.mk a4 a5 a6 a7 a8 a9 a10)).isSome = true],(dU ((cf (lst jQ n2 e3) (ay.mk a4 a5 a6 a7 a8 a9 a10)).getD (0 : Int))))
  | _ => none
theorem gG : Meets Tryz.prog 42 cZ := by
  refine jA (fn := Tryz.f42) (c := ar Tryz.f42) (by kernel_rfl) (by kernel_rfl) (by kernel_rfl) (rs := [.tmp 4]) (by kernel_rfl) (nt := 19) (by kernel_rfl) fun vs p out h hp => ?_
  unfold cZ at h
  split at h
  · next k1 n2 e3 a4 a5 a6 a7 a8 a9 a10 =>
    cases h
    obtain ⟨g0,hp⟩ := dP hp
    obtain ⟨g,hp⟩ := dP hp
    obtain ⟨x,hx⟩ := Option.isSome_iff_exists.1 g
    rw [hx]
    exact ⟨[(cO (lst jQ n2 e3)),(.fn 41 [(.dptr 7 [(di (ay.mk a4 a5 a6 a7 a8 a9 a10).State),(di (ay.mk a4 a5 a6 a7 a8 a9 a10).Benefit),(di (ay.mk a4 a5 a6 a7 a8 a9 a10).Currency),(di (ay.mk a4 a5 a6 a7 a8 a9 a10).Independent),(di (ay.mk a4 a5 a6 a7 a8 a9 a10).ProRata),(di (ay.mk a4 a5 a6 a7 a8 a9 a10).Deducted),(di (ay.mk a4 a5 a6 a7 a8 a9 a10).Amount)] 0)])],(VLes.cons (VLe.slk g0.1 (ai.of_ok g0)) (VLes.cons (VLe.rfl' _) VLes.nil)),rfl,aih (lst jQ n2 e3) (ay.mk a4 a5 a6 a7 a8 a9 a10) x hx⟩
  · cases h
noncomputable def ajD : List Code := aD (ar Tryz.f43)
def xO (x_1 : Bool) : bS := .data (bl x_1)
def aiH (x_1 : Bool) : St := ⟨[sv 3 (bl x_1)],[],0⟩
def afw (n t1 : ay) : St := ⟨[sv 0 (.ag (fg n)),sv 1 (.dptr 7 [(di t1.State),(di t1.Benefit),(di t1.Currency),(di t1.Independent),(di t1.ProRata),(di t1.Deducted),(di t1.Amount)] 0)],[],0⟩
noncomputable def je (n t1 : ay) : Option (Bool) := (some (bif (bif (n.State == t1.State) then (n.Benefit == 2) else false) then (n.Currency == t1.Currency) else false))
theorem Z4 {n t1 : ay} {K : KT} (h : W (je n t1) (rE aiH K)) : ah Tryz.prog 21 (List.drop 0 ajD) K (afw n t1) :=
  ah.qE mixed [] [3] 0 3 (.nx (fun K => wK K .ret (aiH (bif (bif (n.State == t1.State) then (n.Benefit == 2) else false) then (n.Currency == t1.Currency) else false))) (l0 h))
noncomputable def mW (n t1 : ay) : Option (Bool) := je n t1
noncomputable def qN : bW := fK Xm XZ mW false xO
theorem yD : Meets Tryz.prog 43 qN := dp Tryz.f43 (ar Tryz.f43) [.tmp 3] 21 fun u0 u1 y h => @Z4 u0 u1 _ (bi.2 ⟨y,h,(cH (bl y) (VLe.rfl' _))⟩)
noncomputable abbrev e43 : FE Tryz.prog := ⟨43, .pure qN,yD⟩
noncomputable def pf : List Code := aD (ar Tryz.f42)
noncomputable def Pb : List Code := aD (aj (aj (aQ pf 2)))
def dS (x_1 : Int) : bS := .data (i64 x_1)
def x7 (x_1 : Int) : St := ⟨[sv 4 (i64 x_1)],[],0⟩
theorem Vw (x_1 : Int) : dX Tryz.prog [.tmp 4] (du (dS x_1)) .ret (x7 x_1) :=
  dX.intro (v := (i64 x_1)) (by kernel_rfl) ((VLe.rfl' _))
def xU (s_1 : (List ay)) (f : ay) (s : (Int)) : St := match s with | t8 => ⟨[sv 0 (cO s_1),sv 1 (.fn 43 [(.dptr 7 [(di f.State),(di f.Benefit),(di f.Currency),(di f.Independent),(di f.ProRata),(di f.Deducted),(di f.Amount)] 0)]),sv 7 (i64 (s_1.length : Int)),sv 8 (i64 t8)],[],0⟩
def TQ (s_1 : (List ay)) (f : ay) (s : Int) : St := match s with | t4_1 => ⟨[sv 4 (i64 t4_1)],[],0⟩
def SZ (s_1 : (List ay)) (f : ay) (s : Unit) : St := match s with | () => ⟨[],[],0⟩
def ui (s_1 : (List ay)) (f : ay) (r : ((Int) ⊕ (Unit))) (K : KT) : Prop := match r with | (.inl s) => K .ret (TQ s_1 f s) | (.inr s) => K (.exit 0) (SZ s_1 f s)
def V9 (s_1 : (List ay)) (f : ay) (t8 : Int) : St := ⟨[sv 0 (cO s_1),sv 1 (.fn 43 [(.dptr 7 [(di f.State),(di f.Benefit),(di f.Currency),(di f.Independent),(di f.ProRata),(di f.Deducted),(di f.Amount)] 0)]),sv 7 (i64 (s_1.length : Int)),sv 8 (i64 t8)],[],0⟩
noncomputable def bY (s_1 : (List ay)) (f : ay) (t8 : Int) : Option ((Int) ⊕ ((Int) ⊕ (Unit))) := (bif (decide (t8 < (s_1.length : Int))) then gd (0 ≤ t8 ∧ t8 < (s_1.length : Int)) ((mW (s_1.getD (Int.toNat t8) cF) f).bind fun r_1 => ((bif r_1 then (some (Sum.inr (Sum.inl t8))) else (some (Sum.inl (ak (t8 + 1))))))) else (some (Sum.inr (Sum.inr ()))))
theorem Va {s_1 : (List ay)} {f : ay} {t8 : Int} {K : KT} (h : W (bY s_1 f t8) (nE (xU s_1 f) (ui s_1 f) K)) : ah Tryz.prog 19 (List.drop 0 Pb) K (V9 s_1 f t8) :=
  ah.qE mixed [e43] [0,1,4,7,8] 0 4 (.nx (fun K => let a1_ := mW (s_1.getD (Int.toNat t8) cF) f; let a2_ := (s_1.length : Int); (bif (decide (t8 < a2_)) then (0 ≤ t8) ∧ (t8 < a2_) ∧ (a1_.isSome = true) ∧ ((bif (a1_.getD false) then wK K .ret (⟨[sv 0 (cO s_1),sv 1 (.fn 43 [(.dptr 7 [(di f.State),(di f.Benefit),(di f.Currency),(di f.Independent),(di f.ProRata),(di f.Deducted),(di f.Amount)] 0)]),sv 4 (i64 t8),sv 7 (i64 a2_),sv 8 (i64 t8)],[],0⟩) else wK K .normal (xU s_1 f (ak (t8 + 1))))) else wK K (.exit 0) (⟨[sv 0 (cO s_1),sv 1 (.fn 43 [(.dptr 7 [(di f.State),(di f.Benefit),(di f.Currency),(di f.Independent),(di f.ProRata),(di f.Deducted),(di f.Amount)] 0)]),sv 7 (i64 a2_),sv 8 (i64 t8)],[],0⟩))) (al h (fun _ h => (aT h fun _ h => (aq false h fun _ h => (al h (fun _ h => (lf h (.cn [4]))) (fun _ h => (l0 h)))))) (fun _ h => (lf h (.cn [])))))
noncomputable def cU (s_1 : (List ay)) (f : ay) (s : (Int)) : Option ((Int) ⊕ ((Int) ⊕ (Unit))) := match s with | t8 => bY s_1 f t8
theorem UU (s_1 : (List ay)) (f : ay) (s : (Int)) : Pp Tryz.prog 19 (List.drop 0 Pb) (xU s_1 f s) (cU s_1 f s) (cq (xU s_1 f) (ui s_1 f)) := fun K h => match s,h with | t8,h => (Va h)
theorem ND (s_1 : (List ay)) (f : ay) : ∀ (r : ((Int) ⊕ (Unit))) (J : St → Prop) (K : KT),ui s_1 f r K → ui s_1 f r (aM J K)
  | (.inl s),_,_,h => h
  | (.inr s),_,_,h => h
def Od : St := ⟨[],[],0⟩
noncomputable def gF : Option (Int) := (some (-1))
theorem S9 {K : KT} (h : W (gF) (rE x7 K)) : ah Tryz.prog 19 (List.drop 3 pf) K (Od) :=
  ah.qE mixed [] [4] 3 2 (.nx (fun K => wK K .ret (x7 (-1))) (l0 h))
def Oq (s_1 : (List ay)) (f : ay) : St := ⟨[sv 0 (cO s_1),sv 1 (.fn 43 [(.dptr 7 [(di f.State),(di f.Benefit),(di f.Currency),(di f.Independent),(di f.ProRata),(di f.Deducted),(di f.Amount)] 0)]),sv 7 (i64 (s_1.length : Int)),sv 8 (i64 0)],[],0⟩
noncomputable def fW (s_1 : (List ay)) (f : ay) (r : ((Int) ⊕ (Unit))) : Option (Int) := match r with | (.inl t4_1) => (some t4_1) | (.inr ()) => gF
noncomputable def gE (s_1 : (List ay)) (f : ay) : Option (Int) := (aN (cU s_1 f) 0).bind (fW s_1 f)
theorem U6 : List.drop 2 pf = .block 0 (.loop (aj (aj (aQ pf 2)))) :: List.drop 3 pf := by kernel_rfl
theorem Wu (s_1 : (List ay)) (f : ay) (K : KT) : ∀ r : ((Int) ⊕ (Unit)),W (fW s_1 f r) (rE x7 K) → ui s_1 f r (wK (bg 0 (aM (ah Tryz.prog 19 (List.drop 3 pf) K) K)))
  | (.inl t4_1),h => ⟨(x7 t4_1),(.refl _),h⟩
  | (.inr ()),h => ⟨(Od),(.refl _),(S9 h)⟩
theorem U3 {s_1 : (List ay)} {f : ay} {K : KT} (h : W (gE s_1 f) (rE x7 K)) : ah Tryz.prog 19 (List.drop 2 pf) K (Oq s_1 f) :=
  ah.at_ U6 (ah.cons_loop (aE.weak (aE.ent (.refl _) (aE.loopF (x := aj (aj (aQ pf 2))) (f := cU s_1 f) (emb := xU s_1 f) (E := ui s_1 f) (UU s_1 f) (ND s_1 f) (bT h (Wu s_1 f K))))))
def MU (s_1 : (List ay)) (f : ay) : St := ⟨[sv 0 (cO s_1),sv 1 (.fn 43 [(.dptr 7 [(di f.State),(di f.Benefit),(di f.Currency),(di f.Independent),(di f.ProRata),(di f.Deducted),(di f.Amount)] 0)])],[],0⟩
noncomputable def gI (s_1 : (List ay)) (f : ay) : Option (Int) := (gE s_1 f)
theorem R3 {s_1 : (List ay)} {f : ay} {K : KT} (h : W (gI s_1 f) (rE x7 K)) : ah Tryz.prog 19 (List.drop 0 pf) K (MU s_1 f) :=
  ah.qD mixed [] [0,1,7,8] 0 2 2 (.nx (fun K => wK K .normal (Oq s_1 f)) (l0 (U3 h)))
noncomputable def bu (s_1 : (List ay)) (f : ay) : Option (Int) := gI s_1 f
theorem Wk (s_1 : (List ay)) (f : ay) (y_ : Int) (h : bu s_1 f = some y_) : ah Tryz.prog 19 (aD (ar Tryz.f42)) (dX Tryz.prog [.tmp 4] (du (dS y_))) (MU s_1 f) :=
  @R3 s_1 f _ (bi.2 ⟨y_,h,Vw y_⟩)
noncomputable def da : bW
  | [(.c (.sl k1 n2 e3)),(.fn 43 [(.dptr 7 [(.lit (.int .i64 a4)),(.lit (.int .i64 a5)),(.lit (.int .i64 a6)),(.lit (.int .i64 a7)),(.lit (.int .i64 a8)),(.lit (.int .i64 a9)),(.lit (.int .i64 a10))] 0)])] => some ([bk fg jQ 7 k1 n2 e3,(bu (lst jQ n2 e3) (ay.mk a4 a5 a6 a7 a8 a9 a10)).isSome = true],(dS ((bu (lst jQ n2 e3) (ay.mk a4 a5 a6 a7 a8 a9 a10)).getD (0 : Int))))
  | _ => none
theorem gM : Meets Tryz.prog 42 da := by
  refine jA (fn := Tryz.f42) (c := ar Tryz.f42) (by kernel_rfl) (by kernel_rfl) (by kernel_rfl) (rs := [.tmp 4]) (by kernel_rfl) (nt := 19) (by kernel_rfl) fun vs p out h hp => ?_
  unfold da at h
  split at h
  · next k1 n2 e3 a4 a5 a6 a7 a8 a9 a10 =>
    cases h
    obtain ⟨g0,hp⟩ := dP hp
    obtain ⟨g,hp⟩ := dP hp
    obtain ⟨x,hx⟩ := Option.isSome_iff_exists.1 g
    rw [hx]
    exact ⟨[(cO (lst jQ n2 e3)),(.fn 43 [(.dptr 7 [(di (ay.mk a4 a5 a6 a7 a8 a9 a10).State),(di (ay.mk a4 a5 a6 a7 a8 a9 a10).Benefit),(di (ay.mk a4 a5 a6 a7 a8 a9 a10).Currency),(di (ay.mk a4 a5 a6 a7 a8 a9 a10).Independent),(di (ay.mk a4 a5 a6 a7 a8 a9 a10).ProRata),(di (ay.mk a4 a5 a6 a7 a8 a9 a10).Deducted),(di (ay.mk a4 a5 a6 a7 a8 a9 a10).Amount)] 0)])],(VLes.cons (VLe.slk g0.1 (ai.of_ok g0)) (VLes.cons (VLe.rfl' _) VLes.nil)),rfl,Wk (lst jQ n2 e3) (ay.mk a4 a5 a6 a7 a8 a9 a10) x hx⟩
  · cases h
noncomputable def ij : List Code := aD (ar Tryz.f17)
noncomputable def WO : List Code := aD (aj (aj (aQ ij 4)))
noncomputable def Rr : List Code := aD (aj (aj (aQ ij 6)))
noncomputable def Xx : List Code := aD (aj (aj (aQ ij 9)))
def zJ (x_1 : (List ay)) : bS := .own true 54 7 (x_1).length (bf fg cF x_1)
def yj (x_1 : (List ay)) : St := ⟨[sv 2 (.row 0 7 0 x_1.length)],[(F3 0 54 x_1)],1⟩
def IT (l : (List ay)) (amounts : (List Int)) (left : (List Bool)) (s : ((List Int) × Int)) : St := match s with | (amounts_1,t22) => ⟨[sv 0 (cO l),sv 3 (.row 0 1 0 amounts_1.length),sv 4 (.row 1 1 0 left.length),sv 20 (cO l),sv 21 (i64 (l.length : Int)),sv 22 (i64 t22)],[(dO 0 3 amounts_1),(cw 1 4 left)],2⟩
def ada (l : (List ay)) (amounts : (List Int)) (left : (List Bool)) (s : (List Int)) : St := match s with | amounts_2 => ⟨[sv 0 (cO l),sv 3 (.row 0 1 0 amounts_2.length),sv 4 (.row 1 1 0 left.length)],[(dO 0 3 amounts_2),(cw 1 4 left)],2⟩
def BO (l : (List ay)) (amounts : (List Int)) (left : (List Bool)) (r : (((List Int)))) (K : KT) : Prop := match r with | s => K (.exit 0) (ada l amounts left s)
def afP (l : (List ay)) (amounts_1 : (List Int)) (left : (List Bool)) (t22 : Int) : St := ⟨[sv 0 (cO l),sv 3 (.row 0 1 0 amounts_1.length),sv 4 (.row 1 1 0 left.length),sv 20 (cO l),sv 21 (i64 (l.length : Int)),sv 22 (i64 t22)],[(dO 0 3 amounts_1),(cw 1 4 left)],2⟩
noncomputable def fB (l : (List ay)) (amounts_1 : (List Int)) (left : (List Bool)) (t22 : Int) : Option (((List Int) × Int) ⊕ (((List Int)))) := (bif (decide (t22 < (l.length : Int))) then gd (0 ≤ t22 ∧ t22 < (l.length : Int)) (gd (0 ≤ t22 ∧ t22 < (amounts_1.length : Int)) ((some (Sum.inl ((amounts_1.set (0 + (Int.toNat t22)) (l.getD (Int.toNat t22) cF).Amount),(ak (t22 + 1))))))) else (some (Sum.inr amounts_1)))
theorem aaL {l : (List ay)} {amounts_1 : (List Int)} {left : (List Bool)} {t22 : Int} {amounts : (List Int)} {K : KT} (h : W (fB l amounts_1 left t22) (nE (IT l amounts left) (BO l amounts left) K)) : ah Tryz.prog 89 (List.drop 0 WO) K (afP l amounts_1 left t22) :=
  ah.qE mixed [] [0,3,4,20,21,22] 0 4 (.nx (fun K => (bif (decide (t22 < (l.length : Int))) then (0 ≤ t22) ∧ (t22 < (l.length : Int)) ∧ ((0 ≤ t22) ∧ (t22 < (amounts_1.length : Int)) ∧ (wK K .normal (⟨[sv 0 (cO l),sv 3 (.row 0 1 0 amounts_1.length),sv 4 (.row 1 1 0 left.length),sv 20 (cO l),sv 21 (i64 (l.length : Int)),sv 22 (i64 (ak (t22 + 1)))],[(0,some (.row 3 1 amounts_1.length (fun q => bif Nat.beq q (0 + (Int.toNat t22)) then [(di (l.getD (Int.toNat t22) cF).Amount)] else (ef amounts_1) q))),(cw 1 4 left)],2⟩))) else wK K (.exit 0) (⟨[sv 0 (cO l),sv 3 (.row 0 1 0 amounts_1.length),sv 4 (.row 1 1 0 left.length),sv 20 (cO l),sv 21 (i64 (l.length : Int)),sv 22 (i64 t22)],[(dO 0 3 amounts_1),(cw 1 4 left)],2⟩))) (al h (fun _ h => (aT h fun _ h => (aT h fun _ h => (lf h (.of (.q rfl (.cons rfl (.rown (uA rfl)) (.qs 4 .nil))) (.row rfl (ai.set .b (0 + (Int.toNat t22)) (l.getD (Int.toNat t22) cF).Amount rfl) (.same rfl .nil) rfl) rfl))))) (fun _ h => (lf h (.cn [0,3,4])))))
noncomputable def fq (l : (List ay)) (amounts : (List Int)) (left : (List Bool)) (s : ((List Int) × Int)) : Option (((List Int) × Int) ⊕ (((List Int)))) := match s with | (amounts_1,t22) => fB l amounts_1 left t22
theorem acR (l : (List ay)) (amounts : (List Int)) (left : (List Bool)) (s : ((List Int) × Int)) : Pp Tryz.prog 89 (List.drop 0 WO) (IT l amounts left s) (fq l amounts left s) (cq (IT l amounts left) (BO l amounts left)) := fun K h => match s,h with | (amounts_1,t22),h => (aaL h)
theorem Qf (l : (List ay)) (amounts : (List Int)) (left : (List Bool)) : ∀ (r : (((List Int)))) (J : St → Prop) (K : KT),BO l amounts left r K → BO l amounts left r (aM J K)
  | s,_,_,h => h
def Et (l : (List ay)) (amounts_5 : (List Int)) (left : (List Bool)) (s : ((List Int) × (List Bool) × Int)) : St := match s with | (amounts_4,left_1,t35) => ⟨[sv 0 (cO l),sv 3 (.row 0 1 0 amounts_4.length),sv 4 (.row 1 1 0 left_1.length),sv 33 (cO l),sv 34 (i64 (l.length : Int)),sv 35 (i64 t35)],[(dO 0 3 amounts_4),(cw 1 4 left_1)],2⟩
def ZU (l : (List ay)) (amounts_5 : (List Int)) (left : (List Bool)) (s : (List Int) × (List Bool)) : St := match s with | (amounts_6,left_2) => ⟨[sv 0 (cO l),sv 3 (.row 0 1 0 amounts_6.length),sv 4 (.row 1 1 0 left_2.length)],[(dO 0 3 amounts_6),(cw 1 4 left_2)],2⟩
def AB (l : (List ay)) (amounts_5 : (List Int)) (left : (List Bool)) (r : (((List Int) × (List Bool)))) (K : KT) : Prop := match r with | s => K (.exit 2) (ZU l amounts_5 left s)
def R6 (l : (List ay)) (amounts_4 : (List Int)) (left_1 : (List Bool)) (t35 : Int) : St := ⟨[sv 0 (cO l),sv 3 (.row 0 1 0 amounts_4.length),sv 4 (.row 1 1 0 left_1.length),sv 33 (cO l),sv 34 (i64 (l.length : Int)),sv 35 (i64 t35)],[(dO 0 3 amounts_4),(cw 1 4 left_1)],2⟩
noncomputable def fu (l : (List ay)) (amounts_4 : (List Int)) (left_1 : (List Bool)) (t35 : Int) : Option (((List Int) × (List Bool) × Int) ⊕ (((List Int) × (List Bool)))) := (bif (decide (t35 < (l.length : Int))) then gd (0 ≤ t35 ∧ t35 < (l.length : Int)) ((cf l (l.getD (Int.toNat t35) cF)).bind fun r_1 => ((bif (r_1 != t35) then (some (Sum.inl (amounts_4,left_1,(ak (t35 + 1))))) else (bu l (l.getD (Int.toNat t35) cF)).bind fun r_2 => ((bif (decide (0 ≤ r_2)) then gd (0 ≤ r_2 ∧ r_2 < (l.length : Int)) (gd (0 ≤ t35 ∧ t35 < (amounts_4.length : Int)) (gd (0 ≤ r_2 ∧ r_2 < (left_1.length : Int)) ((some (Sum.inl ((amounts_4.set (0 + (Int.toNat t35)) (if (l.getD (Int.toNat t35) cF).Amount < (l.getD (Int.toNat r_2) cF).Amount then (l.getD (Int.toNat r_2) cF).Amount else (l.getD (Int.toNat t35) cF).Amount)),(left_1.set (0 + (Int.toNat r_2)) true),(ak (t35 + 1)))))))) else (some (Sum.inl (amounts_4,left_1,(ak (t35 + 1)))))))))) else (some (Sum.inr (amounts_4,left_1))))
theorem Yb (l : (List ay)) (amounts_4 : (List Int)) (left_1 : (List Bool)) (t35 : Int) (amounts_5 : (List Int)) (left : (List Bool)) (K : KT) {L1_ : List ay} (hL1_ : lst jQ l.length (Ru l) = L1_) {L2_ : List ay} (hL2_ : lst jQ l.length (Ru l) = L2_) :
    ev Tryz.prog (cy [⟨42, .pure (WV cZ da),(Meets.or gG gM)⟩]) 89 (ofItems ((List.drop 0 Rr).take 4)) (cN [0,3,4,33,34,35] K) (R6 l amounts_4 left_1 t35) =
    (let a2_ := l.getD (Int.toNat t35) cF; let a1_ := bu L2_ a2_; let a3_ := Et l amounts_5 left (amounts_4,left_1,(ak (t35 + 1))); let a4_ := cf L1_ a2_; let a5_ := Int.toNat (a1_.getD 0); let a6_ := 0 ≤ (a1_.getD 0); (bif (decide (t35 < (l.length : Int))) then (0 ≤ t35) ∧ (t35 < (l.length : Int)) ∧ ((WI l) ∧ (a4_.isSome = true) ∧ ((bif ((a4_.getD 0) != t35) then wK K .normal a3_ else (WI l) ∧ (a1_.isSome = true) ∧ ((bif (decide a6_) then a6_ ∧ ((a1_.getD 0) < (l.length : Int)) ∧ (0 ≤ t35) ∧ (t35 < (amounts_4.length : Int)) ∧ a6_ ∧ ((a1_.getD 0) < (left_1.length : Int)) ∧ (wK K .normal (⟨[sv 0 (cO l),sv 3 (.row 0 1 0 amounts_4.length),sv 4 (.row 1 1 0 left_1.length),sv 33 (cO l),sv 34 (i64 (l.length : Int)),sv 35 (i64 (ak (t35 + 1)))],[(0,some (.row 3 1 amounts_4.length (fun q => bif Nat.beq q (0 + (Int.toNat t35)) then [(di (if a2_.Amount < (l.getD a5_ cF).Amount then (l.getD a5_ cF).Amount else a2_.Amount))] else (ef amounts_4) q))),(1,some (.row 4 1 left_1.length (fun q => bif Nat.beq q (0 + a5_) then [(db true)] else (Qb left_1) q)))],2⟩)) else wK K .normal a3_))))) else wK K (.exit 2) (⟨[sv 0 (cO l),sv 3 (.row 0 1 0 amounts_4.length),sv 4 (.row 1 1 0 left_1.length),sv 33 (cO l),sv 34 (i64 (l.length : Int)),sv 35 (i64 t35)],[(dO 0 3 amounts_4),(cw 1 4 left_1)],2⟩))) := by subst hL1_ hL2_; kernel_rfl
theorem acn {l : (List ay)} {amounts_4 : (List Int)} {left_1 : (List Bool)} {t35 : Int} {amounts_5 : (List Int)} {left : (List Bool)} {K : KT} (h : W (fu l amounts_4 left_1 t35) (nE (Et l amounts_5 left) (AB l amounts_5 left) K)) : ah Tryz.prog 89 (List.drop 0 Rr) K (R6 l amounts_4 left_1 t35) :=
  ah.qE mixed [⟨42, .pure (WV cZ da),(Meets.or gG gM)⟩] [0,3,4,33,34,35] 0 4 (.of (Yb l amounts_4 left_1 t35 amounts_5 left _ (lb oe) (lb oe)) (al h (fun _ h => (aT h fun _ h => ⟨kb oe,(aq 0 h fun _ h => (al h (fun _ h => (l0 h)) (fun _ h => ⟨kb oe,(aq 0 h fun _ h => (al h (fun _ h => (aT h fun _ h => (aT h fun _ h => (aT h fun _ h => (lf h (.of (.q rfl (.cons rfl (.rown (uA rfl)) (.cons rfl (.rown (uA rfl)) (.qs 3 .nil)))) (.row rfl (ai.set .b (0 + (Int.toNat t35)) (if (l.getD (Int.toNat t35) cF).Amount < (l.getD (Int.toNat ((bu l (l.getD (Int.toNat t35) cF)).getD 0)) cF).Amount then (l.getD (Int.toNat ((bu l (l.getD (Int.toNat t35) cF)).getD 0)) cF).Amount else (l.getD (Int.toNat t35) cF).Amount) rfl) (.row rfl (ai.set .b (0 + (Int.toNat ((bu l (l.getD (Int.toNat t35) cF)).getD 0))) true rfl) .nil rfl) rfl) rfl)))))) (fun _ h => (l0 h))))⟩)))⟩)) (fun _ h => (lf h (.cn [0,3,4])))))
noncomputable def fj (l : (List ay)) (amounts_5 : (List Int)) (left : (List Bool)) (s : ((List Int) × (List Bool) × Int)) : Option (((List Int) × (List Bool) × Int) ⊕ (((List Int) × (List Bool)))) := match s with | (amounts_4,left_1,t35) => fu l amounts_4 left_1 t35
theorem aeW (l : (List ay)) (amounts_5 : (List Int)) (left : (List Bool)) (s : ((List Int) × (List Bool) × Int)) : Pp Tryz.prog 89 (List.drop 0 Rr) (Et l amounts_5 left s) (fj l amounts_5 left s) (cq (Et l amounts_5 left) (AB l amounts_5 left)) := fun K h => match s,h with | (amounts_4,left_1,t35),h => (acn h)
theorem Qx (l : (List ay)) (amounts_5 : (List Int)) (left : (List Bool)) : ∀ (r : (((List Int) × (List Bool)))) (J : St → Prop) (K : KT),AB l amounts_5 left r K → AB l amounts_5 left r (aM J K)
  | s,_,_,h => h
def ED (amounts_8 : (List Int)) (left_4 : (List Bool)) (l : (List ay)) (s : ((List Int) × (List Bool) × (List ay) × Int)) : St := match s with | (amounts_9,left_5,out_1,t68) => ⟨[sv 3 (.row 0 1 0 amounts_9.length),sv 4 (.row 1 1 0 left_5.length),sv 11 (.row 2 7 0 out_1.length),sv 66 (cO l),sv 67 (i64 (l.length : Int)),sv 68 (i64 t68)],[(dO 0 3 amounts_9),(cw 1 4 left_5),(F3 2 54 out_1)],3⟩
def ab0 (amounts_8 : (List Int)) (left_4 : (List Bool)) (l : (List ay)) (s : (List ay)) : St := match s with | out_2 => ⟨[sv 11 (.row 0 7 0 out_2.length)],[(F3 0 54 out_2)],1⟩
def BC (amounts_8 : (List Int)) (left_4 : (List Bool)) (l : (List ay)) (r : (((List ay)))) (K : KT) : Prop := match r with | s => K (.exit 4) (ab0 amounts_8 left_4 l s)
def ai4 (amounts_9 : (List Int)) (left_5 : (List Bool)) (out_1 l : (List ay)) (t68 : Int) : St := ⟨[sv 3 (.row 0 1 0 amounts_9.length),sv 4 (.row 1 1 0 left_5.length),sv 11 (.row 2 7 0 out_1.length),sv 66 (cO l),sv 67 (i64 (l.length : Int)),sv 68 (i64 t68)],[(dO 0 3 amounts_9),(cw 1 4 left_5),(F3 2 54 out_1)],3⟩
noncomputable def fm (amounts_9 : (List Int)) (left_5 : (List Bool)) (out_1 l : (List ay)) (t68 : Int) : Option (((List Int) × (List Bool) × (List ay) × Int) ⊕ (((List ay)))) := (bif (decide (t68 < (l.length : Int))) then gd (0 ≤ t68 ∧ t68 < (l.length : Int)) (gd (0 ≤ t68 ∧ t68 < (left_5.length : Int)) ((bif (!(left_5.getD (0 + (Int.toNat t68)) false)) then gd (0 ≤ t68 ∧ t68 < (amounts_9.length : Int)) (gd (cL (out_1.length + 1) 56) ((some (Sum.inl (amounts_9,left_5,(out_1 ++ ([(ay.mk (l.getD (Int.toNat t68) cF).State (l.getD (Int.toNat t68) cF).Benefit (l.getD (Int.toNat t68) cF).Currency (l.getD (Int.toNat t68) cF).Independent (l.getD (Int.toNat t68) cF).ProRata (l.getD (Int.toNat t68) cF).Deducted (amounts_9.getD (0 + (Int.toNat t68)) (0 : Int)))] : List ay)),(ak (t68 + 1))))))) else (some (Sum.inl (amounts_9,left_5,out_1,(ak (t68 + 1)))))))) else (some (Sum.inr out_1)))
theorem acB {amounts_9 : (List Int)} {left_5 : (List Bool)} {out_1 l : (List ay)} {t68 : Int} {amounts_8 : (List Int)} {left_4 : (List Bool)} {K : KT} (h : W (fm amounts_9 left_5 out_1 l t68) (nE (ED amounts_8 left_4 l) (BC amounts_8 left_4 l) K)) : ah Tryz.prog 89 (List.drop 0 Xx) K (ai4 amounts_9 left_5 out_1 l t68) :=
  ah.qE mixed [] [3,4,11,66,67,68] 0 4 (.nx (fun K => let a1_ := out_1.length + 1; (bif (decide (t68 < (l.length : Int))) then (0 ≤ t68) ∧ (t68 < (l.length : Int)) ∧ ((0 ≤ t68) ∧ (t68 < (left_5.length : Int)) ∧ ((bif (!(left_5.getD (0 + (Int.toNat t68)) false)) then (0 ≤ t68) ∧ (t68 < (amounts_9.length : Int)) ∧ ((out_1.length = out_1.length) ∧ (a1_ * 56 ≤ 140737488355328) ∧ (a1_ ≤ 140737488355328) ∧ (wK K .normal (⟨[sv 3 (.row 0 1 0 amounts_9.length),sv 4 (.row 1 1 0 left_5.length),sv 11 (.row 2 7 0 a1_),sv 66 (cO l),sv 67 (i64 (l.length : Int)),sv 68 (i64 (ak (t68 + 1)))],[(dO 0 3 amounts_9),(cw 1 4 left_5),(2,some (.row 54 7 a1_ (fun i => bif Nat.blt i out_1.length then (Ru out_1) i else (fun i => (dw 7 (fg (ay.s_Amount (l.getD (Int.toNat t68) cF) (amounts_9.getD (0 + (Int.toNat t68)) (0 : Int))))) (0 + i)) (i - out_1.length))))],3⟩))) else wK K .normal (ED amounts_8 left_4 l (amounts_9,left_5,out_1,(ak (t68 + 1))))))) else wK K (.exit 4) (⟨[sv 3 (.row 0 1 0 amounts_9.length),sv 4 (.row 1 1 0 left_5.length),sv 11 (.row 2 7 0 out_1.length),sv 66 (cO l),sv 67 (i64 (l.length : Int)),sv 68 (i64 t68)],[(dO 0 3 amounts_9),(cw 1 4 left_5),(F3 2 54 out_1)],3⟩))) (al h (fun _ h => (aT h fun _ h => (aT h fun _ h => (al h (fun _ h => (aT h fun _ h => ⟨rfl,(aT h fun _ h => (lf h (.of (.q rfl (.q rfl (.cons rfl (.rown (ce rfl rfl)) (.qs 3 .nil)))) (.same rfl (.same rfl (.row rfl (ai.app .b (ai.zero (ai.l1 (enc := fg) (z := cF) 7 (ay.s_Amount (l.getD (Int.toNat t68) cF) (amounts_9.getD (0 + (Int.toNat t68)) (0 : Int))) rfl))) .nil rfl))) rfl)))⟩)) (fun _ h => (l0 h)))))) (fun _ h => (lf h (.cn [11])))))
noncomputable def eB (amounts_8 : (List Int)) (left_4 : (List Bool)) (l : (List ay)) (s : ((List Int) × (List Bool) × (List ay) × Int)) : Option (((List Int) × (List Bool) × (List ay) × Int) ⊕ (((List ay)))) := match s with | (amounts_9,left_5,out_1,t68) => fm amounts_9 left_5 out_1 l t68
theorem adq (amounts_8 : (List Int)) (left_4 : (List Bool)) (l : (List ay)) (s : ((List Int) × (List Bool) × (List ay) × Int)) : Pp Tryz.prog 89 (List.drop 0 Xx) (ED amounts_8 left_4 l s) (eB amounts_8 left_4 l s) (cq (ED amounts_8 left_4 l) (BC amounts_8 left_4 l)) := fun K h => match s,h with | (amounts_9,left_5,out_1,t68),h => (acB h)
theorem Ra (amounts_8 : (List Int)) (left_4 : (List Bool)) (l : (List ay)) : ∀ (r : (((List ay)))) (J : St → Prop) (K : KT),BC amounts_8 left_4 l r K → BC amounts_8 left_4 l r (aM J K)
  | s,_,_,h => h
def T3 (out_3 : (List ay)) : St := ⟨[sv 11 (.row 0 7 0 out_3.length)],[(F3 0 54 out_3)],1⟩
noncomputable def sr (out_3 : (List ay)) : Option ((List ay)) := (some out_3)
theorem aeL {out_3 : (List ay)} {K : KT} (h : W (sr out_3) (rE yj K)) : ah Tryz.prog 89 (List.drop 10 ij) K (T3 out_3) :=
  ah.qE mixed [] [2] 10 2 (.nx (fun K => wK K .ret (yj out_3)) (l0 h))
def RZ (amounts_8 : (List Int)) (left_4 : (List Bool)) (l : (List ay)) : St := ⟨[sv 3 (.row 0 1 0 amounts_8.length),sv 4 (.row 1 1 0 left_4.length),sv 11 (.c .nil),sv 66 (cO l),sv 67 (i64 (l.length : Int)),sv 68 (i64 0)],[(dO 0 3 amounts_8),(cw 1 4 left_4)],2⟩
noncomputable def pO (amounts_8 : (List Int)) (left_4 : (List Bool)) (l : (List ay)) (r : (((List ay)))) : Option ((List ay)) := match r with | out_2 => (sr out_2)
noncomputable def rQ (amounts_8 : (List Int)) (left_4 : (List Bool)) (l : (List ay)) : Option ((List ay)) := (aN (eB amounts_8 left_4 l) (amounts_8,left_4,([] : List ay),0)).bind (pO amounts_8 left_4 l)
theorem aeM : List.drop 9 ij = .block 4 (.loop (aj (aj (aQ ij 9)))) :: List.drop 10 ij := by kernel_rfl
theorem afW (amounts_8 : (List Int)) (left_4 : (List Bool)) (l : (List ay)) (K : KT) : ∀ r : (((List ay))),W (pO amounts_8 left_4 l r) (rE yj K) → BC amounts_8 left_4 l r (wK (bg 4 (aM (ah Tryz.prog 89 (List.drop 10 ij) K) K)))
  | out_2,h => ⟨(T3 out_2),(.refl _),(aeL h)⟩
theorem Y7 {amounts_8 : (List Int)} {left_4 : (List Bool)} {l : (List ay)} {K : KT} (h : W (rQ amounts_8 left_4 l) (rE yj K)) : ah Tryz.prog 89 (List.drop 9 ij) K (RZ amounts_8 left_4 l) :=
  ah.at_ aeM (ah.cons_loop (aE.weak (aE.ent (.trans (.nilrow 11 2 54 7 (bf fg cF []) (Nat.le_of_ble_eq_true rfl) rfl) (.cn [3,4,11,66,67,68])) (aE.loopF (x := aj (aj (aQ ij 9))) (f := eB amounts_8 left_4 l) (emb := ED amounts_8 left_4 l) (E := BC amounts_8 left_4 l) (adq amounts_8 left_4 l) (Ra amounts_8 left_4 l) (bT h (afW amounts_8 left_4 l K))))))
def Td (l : (List ay)) (amounts_7 : (List Int)) (left_3 : (List Bool)) : St := ⟨[sv 0 (cO l),sv 3 (.row 0 1 0 amounts_7.length),sv 4 (.row 1 1 0 left_3.length)],[(dO 0 3 amounts_7),(cw 1 4 left_3)],2⟩
noncomputable def rJ (l : (List ay)) (amounts_7 : (List Int)) (left_3 : (List Bool)) : Option ((List ay)) := (rQ amounts_7 left_3 l)
theorem Y1 {l : (List ay)} {amounts_7 : (List Int)} {left_3 : (List Bool)} {K : KT} (h : W (rJ l amounts_7 left_3) (rE yj K)) : ah Tryz.prog 89 (List.drop 7 ij) K (Td l amounts_7 left_3) :=
  ah.qD mixed [] [3,4,11,66,67,68] 7 2 9 (.nx (fun K => wK K .normal (RZ amounts_7 left_3 l)) (l0 (Y7 h)))
def SR (l : (List ay)) (amounts_5 : (List Int)) (left : (List Bool)) : St := ⟨[sv 0 (cO l),sv 3 (.row 0 1 0 amounts_5.length),sv 4 (.row 1 1 0 left.length),sv 33 (cO l),sv 34 (i64 (l.length : Int)),sv 35 (i64 0)],[(dO 0 3 amounts_5),(cw 1 4 left)],2⟩
noncomputable def pQ (l : (List ay)) (amounts_5 : (List Int)) (left : (List Bool)) (r : (((List Int) × (List Bool)))) : Option ((List ay)) := match r with | (amounts_6,left_2) => (rJ l amounts_6 left_2)
noncomputable def sj (l : (List ay)) (amounts_5 : (List Int)) (left : (List Bool)) : Option ((List ay)) := (aN (fj l amounts_5 left) (amounts_5,left,0)).bind (pQ l amounts_5 left)
theorem adg : List.drop 6 ij = .block 2 (.loop (aj (aj (aQ ij 6)))) :: List.drop 7 ij := by kernel_rfl
theorem aiy (l : (List ay)) (amounts_5 : (List Int)) (left : (List Bool)) (K : KT) : ∀ r : (((List Int) × (List Bool))),W (pQ l amounts_5 left r) (rE yj K) → AB l amounts_5 left r (wK (bg 2 (aM (ah Tryz.prog 89 (List.drop 7 ij) K) K)))
  | (amounts_6,left_2),h => ⟨(Td l amounts_6 left_2),(.refl _),(Y1 h)⟩
theorem aer {l : (List ay)} {amounts_5 : (List Int)} {left : (List Bool)} {K : KT} (h : W (sj l amounts_5 left) (rE yj K)) : ah Tryz.prog 89 (List.drop 6 ij) K (SR l amounts_5 left) :=
  ah.at_ adg (ah.cons_loop (aE.weak (aE.ent (.refl _) (aE.loopF (x := aj (aj (aQ ij 6))) (f := fj l amounts_5 left) (emb := Et l amounts_5 left) (E := AB l amounts_5 left) (aeW l amounts_5 left) (Qx l amounts_5 left) (bT h (aiy l amounts_5 left K))))))
def T8 (l : (List ay)) (amounts_3 : (List Int)) (left : (List Bool)) : St := ⟨[sv 0 (cO l),sv 3 (.row 0 1 0 amounts_3.length),sv 4 (.row 1 1 0 left.length)],[(dO 0 3 amounts_3),(cw 1 4 left)],2⟩
noncomputable def rY (l : (List ay)) (amounts_3 : (List Int)) (left : (List Bool)) : Option ((List ay)) := (sj l amounts_3 left)
theorem adW {l : (List ay)} {amounts_3 : (List Int)} {left : (List Bool)} {K : KT} (h : W (rY l amounts_3 left) (rE yj K)) : ah Tryz.prog 89 (List.drop 5 ij) K (T8 l amounts_3 left) :=
  ah.qD mixed [] [0,3,4,33,34,35] 5 1 6 (.nx (fun K => wK K .normal (SR l amounts_3 left)) (l0 (aer h)))
def agP (l : (List ay)) (amounts : (List Int)) (left : (List Bool)) : St := ⟨[sv 0 (cO l),sv 3 (.row 0 1 0 amounts.length),sv 4 (.row 1 1 0 left.length),sv 20 (cO l),sv 21 (i64 (l.length : Int)),sv 22 (i64 0)],[(dO 0 3 amounts),(cw 1 4 left)],2⟩
noncomputable def pY (l : (List ay)) (amounts : (List Int)) (left : (List Bool)) (r : (((List Int)))) : Option ((List ay)) := match r with | amounts_2 => (rY l amounts_2 left)
noncomputable def sh (l : (List ay)) (amounts : (List Int)) (left : (List Bool)) : Option ((List ay)) := (aN (fq l amounts left) (amounts,0)).bind (pY l amounts left)
theorem ae6 : List.drop 4 ij = .block 0 (.loop (aj (aj (aQ ij 4)))) :: List.drop 5 ij := by kernel_rfl
theorem agm (l : (List ay)) (amounts : (List Int)) (left : (List Bool)) (K : KT) : ∀ r : (((List Int))),W (pY l amounts left r) (rE yj K) → BO l amounts left r (wK (bg 0 (aM (ah Tryz.prog 89 (List.drop 5 ij) K) K)))
  | amounts_2,h => ⟨(T8 l amounts_2 left),(.refl _),(adW h)⟩
theorem aan {l : (List ay)} {amounts : (List Int)} {left : (List Bool)} {K : KT} (h : W (sh l amounts left) (rE yj K)) : ah Tryz.prog 89 (List.drop 4 ij) K (agP l amounts left) :=
  ah.at_ ae6 (ah.cons_loop (aE.weak (aE.ent (.refl _) (aE.loopF (x := aj (aj (aQ ij 4))) (f := fq l amounts left) (emb := IT l amounts left) (E := BO l amounts left) (acR l amounts left) (Qf l amounts left) (bT h (agm l amounts left K))))))
def aja (l : (List ay)) : St := ⟨[sv 0 (cO l)],[],0⟩
noncomputable def jS (l : (List ay)) : Option ((List ay)) := gd (0 ≤ (l.length : Int) ∧ (l.length : Int) ≤ (l.length : Int) ∧ (l.length : Int) * 8 ≤ (140737488355328 : Int)) (gd (0 ≤ (l.length : Int) ∧ (l.length : Int) ≤ (l.length : Int) ∧ (l.length : Int) * 1 ≤ (140737488355328 : Int)) ((sh l (List.replicate l.length (0 : Int)) (List.replicate l.length false))))
theorem aaO {l : (List ay)} {K : KT} (h : W (jS l) (rE yj K)) : ah Tryz.prog 89 (List.drop 0 ij) K (aja l) :=
  ah.qD mixed [] [0,3,4,20,21,22] 0 4 4 (.nx (fun K => let a1_ := (l.length : Int) ≤ (l.length : Int); (0 ≤ (l.length : Int)) ∧ a1_ ∧ ((l.length : Int) * 8 ≤ (140737488355328 : Int)) ∧ ((0 ≤ (l.length : Int)) ∧ a1_ ∧ ((l.length : Int) * 1 ≤ (140737488355328 : Int)) ∧ (wK K .normal (⟨[sv 0 (cO l),sv 3 (.row 0 1 0 l.length),sv 4 (.row 1 1 0 l.length),sv 20 (cO l),sv 21 (i64 (l.length : Int)),sv 22 (i64 0)],[(0,some (.row 3 1 l.length (fun _ => [(di 0)]))),(1,some (.row 4 1 l.length (fun _ => [(db false)])))],2⟩)))) (pl h fun _ h => (pl h fun _ h => (lf (aan h) (.of (.q rfl (.cons rfl (.rown Pw) (.cons rfl (.rown Pw) (.qs 3 .nil)))) (.row rfl (ai.rep 0 rfl l.length) (.row rfl (ai.rep false rfl l.length) .nil rfl) rfl) rfl)))))
noncomputable def lC (l : (List ay)) : Option ((List ay)) := jS l
noncomputable def sy : bW := fO ajX lC ([] : List ay) zJ
theorem AM : Meets Tryz.prog 17 sy := dq Tryz.f17 (ar Tryz.f17) [.tmp 2] 89 fun u0 y h => @aaO u0 _ (bi.2 ⟨y,h,(cH (.row 0 7 0 y.length) (⟨_,_,_,rfl,rfl,rfl,fun _ _ => rfl,fun _ i hi d hd => UL _ d hd⟩))⟩)
noncomputable abbrev e17 : FE Tryz.prog := ⟨17, .pure sy,AM⟩
noncomputable def ahp : List Code := aD (ar Tryz.f9)
def IC (x_1 : Bool) : bS := .data (bl x_1)
def z9R (x_1 : Bool) : St := ⟨[sv 0 (bl x_1)],[],0⟩
def XW : St := ⟨[],[],0⟩
noncomputable def pD : Option (Bool) := (cE ([(af.mk 1 1 100),(af.mk 2 2 0),(af.mk 3 2 0)] : List af)).bind fun r_1 => ((et 11 ([(af.mk 1 1 100),(af.mk 2 2 0),(af.mk 3 2 0)] : List af)).bind fun r_2 => ((lC ([(ay.mk 1 2 1 0 0 0 50),(ay.mk 1 1 1 0 0 0 40)] : List ay)).bind fun r_3 => (gd (((bif (r_1.2 == 0) then ((r_1.1.length : Int) == 3) else false) && true) = true → 0 ≤ (0 : Int)) (gd (((bif (r_1.2 == 0) then ((r_1.1.length : Int) == 3) else false) && true) = true → (0 : Int) < (r_1.1.length : Int)) (gd (((bif (bif (bif (bif (r_1.2 == 0) then ((r_1.1.length : Int) == 3) else false) then (((r_1.1.getD 0 bd).Num == 3) && (((r_1.1.getD 0 bd).Den == 5) && true)) else false) then (r_2.2 == 0) else false) then ((r_2.1.length : Int) == 3) else false) && true) = true → 0 ≤ (0 : Int)) (gd (((bif (bif (bif (bif (r_1.2 == 0) then ((r_1.1.length : Int) == 3) else false) then (((r_1.1.getD 0 bd).Num == 3) && (((r_1.1.getD 0 bd).Den == 5) && true)) else false) then (r_2.2 == 0) else false) then ((r_2.1.length : Int) == 3) else false) && true) = true → (0 : Int) < (r_2.1.length : Int)) (gd (((bif (bif (bif (bif (r_1.2 == 0) then ((r_1.1.length : Int) == 3) else false) then (((r_1.1.getD 0 bd).Num == 3) && (((r_1.1.getD 0 bd).Den == 5) && true)) else false) then (r_2.2 == 0) else false) then ((r_2.1.length : Int) == 3) else false) && true) = true → 0 ≤ (1 : Int)) (gd (((bif (bif (bif (bif (r_1.2 == 0) then ((r_1.1.length : Int) == 3) else false) then (((r_1.1.getD 0 bd).Num == 3) && (((r_1.1.getD 0 bd).Den == 5) && true)) else false) then (r_2.2 == 0) else false) then ((r_2.1.length : Int) == 3) else false) && true) = true → (1 : Int) < (r_2.1.length : Int)) (gd (((bif (bif (bif (bif (r_1.2 == 0) then ((r_1.1.length : Int) == 3) else false) then (((r_1.1.getD 0 bd).Num == 3) && (((r_1.1.getD 0 bd).Den == 5) && true)) else false) then (r_2.2 == 0) else false) then ((r_2.1.length : Int) == 3) else false) && true) = true → 0 ≤ (2 : Int)) (gd (((bif (bif (bif (bif (r_1.2 == 0) then ((r_1.1.length : Int) == 3) else false) then (((r_1.1.getD 0 bd).Num == 3) && (((r_1.1.getD 0 bd).Den == 5) && true)) else false) then (r_2.2 == 0) else false) then ((r_2.1.length : Int) == 3) else false) && true) = true → (2 : Int) < (r_2.1.length : Int)) (gd (((bif (bif (bif (bif (bif (bif (r_1.2 == 0) then ((r_1.1.length : Int) == 3) else false) then (((r_1.1.getD 0 bd).Num == 3) && (((r_1.1.getD 0 bd).Den == 5) && true)) else false) then (r_2.2 == 0) else false) then ((r_2.1.length : Int) == 3) else false) then ((ak ((ak ((r_2.1.getD 0 dB).Amount + (r_2.1.getD 1 dB).Amount)) + (r_2.1.getD 2 dB).Amount)) == 11) else false) then ((r_3.length : Int) == 1) else false) && true) = true → 0 ≤ (0 : Int)) (gd (((bif (bif (bif (bif (bif (bif (r_1.2 == 0) then ((r_1.1.length : Int) == 3) else false) then (((r_1.1.getD 0 bd).Num == 3) && (((r_1.1.getD 0 bd).Den == 5) && true)) else false) then (r_2.2 == 0) else false) then ((r_2.1.length : Int) == 3) else false) then ((ak ((ak ((r_2.1.getD 0 dB).Amount + (r_2.1.getD 1 dB).Amount)) + (r_2.1.getD 2 dB).Amount)) == 11) else false) then ((r_3.length : Int) == 1) else false) && true) = true → (0 : Int) < (r_3.length : Int)) ((some (bif (bif (bif (bif (bif (bif (bif (r_1.2 == 0) then ((r_1.1.length : Int) == 3) else false) then (((r_1.1.getD 0 bd).Num == 3) && (((r_1.1.getD 0 bd).Den == 5) && true)) else false) then (r_2.2 == 0) else false) then ((r_2.1.length : Int) == 3) else false) then ((ak ((ak ((r_2.1.getD 0 dB).Amount + (r_2.1.getD 1 dB).Amount)) + (r_2.1.getD 2 dB).Amount)) == 11) else false) then ((r_3.length : Int) == 1) else false) then ((r_3.getD 0 cF).Amount == 50) else false)))))))))))))))
theorem agd (K : KT) {L1_ : List af} (hL1_ : lst iG 3 (fun i => (fun i => (List.take 3 (List.drop (i * 3) (bp (af.mk 1 1 100) ++ bp (af.mk 2 2 0) ++ bp (af.mk 3 2 0))))) (0 + i)) = L1_) {L2_ : List af} (hL2_ : lst iG 3 (fun i => (fun i => (List.take 3 (List.drop (i * 3) (bp (af.mk 1 1 100) ++ bp (af.mk 2 2 0) ++ bp (af.mk 3 2 0))))) (0 + i)) = L2_) {L3_ : List ay} (hL3_ : lst jQ 2 (fun i => (fun i => (List.take 7 (List.drop (i * 7) (fg (ay.mk 1 2 1 0 0 0 50) ++ fg (ay.mk 1 1 1 0 0 0 40))))) (0 + i)) = L3_) :
    ev Tryz.prog (cy [XA,e16,e17]) 77 (ofItems ((List.drop 0 ahp).take 7)) (cN [0] K) (XW) =
    (let a4_ := ((((et 11 L2_).getD ([],0)).1).length : Int); let a1_ := bif (bif (bif (bif (((cE L1_).getD ([],0)).2 == 0) then (((((cE L1_).getD ([],0)).1).length : Int) == 3) else false) then ((((((cE L1_).getD ([],0)).1).getD 0 bd).Num == 3) && ((((((cE L1_).getD ([],0)).1).getD 0 bd).Den == 5) && true)) else false) then (((et 11 L2_).getD ([],0)).2 == 0) else false) then (a4_ == 3) else false; let a6_ := lC L3_; let a2_ := bif (bif a1_ then ((ak ((ak (((((et 11 L2_).getD ([],0)).1).getD 0 dB).Amount + ((((et 11 L2_).getD ([],0)).1).getD 1 dB).Amount)) + ((((et 11 L2_).getD ([],0)).1).getD 2 dB).Amount)) == 11) else false) then ((((a6_.getD [])).length : Int) == 1) else false; let a3_ := (bif (((cE L1_).getD ([],0)).2 == 0) then (((((cE L1_).getD ([],0)).1).length : Int) == 3) else false) && true; let a5_ := bp (af.mk 1 1 100) ++ bp (af.mk 2 2 0) ++ bp (af.mk 3 2 0); (bk bp iG 3 3 3 (fun i => (fun i => (List.take 3 (List.drop (i * 3) a5_))) (0 + i))) ∧ ((cE L1_).isSome = true) ∧ ((bk bp iG 3 3 3 (fun i => (fun i => (List.take 3 (List.drop (i * 3) a5_))) (0 + i))) ∧ ((et 11 L2_).isSome = true) ∧ ((bk fg jQ 7 7 2 (fun i => (fun i => (List.take 7 (List.drop (i * 7) (fg (ay.mk 1 2 1 0 0 0 50) ++ fg (ay.mk 1 1 1 0 0 0 40))))) (0 + i))) ∧ (a6_.isSome = true) ∧ ((a3_ = true → 0 ≤ (0 : Int)) ∧ (a3_ = true → (0 : Int) < ((((cE L1_).getD ([],0)).1).length : Int)) ∧ ((a1_ && true) = true → 0 ≤ (0 : Int)) ∧ ((a1_ && true) = true → (0 : Int) < a4_) ∧ ((a1_ && true) = true → 0 ≤ (1 : Int)) ∧ ((a1_ && true) = true → (1 : Int) < a4_) ∧ ((a1_ && true) = true → 0 ≤ (2 : Int)) ∧ ((a1_ && true) = true → (2 : Int) < a4_) ∧ ((a2_ && true) = true → 0 ≤ (0 : Int)) ∧ ((a2_ && true) = true → (0 : Int) < (((a6_.getD [])).length : Int)) ∧ (wK K .ret (z9R (bif a2_ then (((a6_.getD []).getD 0 cF).Amount == 50) else false))))))) := by subst hL1_ hL2_ hL3_; kernel_rfl
theorem ah7 {K : KT} (h : W (pD) (rE z9R K)) : ah Tryz.prog 77 (List.drop 0 ahp) K (XW) :=
  ah.qE mixed [XA,e16,e17] [0] 0 7 (.of (agd _ (lr cA (ai.zero (ai.lits (el := (fun i => (List.take 3 (List.drop (i * 3) (bp (af.mk 1 1 100) ++ bp (af.mk 2 2 0) ++ bp (af.mk 3 2 0)))))) (z := bq) (l := ([(af.mk 1 1 100),(af.mk 2 2 0),(af.mk 3 2 0)] : List af)) ⟨rfl,rfl,rfl,trivial⟩))) (lr cA (ai.zero (ai.lits (el := (fun i => (List.take 3 (List.drop (i * 3) (bp (af.mk 1 1 100) ++ bp (af.mk 2 2 0) ++ bp (af.mk 3 2 0)))))) (z := bq) (l := ([(af.mk 1 1 100),(af.mk 2 2 0),(af.mk 3 2 0)] : List af)) ⟨rfl,rfl,rfl,trivial⟩))) (lr oe (ai.zero (ai.lits (el := (fun i => (List.take 7 (List.drop (i * 7) (fg (ay.mk 1 2 1 0 0 0 50) ++ fg (ay.mk 1 1 1 0 0 0 40)))))) (z := cF) (l := ([(ay.mk 1 2 1 0 0 0 50),(ay.mk 1 1 1 0 0 0 40)] : List ay)) ⟨rfl,rfl,trivial⟩)))) (⟨ai.ok cA (ai.zero (ai.lits (el := (fun i => (List.take 3 (List.drop (i * 3) (bp (af.mk 1 1 100) ++ bp (af.mk 2 2 0) ++ bp (af.mk 3 2 0)))))) (z := bq) (l := ([(af.mk 1 1 100),(af.mk 2 2 0),(af.mk 3 2 0)] : List af)) ⟨rfl,rfl,rfl,trivial⟩)),(aq ([],0) h fun _ h => ⟨ai.ok cA (ai.zero (ai.lits (el := (fun i => (List.take 3 (List.drop (i * 3) (bp (af.mk 1 1 100) ++ bp (af.mk 2 2 0) ++ bp (af.mk 3 2 0)))))) (z := bq) (l := ([(af.mk 1 1 100),(af.mk 2 2 0),(af.mk 3 2 0)] : List af)) ⟨rfl,rfl,rfl,trivial⟩)),(aq ([],0) h fun _ h => ⟨ai.ok oe (ai.zero (ai.lits (el := (fun i => (List.take 7 (List.drop (i * 7) (fg (ay.mk 1 2 1 0 0 0 50) ++ fg (ay.mk 1 1 1 0 0 0 40)))))) (z := cF) (l := ([(ay.mk 1 2 1 0 0 0 50),(ay.mk 1 1 1 0 0 0 40)] : List ay)) ⟨rfl,rfl,trivial⟩)),(aq [] h fun _ h => (bF h fun _ h => (bF h fun _ h => (bF h fun _ h => (bF h fun _ h => (bF h fun _ h => (bF h fun _ h => (bF h fun _ h => (bF h fun _ h => (bF h fun _ h => (bF h fun _ h => (l0 h))))))))))))⟩)⟩)⟩))
noncomputable def qm : Option (Bool) := pD
noncomputable def DS : bW := VY qm false IC
theorem JW : Meets Tryz.prog 9 DS := afV Tryz.f9 (ar Tryz.f9) [.tmp 0] 77 fun y h => @ah7 _ (bi.2 ⟨y,h,(cH (bl y) (VLe.rfl' _))⟩)
noncomputable abbrev e9 : FE Tryz.prog := ⟨9, .pure DS,JW⟩
end Go.Ax
