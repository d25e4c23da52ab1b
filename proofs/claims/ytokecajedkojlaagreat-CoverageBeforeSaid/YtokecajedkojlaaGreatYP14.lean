import Derived.Test.YtokecajedkojlaaGreatYP12
set_option linter.all false
/- Versions that are made: their making ends; their credits are few and small. -/
set_option maxRecDepth 100000
namespace Go.Ax
theorem IH (l:List Int):(mw l).size = l.length:=by
  unfold mw
  simp [ByteArray.size]
def gZ (n:Nat) (l:List ByteArray):Prop:=l.length≤n∧∀ b∈l,b.size≤100
theorem gZ.snoc {n:Nat} {l:List ByteArray} {b:ByteArray} (h:gZ n l) (hb:b.size≤100):gZ (n+1) (l++[b]) :=
  ⟨by rw [List.length_append,List.length_singleton]; have:=h.1; omega,fun c hc=>(List.mem_append.1 hc).elim (h.2 c) fun hc=>by rw [List.mem_singleton.1 hc]; exact hb⟩
theorem gZ.getD {n:Nat} {l:List ByteArray} (h:gZ n l) (i:Nat):(gD l i (ab [])).size≤100:=by
  show (l.getD i (ab [])).size≤100
  rw [List.getD_eq_getElem?_getD]
  cases e:l[i]? with
  | none=>exact Nat.zero_le 100
  | some b=>exact h.2 b (List.mem_of_getElem? e)
theorem Nj (s:ByteArray):En (fun _=>True) (tS s):=by
  rw [Fh]
  try simp only [yk]
  try simp only [wa]
  repeat' first | exact .some trivial | refine En.bif (fun _=>?_) (fun _=>?_)
theorem MW:En (gZ 11) uf:=by
  rw [Fb]
  refine .some ⟨Nat.le_refl 11, ?_⟩
  simp only [List.mem_cons,List.not_mem_nil,or_false,forall_eq_or_imp,forall_eq,ap]
  decide
theorem Oe (dim:Int):En (gZ 11) (sd dim):=by
  rw [BW]
  refine .bind MW fun l hl=>?_
  have hll:=hl.1
  have key:∀ (k:Nat) (i:Int) (out:List ByteArray),(l.length:Int) - i≤k→0≤i→i≤(l.length:Int)→gZ i.toNat out→En (gZ 11) (fx dim i l out):=by
    intro k
    induction k with
    | zero =>
      intro i out hk h0 h1 ho
      rw [mP]
      exact En.ifd (fun h=>by omega) fun _=>.some ⟨by have:=ho.1; omega,ho.2⟩
    | succ k ih =>
      intro i out hk h0 h1 ho
      have hol:=ho.1
      rw [mP]
      refine En.ifd (fun h=>?_) fun _=>.some ⟨by omega,ho.2⟩
      rw [ak (n:=i+1) (by omega) (by omega)]
      refine En.gd h0 (En.gd h (.bind (Nj _) fun r _=>En.bif (fun _=>En.gd h0 (En.gd h (En.gd (by omega) (En.gd (by omega) (ih _ _ (by omega) (by omega) (by omega) ?_))))) fun _=>ih _ _ (by omega) (by omega) (by omega) ⟨by omega,ho.2⟩))
      rw [show (i+1).toNat = i.toNat+1 by omega]
      exact ho.snoc (hl.getD _)
  exact key _ 0 [] (Int.self_le_toNat _) (by omega) (by omega) ⟨by simp,fun b hb=>by simp at hb⟩
abbrev fE:=GPensionmade_source
def fJ (A:Nat) (s:fE):Prop:=0≤s.at_∧s.at_≤(A:Int)
theorem fJ.mono {A B:Nat} {s:fE} (h:fJ A s) (hb:A≤B):fJ B s:=⟨h.1,by have:=h.2; omega⟩
theorem nK {α:Type} {Q:α→Prop} {A:Nat} {s:fE} {k:Int} {f:Int × fE→Option α} (hs:fJ A s) (hA:A≤100000) (hk:1≤k∧k≤10000) (h:∀ y:Int × fE,0≤y.1→y.1 < k→fJ (A+1) y.2→En Q (f y)):En Q ((bf k s).bind f):=by
  have hp:∀ n,En (fun y:Int × fE=>0≤y.1∧y.1 < k∧fJ (A+1) y.2) (eY k n s):=by
    intro n
    rw [q8]
    obtain ⟨h1,h2⟩:=hs
    refine nE (by omega) fun y hy1 hy2=>.some ⟨hy1,hy2, ?_, ?_⟩
    · show 0≤ac (s.at_+1); rw [ak (by omega) (by omega)]; omega
    · show ac (s.at_+1)≤_; rw [ak (by omega) (by omega)]; omega
  refine .bind (R:=fun y:Int × fE=>0≤y.1∧y.1 < k∧fJ (A+1) y.2) ?_ fun y hy=>h y hy.1 hy.2.1 hy.2.2
  rw [vM]
  exact En.ifd (fun hc=>En.gd hs.1 (En.gd hc (hp _))) fun _=>hp _
theorem MB {A:Nat} (s:fE) (hs:fJ A s) (hA:A≤99990):En (fun y=>fJ (A+2) y.2) (jL s):=by
  rw [tq]
  refine nK hs (by omega) (by omega) fun y h1 h2 h3=>nK h3 (by omega) (by omega) fun z h4 h5 h6=>En.gd h4 (En.gd h5 ?_)
  have hd:0 < gD ([1,1,1,10,4,1000,10000]:List Int) z.1.toNat (0:Int)∧gD ([1,1,1,10,4,1000,10000]:List Int) z.1.toNat (0:Int)≤10000:=by
    have h:z.1 = 0∨z.1 = 1∨z.1 = 2∨z.1 = 3∨z.1 = 4∨z.1 = 5∨z.1 = 6:=by omega
    rcases h with h | h | h | h | h | h | h <;> rw [h] <;> decide
  exact .bind (jG _ _ (by omega) (by omega) (by omega) (by omega)) fun w hw=>.some h6
def lS (n:Nat) (env:List GBinding):Prop:=env.length≤n∧∀ b∈env,b.Name.size≤100
def Mk (A:Nat) (env:List GBinding) (y:GExpr × fE × List GBinding):Prop:=mS y.1∧fJ A y.2.1∧y.2.2 = env
theorem Mk.mono {A B:Nat} {env:List GBinding} {y:GExpr × fE × List GBinding} (h:Mk A env y) (hb:A≤B):Mk B env y:=⟨h.1,h.2.1.mono hb,h.2.2⟩
section
variable {env:List GBinding} (he:lS 5 env)
include he
theorem Dt {A:Nat} {s:fE} (dim:Int) (hs:fJ A s) (hA:A≤90000) (hd:dim≠1):En (Mk (A+4) env) (be dim s env):=by
  rw [mI,rO.2 hd,cond_false]
  refine .bind (Oe dim) fun l hl=>?_
  have hel:=he.1
  have key:∀ (k:Nat) (i:Int) (names:List ByteArray) (s:fE) (o:Int) (v:GFraction) (d:Int) (nm:ByteArray),fJ A s→(env.length:Int) - i≤k→0≤i→i≤(env.length:Int)→gZ (11+i.toNat) names→En (Mk (A+4) env) (cx dim i s env o v d nm names):=by
    intro k
    have fin:∀ (i:Int) (names:List ByteArray) (s:fE) (o:Int) (v:GFraction) (d:Int) (nm:ByteArray),fJ A s→¬ i < (env.length:Int)→gZ 16 names→En (Mk (A+4) env) (cx dim i s env o v d nm names):=by
      intro i names s o v d nm hs h hn
      have hnl:=hn.1
      rw [j9]
      refine En.ifd (fun e=>absurd e h) fun _=>?_
      rw [ak (n:=(names.length:Int)+3) (by omega) (by omega)]
      refine nK hs (by omega) (by omega) fun y h1 h2 h3=>En.ifd (fun h4=>En.gd h1 (En.gd h4 (.some ⟨.of (by have:=hn.getD y.1.toNat; omega) (by simp) (fun a ha=>by simp at ha),h3.mono (by omega),rfl⟩))) fun _=>En.bif (fun _=>?_) fun _=>?_
      · exact nK h3 (by omega) (by omega) fun z h5 h6 h7=>.some ⟨.of dP (by simp) (fun a ha=>by simp at ha),h7.mono (by omega),rfl⟩
      · exact .bind (MB _ h3 (by omega)) fun z hz=>.some ⟨.of dP (by simp) (fun a ha=>by simp at ha),hz.mono (by omega),rfl⟩
    induction k with
    | zero=>intro i names s o v d nm hs hk h0 h1 hn; exact fin _ _ _ _ _ _ _ hs (by omega) ⟨by have:=hn.1; omega,hn.2⟩
    | succ k ih =>
      intro i names s o v d nm hs hk h0 h1 hn
      have hnl:=hn.1
      by_cases h:i < (env.length:Int)
      · rw [j9,ak (n:=i+1) (by omega) (by omega)]
        refine En.ifd (fun _=>En.gd h0 (En.gd h (En.bif (fun _=>En.gd h0 (En.gd h (En.gd (by omega) (En.gd (by omega) (ih _ _ _ _ _ _ _ hs (by omega) (by omega) (by omega) ?_))))) fun _=>ih _ _ _ _ _ _ _ hs (by omega) (by omega) (by omega) ⟨by omega,hn.2⟩))) fun e=>absurd h e
        rw [show 11+(i+1).toNat = 11+i.toNat+1 by omega]
        exact hn.snoc (he.2 _ (hU (z:=zS .GBinding) h0 h))
      · exact fin _ _ _ _ _ _ _ hs h ⟨by omega,hn.2⟩
  exact key _ 0 l _ _ _ _ _ hs (Int.self_le_toNat _) (by omega) (by omega) ⟨by simpa using hl.1,hl.2⟩
theorem Lq {A:Nat} {s:fE} (dim:Int) (hs:fJ A s) (hA:A≤80000):En (Mk (A+10) env) (be dim s env):=by
  by_cases hd:dim = 1
  · rw [mI,fe.2 hd,cond_true]
    refine nK (A:=A) hs (by omega) (by omega) fun y h1 h2 h3=>nK h3 (by omega) (by omega) fun z h4 h5 h6=>?_
    rw [ak (n:=2+y.1) (by omega) (by omega)]
    refine .bind (Dt he _ h6 (by omega) (by omega)) fun a ha=>?_
    obtain ⟨a1,a2,a3⟩:=ha
    rw [a3]
    refine .bind (Dt he _ a2 (by omega) (by omega)) fun b hb=>?_
    obtain ⟨b1,b2,b3⟩:=hb
    refine .some ⟨.of dP (by simp) fun x hx=>?_,b2.mono (by omega),b3⟩
    rw [aP,aP] at hx
    simp at hx
    rcases hx with rfl | rfl
    · exact a1
    · exact b1
  · exact (Dt he dim hs (by omega) hd).weak fun y hy=>hy.mono (by omega)
theorem Nu {A Z:Nat} {s:fE} {dim:Int} (hs:fJ A s) (hA:A≤80000) (hZ:A+10≤Z):En (Mk Z env) ((be dim s env).bind fun r=>some ((⟨r.1.Op,r.1.Value,r.1.Dim,r.1.Name,r.1.Args⟩:GExpr),r.2.1,r.2.2)) :=
  .bind (Lq he dim hs hA) fun y hy=>.some (by rw [aP]; exact hy.mono hZ)
omit he in
theorem OB {deep:Int} {d B:Nat} (hI:∀ (A:Nat) (s:fE) (dim:Int),fJ A s→A≤B→En (Mk (A+d) env) (dR dim (ac (deep+1)) s env)) {A:Nat} {s:fE} (op:Int) (dims:List Int) (hs:fJ A s) (hA:A+2*d≤B) (hd:dims.length≤3):En (Mk (A+3*d) env) (aM op deep dims s env):=by
  rw [vN]
  have key:∀ (k:Nat) (i:Nat) (s:fE) (args:List GExpr) (o:Int) (v:GFraction) (dm:Int) (nm:ByteArray),dims.length = i+k→fJ (A+i*d) s→args.length≤i→(∀ a∈args,mS a)→En (Mk (A+3*d) env) (eU deep dims (i:Int) s env o v dm nm op ⟨0,0⟩ 0 (ab []) args):=by
    intro k
    induction k with
    | zero =>
      intro i s args o v dm nm hi hs ha hx
      rw [kK]
      have:i*d≤3*d:=Nat.mul_le_mul_right _ (by omega)
      exact En.ifd (fun h=>by omega) fun _=>.some ⟨.of dP (by omega) hx,hs.mono (by omega),rfl⟩
    | succ k ih =>
      intro i s args o v dm nm hi hs ha hx
      have:i*d+d≤3*d:=by rw [← Nat.succ_mul]; exact Nat.mul_le_mul_right _ (by omega)
      have:i*d≤2*d:=Nat.mul_le_mul_right _ (by omega)
      rw [kK]
      refine En.ifd (fun h=>?_) fun h=>by omega
      rw [tD (by omega)]
      refine En.gd (by omega) (En.gd h (.bind (hI _ _ _ hs (by omega)) fun y hy=>En.gd (by omega) (En.gd (by omega) ?_)))
      obtain ⟨y1,y2,y3⟩:=hy
      rw [y3,aP]
      refine ih (i+1) _ _ _ _ _ _ (by omega) (y2.mono (by rw [Nat.succ_mul]; omega)) (by simp; omega) fun a h=>?_
      rcases List.mem_append.1 h with h | h
      · exact hx a h
      · rw [List.mem_singleton.1 h]; exact y1
  exact key dims.length 0 s [] _ _ _ _ (by omega) (by simpa using hs) (by simp) fun a h=>by simp at h
def gN:Nat→Nat
  | 0=>10
  | k+1=>3*gN k+14
omit he in
theorem Nm (k:Nat):10≤gN k:=by cases k <;> simp [gN] <;> omega
theorem Ov:∀ (k:Nat) (deep:Int),1≤deep→deep+k = 6→∀ (A:Nat) (s:fE) (dim:Int),fJ A s→A+gN k≤60000→En (Mk (A+gN k) env) (dR dim deep s env):=by
  intro k
  induction k with
  | zero =>
    intro deep h1 h6 A s dim hs hA
    rw [mO,bY (p:=6≤deep) (by omega),cond_true,cond_true]
    exact Nu he hs (by omega) (Nat.le_refl _)
  | succ k ih =>
    intro deep h1 h6 A s dim hs hA
    have hD:gN (k+1) = 3*gN k+14:=rfl
    have hg:=Nm k
    rw [mO]
    refine En.bif (fun _=>Nu he hs (by omega) (by omega)) fun _=>?_
    refine nK (A:=A) hs (by omega) (by omega) fun r r1 r2 r3=>?_
    have hI:∀ (A':Nat) (s:fE) (dim:Int),fJ A' s→A'≤A+gN (k+1) - gN k→En (Mk (A'+gN k) env) (dR dim (ac (deep+1)) s env):=by
      intro A' s dim hs hA'
      rw [ak (by omega) (by omega)]
      exact ih _ (by omega) (by omega) _ _ _ hs (by omega)
    have nodeB:∀ {A':Nat} {s:fE} (op:Int) (dims:List Int),fJ A' s→A'≤A+8→dims.length≤3→En (Mk (A+gN (k+1)) env) ((aM op deep dims s env).bind fun r=>some ((⟨r.1.Op,r.1.Value,r.1.Dim,r.1.Name,r.1.Args⟩:GExpr),r.2.1,r.2.2)):=fun op dims hs hA' hd =>
      .bind (OB hI op dims hs (by omega) hd) fun y hy=>.some (by rw [aP]; exact hy.mono (by omega))
    have lf:∀ {A':Nat} {s:fE} (dim:Int),fJ A' s→A'≤A+8→En (Mk (A+gN (k+1)) env) ((be dim s env).bind fun r=>some ((⟨r.1.Op,r.1.Value,r.1.Dim,r.1.Name,r.1.Args⟩:GExpr),r.2.1,r.2.2)):=fun dim hs hA'=>Nu he hs (by omega) (by omega)
    have p256:∀ b,En (Mk (A+gN (k+1)) env) (bm dim deep b r.2 env 0 ⟨0,0⟩ 0 (ab [])):=by
      intro b
      rw [oF]
      exact En.bif (fun _=>nK r3 (by omega) (by omega) fun y h1 h2 h3=>nK h3 (by omega) (by omega) fun z h4 h5 h6=>nodeB _ _ h6 (by omega) (by simp)) fun _=>lf _ r3 (by omega)
    have p4005:∀ b,En (Mk (A+gN (k+1)) env) (ef dim deep r.1 r.1 b r.2 env 0 ⟨0,0⟩ 0 (ab [])):=by
      intro b
      rw [pm]
      repeat' first
        | exact p256 _
        | exact nodeB _ _ r3 (by omega) (by simp)
        | refine En.bif (fun _=>?_) (fun _=>?_)
    have p1013:∀ b,(b = true→r.1 < 4)→En (Mk (A+gN (k+1)) env) (cf dim deep r.1 r.1 b r.2 env 0 ⟨0,0⟩ 0 (ab [])):=by
      intro b hb
      rw [pE]
      refine En.bif (fun h=>En.gd r1 (En.gd (hb h) (nodeB _ _ r3 (by omega) (by simp)))) fun _=>?_
      repeat' first
        | exact nodeB _ _ r3 (by omega) (by simp)
        | exact lf _ r3 (by omega)
        | exact nK r3 (by omega) (by omega) fun y h1 h2 h3=>nodeB _ _ h3 (by omega) (by simp)
        | refine En.bif (fun _=>?_) (fun _=>?_)
    refine En.bif (fun _=>En.bif (fun _=>p4005 _) fun _=>p4005 _) fun _=>?_
    refine En.bif (fun _=>p1013 _ fun h=>by have:=fe.1 h; omega) fun _=>En.bif (fun _=>p1013 _ fun h=>by have:=fe.1 h; omega) fun _=>En.bif (fun _=>p1013 _ fun h=>by have:=fe.1 h; omega) fun _=>p1013 _ fun h=>by have:=fe.1 h; omega
theorem uX (l:List Int) (dim:Int):En (fun y=>y.2 = env) (ly l dim env):=by
  rw [GS]
  refine .bind (Ov he 5 1 (by omega) (by omega) 0 ⟨l,0,24⟩ dim ⟨Int.le_refl _,Int.le_refl _⟩ (by decide)) fun y hy=>?_
  obtain ⟨y1,y2,y3⟩:=hy
  rw [aP,y3]
  refine .bind (j7 y1) fun b _=>En.not (fun _=>?_) fun _=>.some rfl
  exact .bind (Lq he (A:=20000) dim (by exact ⟨y2.1,by have:=y2.2; have e:gN 5 = 4124:=rfl; rw [e] at this; show y.2.1.at_≤_; omega⟩) (by omega)) fun z hz=>.some hz.2.2
end
end Go.Ax
