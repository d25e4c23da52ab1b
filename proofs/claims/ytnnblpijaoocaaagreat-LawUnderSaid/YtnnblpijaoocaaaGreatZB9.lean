import Derived.Test.YtnnblpijaoocaaaGreatZB8
set_option linter.all false
/- Functions meet the contracts that their evaluation gives. -/
namespace Go.Ax
open Go.RowKit
structure BF (P:Program) (fi:FI):Prop where
  hf:P.funcs[fi.fid]? = some fi.fn
  hb:fi.fn.body = some fi.c
  hn:(fi.fn.name == "runtime.NumGoroutine") = false
structure w9 (Tb:iy):Prop where
  mixed:Tb.P.follows .mixedOrders = true
  fis:∀ f l,cB Tb.fs f = some l→∀ fi∈l,fi.fid = f∧BF Tb.P fi
  sp:∀ X:XT,(∀ f l,cB Tb.fs f = some l→aN Tb.P f (eA Tb X f))→∀ f,cB Tb.fs f = none→aN Tb.P f (eA Tb X f)
section
variable (Tb:iy) (fi:FI)
abbrev RX:=HP fi.out.tys
abbrev Xn (m:Nat):XT:=fun fi a=>Jn Tb m fi 1 fi.ins a
abbrev KF:=Nat→KX (RX fi)
abbrev xn (m:Nat):Code→Nat→KX (RX fi)→St→Option (RX fi):=xe Tb (Xn Tb m) fi.fn.ntmps (Jn Tb m fi) fi.cuts
def LV (π:Nat) (y:Code) (κ:KF fi):KF fi:=fun m=>E5 (Jn Tb m fi) fi.cuts π (xn Tb fi m y π (κ m)) (κ m)
def IW (π:Nat) (κ:KF fi):KF fi:=fun m=>wU (Jn Tb m fi) fi.cuts π (κ m)
def eM:List Bool→Code→Nat→KF fi→Option (Code × Nat × KF fi)
  | [],c,π,κ=>some (c,π,κ)
  | true :: r, .seq _ y,π,κ=>eM r y (2*π+1) κ
  | false :: r, .seq x y,π,κ=>eM r x (2*π) (LV Tb fi (2*π+1) y κ)
  | true :: r, .cond _ _ y,π,κ=>eM r y (2*π+1) κ
  | false :: r, .cond _ x _,π,κ=>eM r x (2*π) κ
  | false :: r, .block id x,π,κ=>eM r x (2*π) (fun m=>pi id (κ m))
  | false :: r, .loop x,π,κ=>eM r x (2*π) (IW Tb fi π κ)
  | _,_,_,_=>none
def Mx (m:Nat):Code × Nat × KF fi→St→Option (RX fi)
  | (.loop x,π,κ)=>xn Tb fi m x (2*π) (wU (Jn Tb m fi) fi.cuts π (κ m))
  | (c,π,κ)=>xn Tb fi m c π (κ m)
end
section
variable {Tb:iy} {fi:FI}
theorem vo:∀ (b1 b2:List Bool) (c:Code) (π:Nat) (κ:KF fi),eM Tb fi (b1++b2) c π κ = (eM Tb fi b1 c π κ).bind fun p=>eM Tb fi b2 p.1 p.2.1 p.2.2
  | [],b2,c,π,κ=>rfl
  | b :: b1,b2,c,π,κ=>by
    rw [List.cons_append]
    cases c <;> cases b <;> first | rfl | exact vo b1 b2 _ _ _
theorem pd (m:Nat):∀ (b:List Bool) (c:Code) (π:Nat) (κ:KF fi),xT Tb (Xn Tb m) fi.fn.ntmps (Jn Tb m fi) fi.cuts b c π (κ m) = (eM Tb fi b c π κ).map (Mx Tb fi m)
  | [],c,π,κ=>by cases c <;> rfl
  | b :: r,c,π,κ=>by
    cases c <;> cases b <;> first | rfl | exact pd m r _ _ κ | exact pd m r _ _ (LV Tb fi _ _ κ) | exact pd m r _ _ (fun m=>pi _ (κ m)) | exact pd m r _ _ (IW Tb fi _ κ)
theorem Lt (π:Nat) (h:1≤π) (b:Nat) (hb:b < 2):Nat.log2 (2*π+b) = Nat.log2 π+1:=by
  rw [Nat.log2_def,if_pos (by omega),show (2*π+b) / 2 = π by omega]
theorem EY (π:Nat) (h:1≤π) (b:Nat) (hb:b < 2):pN (2*π+b) = pN π++[b == 1]:=by
  unfold pN
  rw [Lt π h b hb,List.range_succ_eq_map,List.map_cons,List.reverse_cons,List.map_map]
  congr 1
  · congr 1
    apply List.map_congr_left
    intro i _
    show Nat.testBit (2*π+b) (i+1) = _
    rw [Nat.testBit_succ,show (2*π+b) / 2 = π by omega]
  · congr 1
    rw [Nat.testBit_zero]
    rcases (show b = 0∨b = 1 by omega) with rfl | rfl
    · simp
    · simp [show (2*π+1) % 2 = 1 by omega]
structure kp (Tb:iy) (fi:FI) (c:Code) (π:Nat) (κ:KF fi):Prop where
  one:1≤π
  at_:eM Tb fi (pN π) fi.c 1 (fun _=>wv Tb.P fi) = some (c,π,κ)
theorem kp.root:kp Tb fi fi.c 1 (fun _=>wv Tb.P fi):=⟨Nat.le_refl _,rfl⟩
theorem kp.left {c x:Code} {π:Nat} {κ κ':KF fi} (h:kp Tb fi c π κ) (e:eM Tb fi [false] c π κ = some (x,2*π,κ')):kp Tb fi x (2*π) κ' :=
  ⟨by have:=h.one; omega,by
    have:=EY π h.one 0 (by omega)
    rw [Nat.add_zero] at this
    rw [this,vo,h.at_]; exact e⟩
theorem kp.right {c x:Code} {π:Nat} {κ κ':KF fi} (h:kp Tb fi c π κ) (e:eM Tb fi [true] c π κ = some (x,2*π+1,κ')):kp Tb fi x (2*π+1) κ' :=
  ⟨by have:=h.one; omega,by rw [EY π h.one 1 (by omega),vo,h.at_]; exact e⟩
def PJ (Tb:iy) (n:Nat):Prop:=∀ fi,BF Tb.P fi→∀ π T s r,Jn Tb n fi π T s = some r→∀ c κ,kp Tb fi c π κ→bh Tb.P fi.fn.ntmps c (fun e σ'=>∃ m,m < n∧κ m e σ' = some r) (yg T s)
theorem wN {n:Nat} {π:Nat} {T:Tm} {s:HP T.tys} {r:RX fi} (h:Jn Tb n fi π T s = some r) {c:Code} {κ:KF fi} (hp:kp Tb fi c π κ):∃ j,n = j+1∧F9 fi = true∧Mx Tb fi j (c,π,κ) (yg T s) = some r:=by
  cases n with
  | zero=>simp [Jn] at h
  | succ j =>
    rw [Jn] at h
    simp only at h
    unfold xb at h
    cases hf:F9 fi with
    | false=>rw [hf] at h; cases h
    | true =>
      rw [hf,cond_true] at h
      refine ⟨j,rfl,rfl, ?_⟩
      have:=pd (Tb:=Tb) (fi:=fi) j (pN π) fi.c 1 (fun _=>wv Tb.P fi)
      rw [hp.at_] at this
      rw [this] at h
      exact h
theorem zX {X:XT} {vs:List V} {out:iw}:∀ {l:List FI},fG X vs some l = some out→∃ fi∈l, ∃ a y,v6 fi vs = some a∧X fi a = some y∧out = fi.out.out y
  | [],h=>by simp [fG] at h
  | fi :: l,h=>by
    unfold fG at h
    split at h
    · next a ha =>
      rw [Option.bind_eq_some_iff] at h
      obtain ⟨y,h1,h2⟩:=h
      cases h2
      exact ⟨fi,by simp,a,y,ha,h1,rfl⟩
    · obtain ⟨g,h1,h2⟩:=zX h
      exact ⟨g,by simp [h1],h2⟩
theorem sw {E:ao} {w:World} {v:Value} {o k i j:Nat} (h:ak E w v (.ptr o k i j)):∃ b,v = .pointer (some ⟨b,i*k+j,none⟩)∧E.live o∧E.conc o = some b:=by
  generalize hd:V.ptr o k i j = d at h
  cases h with
  | ptr _ _ _ _ b hn hb hi=>cases hd; exact ⟨b,rfl,hn,hb⟩
  | _=>cases hd
theorem iF {E:ao} {w:World} {v:Value} {o k:Nat} (h:ak E w v (.row o k)):∃ a n c,v = .slice a n c∧E.live o∧n = E.len o∧((a = none∧n = 0∧c = 0∧E.conc o = none)∨∃ b,E.conc o = some b∧a = some ⟨b,0,none⟩∧c = E.cap o):=by
  generalize hd:V.row o k = d at h
  cases h with
  | row _ _ a n c hn hl hc hm h0=>cases hd; exact ⟨a,n,c,rfl,hn,hl,h0⟩
  | _=>cases hd
theorem k8:∀ {os:List Nat} {H:ae} {o:Nat} {b:Ob},ae.get (aR os H) o = some b→ae.get H o = some b∧o∈os
  | [],H,o,b,h=>by simp [aR,ae.get] at h
  | p :: r,H,o,b,h=>by
    unfold aR at h
    split at h
    · next b' hb' =>
      rw [ae.get_cons] at h
      split at h
      · next e=>subst e; cases h; exact ⟨hb',by simp⟩
      · have:=k8 h; exact ⟨this.1,List.mem_cons_of_mem _ this.2⟩
    · have:=k8 h; exact ⟨this.1,List.mem_cons_of_mem _ this.2⟩
theorem Nz {o:cm} {σ:St} {v:V} {y:HP o.tys} (ho:o.isGen = false) (h:o.rdR σ v = some y):oY (o.out y) σ.hp v:=by
  unfold cm.rdR at h
  rw [ho,cond_false] at h
  exact cm.rd_ok h
theorem LI {o:cm} {y:HP o.tys} {H:ae} {nid:Nat} {args:List V} {r:ax} (h:iL o y H nid args some = some r):o.isGen = true:=by
  cases o with
  | gen T=>rfl
  | gen2 T T'=>rfl
  | data c=>cases h
  | new c=>cases h
  | own fr e t=>cases h
theorem zJ {X:XT} {H:ae} {nid:Nat} {args:List V} {r:ax}:∀ {l:List FI},ic X H nid args some l = some r→∃ fi∈l, ∃ a y,rdG fi H args = some a∧X fi a = some y∧iL fi.out y H nid args some = some r
  | [],h=>by simp [ic] at h
  | fi :: l,h=>by
    unfold ic at h
    split at h
    · next a ha =>
      rw [Option.bind_eq_some_iff] at h
      obtain ⟨y,h1,h2⟩:=h
      exact ⟨fi,by simp,a,y,ha,h1,h2⟩
    · obtain ⟨g,h1,h2⟩:=zJ h
      exact ⟨g,by simp [h1],h2⟩
theorem Iw:∀ (cs:List (Nat × Cd)) (xs:List TV) (t:Nat) (s:av),ar (lT cs xs).1 t = some s→s.ch = []
  | [],xs,t,s,h=>by simp [lT,ar] at h
  | (t',c) :: cs,xs,t,s,h=>by
    have h:ar ((t',(⟨[],(filC c xs).1⟩:av)) :: (lT cs (filC c xs).2).1) t = some s:=h
    rw [aU] at h
    split at h
    · cases h; rfl
    · exact Iw cs _ t s h
theorem KH:∀ (cs:List (Nat × Cd)) (xs:List TV) (t:Nat) (v:V),fM (cs.map (·.1)) = true→(t,Cd.k v)∈cs→ar (lT cs xs).1 t = some ⟨[],v⟩
  | [],xs,t,v,_,h=>by simp at h
  | (t',c) :: cs,xs,t,v,hn,h=>by
    show ar ((t',(⟨[],(filC c xs).1⟩:av)) :: (lT cs (filC c xs).2).1) t = _
    have hn':=tl hn
    rw [List.map_cons,List.nodup_cons] at hn'
    rw [List.map_cons,fM,Bool.and_eq_true] at hn
    rw [aU]
    rcases List.mem_cons.1 h with h | h
    · cases h; rw [if_pos rfl]; rfl
    · rw [if_neg (fun e=>hn'.1 (by show t'∈_; rw [e]; exact List.mem_map.2 ⟨_,h,rfl⟩))]
      exact KH cs _ t v hn.2 h
theorem wy:∀ (cs:List Od) (i:Nat) (xs:List TV),cn (ji i cs xs) = List.range' i cs.length
  | [],i,xs=>rfl
  | c :: cs,i,xs=>by
    show i :: cn (ji (i+1) cs (oh c xs).2) = _
    rw [wy cs (i+1),List.length_cons,List.range'_succ]
theorem ym:∀ (cs:List Od) (i:Nat) (xs:List TV) (q:Nat) (b:Ob),ae.get (ji i cs xs) q = some b→∃ c ys,i≤q∧cs[q - i]? = some c∧b = (oh c ys).1
  | [],i,xs,q,b,h=>by simp [ji,ae.get] at h
  | c :: cs,i,xs,q,b,h=>by
    have h:ae.get ((i,some (oh c xs).1) :: ji (i+1) cs (oh c xs).2) q = some b:=h
    rw [ae.get_cons] at h
    split at h
    · next e=>cases h; subst e; exact ⟨c,xs,Nat.le_refl _,by simp,rfl⟩
    · obtain ⟨c',ys,h1,h2,h3⟩:=ym cs (i+1) _ q b h
      refine ⟨c',ys,by omega, ?_,h3⟩
      rw [show q - i = (q - (i+1))+1 by omega]
      simpa using h2
theorem pA {args:List V}:∀ {cs:List (Nat × Cd)} {q o:Nat} {p:Bool},(q,o,p)∈iN args cs→∃ t,1000000≤t∧((p = true∧∃ k i j k' i' j',(t,Cd.k (.ptr q k i j))∈cs∧args[t - 1000000]? = some (.ptr o k' i' j'))∨(p = false∧∃ k k',(t,Cd.k (.row q k))∈cs∧args[t - 1000000]? = some (.row o k')))
  | [],q,o,p,h=>by simp [iN] at h
  | (t,c) :: cs,q,o,p,h=>by
    have up:(q,o,p)∈iN args cs→∃ t',1000000≤t'∧((p = true∧∃ k i j k' i' j',(t',Cd.k (.ptr q k i j))∈(t,c) :: cs∧args[t' - 1000000]? = some (.ptr o k' i' j'))∨(p = false∧∃ k k',(t',Cd.k (.row q k))∈(t,c) :: cs∧args[t' - 1000000]? = some (.row o k'))):=by
      intro h
      obtain ⟨t',h1,h2⟩:=pA h
      refine ⟨t',h1,h2.imp ?_ ?_⟩
      · rintro ⟨e,k,i,j,k',i',j',a,b⟩; exact ⟨e,k,i,j,k',i',j',List.mem_cons_of_mem _ a,b⟩
      · rintro ⟨e,k,k',a,b⟩; exact ⟨e,k,k',List.mem_cons_of_mem _ a,b⟩
    unfold iN at h
    split at h
    · next heq=>cases heq
    · next t0 q0 k i j r heq =>
      cases heq
      cases hb:Nat.ble 1000000 t with
      | false=>rw [hb] at h; exact up h
      | true =>
        rw [hb,cond_true] at h
        split at h
        · next o' k' i' j' ha =>
          rcases List.mem_cons.1 h with h | h
          · cases h; exact ⟨t,Nat.ble_eq.mp hb, .inl ⟨rfl,k,i,j,k',i',j',by simp,ha⟩⟩
          · exact up h
        · exact up h
    · next t0 q0 k r heq =>
      cases heq
      cases hb:Nat.ble 1000000 t with
      | false=>rw [hb] at h; exact up h
      | true =>
        rw [hb,cond_true] at h
        split at h
        · next o' k' ha =>
          rcases List.mem_cons.1 h with h | h
          · cases h; exact ⟨t,Nat.ble_eq.mp hb, .inr ⟨rfl,k,k',by simp,ha⟩⟩
          · exact up h
        · exact up h
    · next heq=>cases heq; exact up h
theorem gI {E:ao} {w:World} {H:ae} (h:au E w H) (os:List Nat):au E w (aR os H):=⟨fun o ob ho=>h.at_ o ob (k8 ho).1,h.inj,h.sep,h.lt,h.oklt⟩
theorem Dp:∀ (xs l:List Nat) (o:Nat),o∈An l xs→o∈l∨o∈xs
  | [],l,o,h=>.inl h
  | x :: xs,l,o,h=>by
    have h:o∈An (Jb l x) xs:=h
    rcases Dp xs (Jb l x) o h with h | h
    · unfold Jb at h
      cases hb:dm x l with
      | true=>rw [hb] at h; exact .inl h
      | false =>
        rw [hb,cond_false,List.mem_append,List.mem_singleton] at h
        exact h.imp id fun h=>by simp [h]
    · exact .inr (by simp [h])
theorem Mk {H:ae} {o:Nat} (h:o∈kN H):o∈cn H:=by
  rcases Dp _ _ _ h with h | h
  · simp at h
  · exact h
theorem sR {H:ae}:∀ {os:List Nat} {o:Nat},o∈cn (aR os H)→∃ b,ae.get H o = some b∧ae.get (aR os H) o = some b
  | [],o,h=>by simp [aR,cn] at h
  | p :: r,o,h=>by
    unfold aR at h ⊢
    split
    · next b hb =>
      rw [hb] at h
      simp only [cn,List.map_cons,List.mem_cons] at h
      by_cases e:p = o
      · subst e; exact ⟨b,hb,by rw [ae.get_cons,if_pos rfl]⟩
      · obtain ⟨b',h1,h2⟩:=sR (h.resolve_left (Ne.symm e))
        exact ⟨b',h1,by rw [ae.get_cons,if_neg e]; exact h2⟩
    · next hb=>rw [hb] at h; exact sR h
theorem Ah:∀ {os:List Nat} {o:Nat},o∈os→o < rR os
  | p :: r,o,h=>by
    unfold rR
    rcases List.mem_cons.1 h with rfl | h
    · exact Nat.lt_of_lt_of_le (Nat.lt_succ_self _) (Nat.le_max_left _ _)
    · exact Nat.lt_of_lt_of_le (Ah h) (Nat.le_max_right _ _)
theorem M4 {N:Nat} {B:fV} {σ':St} {E E1:ao} {a':Act} {w w':World} {H:ae} {R:List Nat} {nid:Nat} {xs:List Value} {args:List V} {o:cm} {y:HP o.tys} {u:Value} {v:V} {r:ax}
    (hH:au E w H) (hf:fj E nid) (hx:aC E w xs args) (hW:B.W = w) (hok:B.ok = E.ok) (hmb:B.mb = fun b=>∃ o∈kN (aR R H),E.conc o = some b) (hgh:B.gh = fun t=>xs.getD (t - 1000000) undef)
    (hs:bp N B σ' E1 a' w') (hu:ak E1 w' u v) (hy:o.rdG σ' v = some y) (hr:iL o y (aR R H) nid args some = some r):∃ E',bT E w H nid r E' w' u:=by
  obtain ⟨T,ts,hent,hgen⟩:=NC hy
  rw [hgen] at hr
  have hs1:=JM hs (R:=RS) (by decide) hu
  obtain ⟨E2,hs2⟩:=hent.sim _ _ _ _ _ hs1
  unfold g9 at hr
  split at hr
  · next ch vR hg =>
    cases hb:Gf T (aR R H) (iN args T.sl) with
    | false=>rw [hb] at hr; cases hr
    | true =>
      rw [hb,cond_true] at hr
      cases hr
      unfold Gf at hb
      simp only [Bool.and_eq_true,Nat.ble_eq] at hb
      obtain ⟨hlen,hnd,hone,hall⟩:=hb
      have hall':∀ q o p,(q,o,p)∈iN args T.sl→o∈kN (aR R H)∧q < T.ob.length∧(p = true→so T.ob[q]? = true∧BX (ae.get (aR R H) o) = true):=by
        intro q o p h
        have:=List.all_eq_true.1 hall _ h
        simp only [Bool.and_eq_true,Nat.blt_eq,Bool.or_eq_true,Bool.not_eq_true'] at this
        refine ⟨tz.1 this.1,this.2.1,fun hp=>?_⟩
        rcases this.2.2 with h | h
        · rw [hp] at h; cases h
        · exact h
      have hch:ch = []:=Iw T.sl ts RS _ hg
      subst hch
      have hslot:=hs2.slots RS _ hg
      have hv:ak E2 w' (.tuple #[u]) (.tup [vR]):=by
        have:=hslot.1 rfl
        unfold dA at this
        rw [if_neg (by decide)] at this
        simpa using this
      have huR:ak E2 w' u vR:=by
        generalize he:Value.tuple #[u] = x at hv
        cases hv with
        | tup vs ds hl h =>
          have:vs = [u]:=by
            have:=congrArg (fun v=>match v with | Value.tuple a=>a.toList | _=>[]) he
            simpa using this.symm
          subst this
          exact h 0 u vR rfl rfl
      have ghost:∀ t d,1000000≤t→(t,Cd.k d)∈T.sl→(∀ l,d≠.tup l)→ak E2 w' (xs.getD (t - 1000000) undef) d:=by
        intro t d ht hm hd
        have h1:=KH T.sl ts t d hnd hm
        have h2:=(hs2.slots t _ h1).1 rfl
        unfold dA at h2
        rw [if_neg (by omega)] at h2
        by_cases e:t = RS
        · subst e
          have h1':ar (zg T ts).tm RS = some ⟨[],d⟩:=h1
          rw [h1'] at hg; cases hg
          exact (hd _ rfl).elim
        · simp only [if_neg e,hgh] at h2
          exact h2
      have argrep:∀ t d,1000000≤t→args[t - 1000000]? = some d→ak E w (xs.getD (t - 1000000) undef) d:=by
        intro t d _ hd
        have hlt:t - 1000000 < xs.length:=by rw [hx.1]; exact (List.getElem?_eq_some_iff.1 hd).1
        have:xs.getD (t - 1000000) undef = xs[t - 1000000]:=by simp [List.getD_eq_getElem?_getD,hlt]
        rw [this]
        exact hx.2 _ _ d (List.getElem?_eq_getElem hlt) hd
      have hosl:∀ o∈kN (aR R H), ∃ b,ae.get H o = some b∧ae.get (aR R H) o = some b:=fun o ho=>sR (Mk ho)
      refine ⟨_,Me (os:=kN (aR R H)) (bk:=iN args T.sl) hH hf (fun o ho=>?_) (B:={ B with gh:=fun t=>if t = RS then .tuple #[u] else B.gh t }) hW hok (fun b hb=>by have hb':B.mb b:=hb; rw [hmb] at hb'; exact hb') hs2 hlen (fun q b hq=>?_) ⟨hone,fun q o p h=>(hall' q o p h).1,fun q o p h=>?_,fun q o p h=>?_,fun q o p h=>?_,fun q o h=>?_,fun q o p h=>?_,fun q o h b hg=>?_⟩ huR⟩
      · obtain ⟨b,h1,_⟩:=hosl o ho
        exact (hH.at_ o b h1).1
      · have:q∈cn (ji 0 T.ob (lT T.sl ts).2):=List.mem_map.2 ⟨_,hq,rfl⟩
        rw [wy] at this
        have:=List.mem_range'_1.1 this
        show q < T.ob.length
        omega
      · obtain ⟨t,ht,hc⟩:=pA h
        rcases hc with ⟨_,k,i,j,k',i',j',h1,h2⟩ | ⟨_,k,k',h1,h2⟩
        · obtain ⟨_,_,hn,_⟩:=sw (ghost t _ ht h1 (fun l=>by simp))
          exact hn
        · obtain ⟨_,_,_,_,hn,_⟩:=iF (ghost t _ ht h1 (fun l=>by simp))
          exact hn
      · obtain ⟨t,ht,hc⟩:=pA h
        rcases hc with ⟨_,k,i,j,k',i',j',h1,h2⟩ | ⟨_,k,k',h1,h2⟩
        · obtain ⟨b,e1,_,hb⟩:=sw (ghost t _ ht h1 (fun l=>by simp))
          obtain ⟨b',e2,_,hb'⟩:=sw (argrep t _ ht h2)
          rw [e1] at e2
          have eb:b = b':=by
            have:=congrArg (fun v=>match v with | Value.pointer (some a)=>a.block | _=>0) e2
            exact this
          rw [hb,hb',eb]
        · have r1:=ghost t _ ht h1 (fun l=>by simp)
          have r2:=argrep t _ ht h2
          obtain ⟨a,n,c,e1,_,hl,h0⟩:=iF r1
          obtain ⟨_,_,_,e2,_,hl',h0'⟩:=iF r2
          rw [e1] at e2
          cases e2
          rcases h0 with ⟨g1,g2,g3,g4⟩ | ⟨b,g1,g2,g3⟩ <;> rcases h0' with ⟨e1,e2,e3,e4⟩ | ⟨b',e1,e2,e3⟩
          · rw [g4,e4]
          · rw [g1] at e2; cases e2
          · rw [e1] at g2; cases g2
          · rw [g2] at e2; cases e2; rw [g1,e1]
      · obtain ⟨t,ht,hc⟩:=pA h
        rcases hc with ⟨hp,k,i,j,k',i',j',h1,h2⟩ | ⟨_,k,k',h1,h2⟩
        · obtain ⟨a1,a2,a3⟩:=hall' q o p h
          obtain ⟨a4,a5⟩:=a3 hp
          have e1:E2.len q = 1:=by
            have hq:∃ b,ae.get (ji 0 T.ob (lT T.sl ts).2) q = some b:=by
              have:∀ (cs:List Od) (i:Nat) (zs:List TV),i≤q→q < i+cs.length→∃ b,ae.get (ji i cs zs) q = some b:=by
                intro cs
                induction cs with
                | nil=>intro i zs h1 h2; simp at h2; omega
                | cons c cs ih =>
                  intro i zs h1 h2
                  show ∃ b,ae.get ((i,some (oh c zs).1) :: ji (i+1) cs (oh c zs).2) q = some b
                  rw [ae.get_cons]
                  split
                  · exact ⟨_,rfl⟩
                  · exact ih (i+1) _ (by omega) (by simp at h2; omega)
              exact this T.ob 0 _ (Nat.zero_le _) (by omega)
            obtain ⟨b,hb⟩:=hq
            have hat:=(hs2.heap.at_ q b hb).2
            obtain ⟨c,ys,_,hc,rfl⟩:=ym T.ob 0 _ q b hb
            rw [Nat.sub_zero] at hc
            rw [hc] at a4
            cases c with
            | row e t=>simp [so] at a4
            | box cs=>exact hat.1
            | iter c=>simp [so] at a4
            | map e kt vt =>
              have:∃ kt' vt' ks vs,(oh (.map e kt vt) ys).1 = .map e kt' vt' ks vs:=by
                unfold oh
                simp only
                split <;> exact ⟨_,_,_,_,rfl⟩
              obtain ⟨_,_,_,_,h⟩:=this
              rw [h] at hat
              exact hat.1
          have e2:E.len o = 1:=by
            obtain ⟨b,g1,g2⟩:=hosl o a1
            rw [g2] at a5
            have hat:=(hH.at_ o b g1).2
            cases b with
            | row e t l=>simp [BX] at a5
            | box cs=>exact hat.1
            | raw x=>exact hat.1
            | map=>exact hat.1
            | iter=>exact hat.1
          rw [e1,e2]
        · have r1:=ghost t _ ht h1 (fun l=>by simp)
          have r2:=argrep t _ ht h2
          obtain ⟨a,n,c,e1,_,hl,h0⟩:=iF r1
          obtain ⟨_,_,_,e2,_,hl',h0'⟩:=iF r2
          rw [e1] at e2
          cases e2
          rw [← hl, ← hl']
      · obtain ⟨t,ht,hc⟩:=pA h
        rcases hc with ⟨hp,_⟩ | ⟨_,k,k',h1,h2⟩
        · cases hp
        · have r1:=ghost t _ ht h1 (fun l=>by simp)
          have r2:=argrep t _ ht h2
          obtain ⟨a,n,c,e1,_,hl,h0⟩:=iF r1
          obtain ⟨_,_,_,e2,_,hl',h0'⟩:=iF r2
          rw [e1] at e2
          cases e2
          rcases h0 with ⟨g1,g2,g3,g4⟩ | ⟨b,g1,g2,g3⟩
          · exact .inl g4
          · rcases h0' with ⟨e1,e2,e3,e4⟩ | ⟨b',e1,e2,e3⟩
            · rw [e1] at g2; cases g2
            · exact .inr (by rw [← g3, ← e3])
      · obtain ⟨_,a2,_⟩:=hall' q o p h
        show q∈cn (ji 0 T.ob (lT T.sl ts).2)
        rw [wy]
        exact List.mem_range'_1.2 ⟨Nat.zero_le _,by omega⟩
      · obtain ⟨_,_,a3⟩:=hall' q o true h
        obtain ⟨a4,_⟩:=a3 rfl
        obtain ⟨c,ys,_,hc,rfl⟩:=ym T.ob 0 _ q b hg
        rw [Nat.sub_zero] at hc
        rw [hc] at a4
        cases c with
        | row e t=>simp [so] at a4
        | box cs=>rfl
        | iter c=>simp [so] at a4
        | map e kt vt =>
          unfold oh
          simp only
          split <;> rfl
  · cases hr
theorem PJ.meets {n:Nat} (hT:w9 Tb) (hP:PJ Tb n) (f:FuncId):aN Tb.P f (eA Tb (Xn Tb n) f):=by
  have key:∀ f l,cB Tb.fs f = some l→aN Tb.P f (eA Tb (Xn Tb n) f):=by
    intro f l hl
    unfold eA
    rw [hl]
    simp only
    cases hgl:Ch l with
    | true =>
      rw [cond_true]
      intro E w H nid xs args r hH hf hx hm _
      obtain ⟨fi,hfi,a,y,ha,hy,hr⟩:=zJ hm
      obtain ⟨rfl,h0⟩:=hT.fis f _ hl fi hfi
      obtain ⟨j,_,hok,_⟩:=wN hy kp.root
      have hgen:fi.out.isGen = true:=LI hr
      unfold rdG at ha
      cases hb:(Nat.ble args.length fi.fn.ntmps&&(V.refss args).all (fun o=>dm o (kN (aR (aD H args) H)))&&Mu (kN (aR (aD H args) H)) (aR (aD H args) H)) with
      | false=>rw [hb] at ha; cases ha
      | true =>
        rw [hb,cond_true] at ha
        rw [Bool.and_eq_true,Bool.and_eq_true,Nat.ble_eq] at hb
        unfold F9 at hok
        rw [Bool.and_eq_true,Nat.ble_eq] at hok
        have hsim:=LP (N:=fi.fn.ntmps) (os:=kN (aR (aD H args) H)) (M:=rR (kN (aR (aD H args) H))) (gI hH (aD H args)) hx (fun o ho=>tz.1 (List.all_eq_true.1 hb.1.2 o ho))
          (fun o ho b hg=>by have:=List.all_eq_true.1 hb.2 o ho; rw [hg] at this; exact this) (fun o ho=>Ah ho) hb.1.1 hok.2
        have hev:=bh.ent (rW ha) (hP fi h0 1 fi.ins a y hy _ _ kp.root)
        refine .inl ⟨db h0.hf h0.hb h0.hn _ _,calls_of_wp h0.hf h0.hb (wp_mono (hev.ok _ _ _ _ hsim) ?_)⟩
        rintro e a' w' ⟨σ',E',⟨m,_,hr'⟩,hs'⟩
        have fin:∀ e,(e = .ret∨e = .normal)→wv Tb.P fi e σ' = some y→a'.defers = []∧∃ v,(results fi.fn a'.tmps).run Tb.P w' = .ok v w'∧∃ v',Ending.returned v = .returned v'∧∃ E'',bT E w H nid r E'' w' v':=by
          intro e he hr'
          have hr'':(match kD Tb.P σ' fi.fn.results.toList with | some v=>gL (wq Tb.P σ' fi.fn.results.toList) (fi.out.rdR σ' v) | none=>none) = some y:=by rcases he with rfl | rfl <;> exact hr'
          split at hr''
          · next v hv =>
            obtain ⟨hbs,hr''⟩:=rM hr''
            obtain ⟨u,g1,g2⟩:=yh hs' hv (tY hbs)
            unfold cm.rdR at hr''
            rw [hgen,cond_true] at hr''
            exact ⟨hs'.defers,u,g1,u,rfl,M4 hH hf hx rfl rfl rfl rfl hs' g2 hr'' hr⟩
          · cases hr''
        cases e with
        | normal=>exact fin _ (.inr rfl) hr'
        | ret=>exact fin _ (.inl rfl) hr'
        | exit id=>cases hr'
        | goto l=>cases hr'
        | panic c=>cases hr'
        | outgrown=>cases hr'
    | false =>
      rw [cond_false]
      cases l with
      | nil =>
        intro ok w xs vs p out _ _ h1
        simp [fG] at h1
      | cons fi0 l0 =>
      obtain ⟨e0,h0⟩:=hT.fis f _ hl fi0 (by simp)
      subst e0
      refine E6 h0.hf h0.hb h0.hn fun vs p out h1 _=>?_
      cases hk:fG (Xn Tb n) vs some (fi0 :: l0) with
      | none=>rw [hk] at h1; cases h1
      | some o =>
        rw [hk] at h1; cases h1
        obtain ⟨fi,hfi,a,y,ha,hy,rfl⟩:=zX hk
        obtain ⟨e1,h2⟩:=hT.fis _ _ hl fi hfi
        have efn:fi.fn = fi0.fn:=by
          have:=h2.hf
          rw [e1,h0.hf] at this
          exact (Option.some.inj this).symm
        have ec:fi.c = fi0.c:=by
          have:=h2.hb
          rw [efn,h0.hb] at this
          exact (Option.some.inj this).symm
        obtain ⟨j,_,hok,_⟩:=wN hy kp.root
        unfold v6 at ha
        cases hb:(!fi.out.isGen&&(Nat.beq vs.length fi.ins.sl.length&&fi.ins.ob.isEmpty)) with
        | false=>rw [hb] at ha; cases ha
        | true =>
          rw [hb,cond_true] at ha
          rw [Bool.and_eq_true,Bool.and_eq_true,Nat.beq_eq,Bool.not_eq_true'] at hb
          unfold F9 at hok
          rw [hb.1,Bool.false_or,Bool.and_eq_true,Nat.ble_eq,Nat.ble_eq,efn] at hok
          refine ⟨vs,VLes.rfl' vs,⟨by omega,hok.2⟩, ?_⟩
          have:=hP fi h2 1 fi.ins a y hy _ _ kp.root
          rw [efn,ec] at this
          refine bh.ent (MB ha (Nat.zero_le _)) (this.mono fun e σ' hh=>?_)
          obtain ⟨m,_,hr⟩:=hh
          have ret:∀ e,(e = .ret∨e = .normal)→wv Tb.P fi e σ' = some y→NA Tb.P fi0.fn.results.toList (oY (fi.out.out y)) e σ':=by
            intro e he hr
            have hr':(match kD Tb.P σ' fi.fn.results.toList with | some v=>gL (wq Tb.P σ' fi.fn.results.toList) (fi.out.rdR σ' v) | none=>none) = some y:=by rcases he with rfl | rfl <;> exact hr
            rw [efn] at hr'
            split at hr'
            · next v hv =>
              obtain ⟨hbs,hr'⟩:=rM hr'
              have:=And.intro (tY hbs) (Nz hb.1 hr')
              rcases he with rfl | rfl
              · show (match kD Tb.P σ' fi0.fn.results.toList with | some v=>_ | none=>_)
                rw [hv]; exact this
              · show (match kD Tb.P σ' fi0.fn.results.toList with | some v=>_ | none=>_)
                rw [hv]; exact this
            · cases hr'
          cases e with
          | normal=>exact ret _ (.inr rfl) hr
          | ret=>exact ret _ (.inl rfl) hr
          | exit id=>cases hr
          | goto l=>cases hr
          | panic c=>cases hr
          | outgrown=>cases hr
  cases hl:cB Tb.fs f with
  | some l=>exact key f l hl
  | none=>exact hT.sp _ key f hl
theorem tT {R:Type} {Jc:(T:Tm)→HP T.tys→Option R} {T:Tm} {σ:St} {r:R} (h:jN Jc T σ = some r):∃ s,Aa T σ = some s∧Jc T s = some r:=Option.bind_eq_some_iff.1 h
theorem Mz (hT:w9 Tb) (hfi:BF Tb.P fi):∀ (c:Code) (m:Nat),(∀ m',m'≤m→PJ Tb m')→∀ (π:Nat) (κ:KF fi),kp Tb fi c π κ→∀ (σ:St) (r:RX fi),xn Tb fi m c π (κ m) σ = some r→bh Tb.P fi.fn.ntmps c (fun e σ'=>∃ m',m'≤m∧κ m' e σ' = some r) σ:=by
  intro c
  induction c with
  | skip=>exact fun m _ π κ _ σ r h=>.skip ⟨m,Nat.le_refl _,h⟩
  | label l=>exact fun m _ π κ _ σ r h=>.of_wp fun B E a w hs=>wp_label ⟨σ,E,⟨m,Nat.le_refl _,h⟩,hs⟩
  | region id ops dr =>
    intro m hm π κ hp σ r h
    refine (M1 hT.mixed (fun f=>PJ.meets hT (hm m (Nat.le_refl _)) f) h).mono ?_
    rintro e σ' ⟨rfl,h⟩
    exact ⟨m,Nat.le_refl _,h⟩
  | seq x y ihx ihy =>
    intro m hm π κ hp σ r h
    have px:kp Tb fi x (2*π) (LV Tb fi (2*π+1) y κ):=hp.left rfl
    have py:kp Tb fi y (2*π+1) κ:=hp.right rfl
    refine bh.seq ((ihx m hm _ _ px σ r h).mono ?_)
    rintro e σ' ⟨m',hle,hh⟩
    cases e with
    | normal =>
      show bh _ _ y _ σ'
      have hh':(match cB fi.cuts (2*π+1) with | some T=>jN (Jn Tb m' fi (2*π+1)) T σ' | none=>xn Tb fi m' y (2*π+1) (κ m') σ') = some r:=hh
      split at hh'
      · next T hc =>
        obtain ⟨s,h1,h2⟩:=tT hh'
        refine bh.ent (rW h1) ((hm m' hle fi hfi _ _ _ _ h2 _ _ py).mono ?_)
        rintro e σ'' ⟨m2,h3,h4⟩
        exact ⟨m2,by omega,h4⟩
      · refine (ihy m' (fun q hq=>hm q (Nat.le_trans hq hle)) _ _ py σ' r hh').mono ?_
        rintro e σ'' ⟨m2,h3,h4⟩
        exact ⟨m2,Nat.le_trans h3 hle,h4⟩
    | exit id=>exact ⟨m',hle,hh⟩
    | goto l=>exact ⟨m',hle,hh⟩
    | ret=>exact ⟨m',hle,hh⟩
    | panic c=>exact ⟨m',hle,hh⟩
    | outgrown=>exact ⟨m',hle,hh⟩
  | cond c x y ihx ihy =>
    intro m hm π κ hp σ r h
    have px:kp Tb fi x (2*π) κ:=hp.left rfl
    have py:kp Tb fi y (2*π+1) κ:=hp.right rfl
    have h':(match bt σ [] c with | some (.c (.lit (.bool b)))=>bif b then xn Tb fi m x (2*π) (κ m) σ else xn Tb fi m y (2*π+1) (κ m) σ | _=>none) = some r:=h
    split at h'
    · next b hb =>
      refine bh.cond hb (fun e=>?_) fun e=>?_
      · subst e; exact ihx m hm _ _ px σ r h'
      · subst e; exact ihy m hm _ _ py σ r h'
    · cases h'
  | block id x ih =>
    intro m hm π κ hp σ r h
    have px:kp Tb fi x (2*π) (fun m=>pi id (κ m)):=hp.left rfl
    refine bh.block ((ih m hm _ _ px σ r h).mono ?_)
    rintro e σ' ⟨m',hle,hh⟩
    cases e with
    | exit id' =>
      have hh':(bif Nat.beq id' id then κ m' .normal σ' else κ m' (.exit id') σ') = some r:=hh
      show bif Nat.beq id' id then _ else _
      cases hb:Nat.beq id' id with
      | true=>rw [hb] at hh'; exact ⟨m',hle,hh'⟩
      | false=>rw [hb] at hh'; exact ⟨m',hle,hh'⟩
    | normal=>exact ⟨m',hle,hh⟩
    | goto l=>exact ⟨m',hle,hh⟩
    | ret=>exact ⟨m',hle,hh⟩
    | panic c=>exact ⟨m',hle,hh⟩
    | outgrown=>exact ⟨m',hle,hh⟩
  | exit id=>exact fun m _ π κ _ σ r h=>.exit ⟨m,Nat.le_refl _,h⟩
  | ret=>exact fun m _ π κ _ σ r h=>.ret ⟨m,Nat.le_refl _,h⟩
  | loop x ih =>
    intro m hm π κ hp σ r h
    have h':(match cB fi.cuts π with | some T=>jN (Jn Tb m fi π) T σ | none=>none) = some r:=h
    split at h'
    · next T hc =>
      obtain ⟨s,h1,h2⟩:=tT h'
      refine bh.ent (rW h1) ((hm m (Nat.le_refl _) fi hfi _ _ _ _ h2 _ _ hp).mono ?_)
      rintro e σ'' ⟨m2,h3,h4⟩
      exact ⟨m2,by omega,h4⟩
    · cases h'
  | rangeFunc f params assign body=>exact fun m _ π κ _ σ r h=>by cases h
  | scope body=>exact fun m _ π κ _ σ r h=>by cases h
  | goto l=>exact fun m _ π κ _ σ r h=>by cases h
  | refuse why=>exact fun m _ π κ _ σ r h=>by cases h
theorem Ng (hT:w9 Tb):∀ n,PJ Tb n:=by
  intro n
  induction n using Nat.strongRecOn with
  | _ n ih =>
    intro fi hfi π T s r h c κ hp
    obtain ⟨k,rfl,_,hr⟩:=wN h hp
    by_cases hl:∃ x,c = .loop x
    · obtain ⟨x,rfl⟩:=hl
      have px:kp Tb fi x (2*π) (IW Tb fi π κ):=hp.left rfl
      refine bh.loop (fun m σ=>m≤k+1∧∃ (T':Tm) (s':HP T'.tys),σ = yg T' s'∧Jn Tb m fi π T' s' = some r) (k+1) (yg T s) (.refl _) ⟨Nat.le_refl _,T,s,rfl,h⟩ ?_
      rintro m σ ⟨hm,T',s',rfl,hJ⟩
      obtain ⟨j,rfl,_,hj⟩:=wN hJ hp
      refine (Mz hT hfi x j (fun m' hm'=>ih m' (by omega)) _ _ px _ r hj).mono ?_
      rintro e σ' ⟨m',hle,hh⟩
      cases e with
      | normal =>
        have hh':(match cB fi.cuts π with | some T=>jN (Jn Tb m' fi π) T σ' | none=>none) = some r:=hh
        split at hh'
        · next T2 hc =>
          obtain ⟨s2,h1,h2⟩:=tT hh'
          exact ⟨m',yg T2 s2,by omega,rW h1,by omega,T2,s2,rfl,h2⟩
        · cases hh'
      | exit id=>exact ⟨m',by omega,hh⟩
      | goto l=>exact ⟨m',by omega,hh⟩
      | ret=>exact ⟨m',by omega,hh⟩
      | panic c=>exact ⟨m',by omega,hh⟩
      | outgrown=>exact ⟨m',by omega,hh⟩
    · have hr':xn Tb fi k c π (κ k) (yg T s) = some r:=by
        cases c with
        | loop x=>exact (hl ⟨x,rfl⟩).elim
        | _=>exact hr
      refine (Mz hT hfi c k (fun m' hm'=>ih m' (by omega)) _ _ hp _ r hr').mono ?_
      rintro e σ' ⟨m',hle,hh⟩
      exact ⟨m',by omega,hh⟩
end
end Go.Ax
