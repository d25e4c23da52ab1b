import Derived.Test.YtnnblpijaoocaaaGreatZB2
set_option linter.all false
/- Maps: looking up, storing. -/
namespace Go.Ax
open Go.RowKit Go.MapKept
theorem vh:∀ {cs:List V} {ds:List D},cs.mapM V.toD = some ds→cs = ds.map .c
  | [],ds,h=>by simp at h; subst h; rfl
  | v :: cs,ds,h=>by
    rw [List.mapM_cons] at h
    simp only [Option.bind_eq_bind,Option.pure_def,Option.bind_eq_some_iff,Option.some.injEq] at h
    obtain ⟨d,hd,ds',hds,rfl⟩:=h
    rw [List.map_cons,vh hds]
    congr 1
    unfold V.toD at hd
    split at hd <;> simp_all
section
variable {P:Program} {ρ:Operand→Value} {E:ao} {w w':World} {o:Oper} {r:ax} {H:ae} {nid:Nat}
theorem A7 {v:Value} {d:D} (h:ak E w v (.c d)):aA E.ok w v d:=by cases h; assumption
theorem oX.rep {v:Value}:∀ {t:Ty} {x:t.T},oX E.ok w v t x→ak E w v (encV t x)
  | .st k,x,h=>by
    obtain ⟨cs,rfl,h2,h3⟩:=h
    refine .agg cs _ (by rw [List.length_map]; exact h2) fun i u d hu hd=>?_
    rw [List.getElem?_map] at hd
    cases hx:(Ty.enc (.st k) x)[i]? with
    | none=>rw [hx] at hd; cases hd
    | some y=>rw [hx] at hd; cases hd; exact .c _ _ (h3 i u y hu hx)
  | .arr n t,x,h=>by
    obtain ⟨cs,rfl,h2,h3⟩:=h
    refine .agg cs _ (by rw [List.length_map]; exact h2) fun i u d hu hd=>?_
    rw [List.getElem?_map] at hd
    cases hx:(Ty.enc (.arr n t) x)[i]? with
    | none=>rw [hx] at hd; cases hd
    | some y=>rw [hx] at hd; cases hd; exact .c _ _ (h3 i u y hu hx)
  | .i _,_,h=>.c _ _ h
  | .b,_,h=>.c _ _ h
  | .s,_,h=>.c _ _ h
  | .ls _,_,h=>.c _ _ h
theorem IM {v:Value} {cs:List V} {ds es:List D} (h:ak E w v (.agg cs)) (hc:cs = ds.map .c) (hl:dx ds es):∃ us:List Value,v = .agg us.toArray∧us.length = es.length∧∀ (j:Nat) (u:Value) (d:D),us[j]? = some u→es[j]? = some d→aA E.ok w u d:=by
  subst hc
  cases h with
  | agg us _ h1 h2 =>
    refine ⟨us,rfl,by rw [h1,List.length_map]; exact hl.1,fun j u d hu hd=>?_⟩
    obtain ⟨d0,hd0,hle⟩:=hl.at hd
    exact (A7 (h2 j u _ hu (by rw [List.getElem?_map,hd0]; rfl))).le hle
theorem Is {v:Value} {d:V} (h:ak E w v d):∀ {t:Ty} {x:t.T},DM t d = some x→oX E.ok w v t x:=by
  intro t x hr
  unfold DM at hr
  split at hr
  · next k cs =>
    split at hr
    · next ds hds=>exact IM h (vh hds) (kn _ _ _ hr)
    · cases hr
  · next n t cs =>
    split at hr
    · next ds hds=>exact IM h (vh hds) (kn _ _ _ hr)
    · cases hr
  · exact (A7 h).le (fK hr)
  · exact (A7 h).le (fK hr)
  · exact (A7 h).le (fK hr)
  · exact (A7 h).le (fK hr)
  · cases hr
theorem AQ {k:TypeId} {kt:Ty} (h:wI P k kt = true):∃ q,kt = .i q∧P.underlying k = some (.int q):=by
  unfold wI at h
  split at h
  · next q =>
    split at h
    · next q' hq=>rw [decide_eq_true_eq] at h; subst h; exact ⟨_,rfl,hq⟩
    · cases h
  · cases h
theorem tZ {q:IntKind}:∀ (ks:List Int) (k:Int),(dN (.i q) ks k = ks.length∧k ∉ ks)∨(dN (.i q) ks k < ks.length∧ks[dN (.i q) ks k]? = some k)
  | [],k=>.inl ⟨rfl,by simp⟩
  | x :: r,k=>by
    unfold dN
    have e:Mv (.i q) x k = decide (x = k):=rfl
    rw [e]
    by_cases h:x = k
    · subst h; right; simp
    · rw [decide_eq_false h,cond_false]
      rcases tZ (q:=q) r k with ⟨h1,h2⟩ | ⟨h1,h2⟩
      · left; exact ⟨by rw [h1]; rfl,by simp [h2,Ne.symm h]⟩
      · right; exact ⟨by simpa using h1,by simpa using h2⟩
theorem Gq {q:IntKind} {vt:Ty} {ks:List Int} {vs:List vt.T} {b:Nat} {es:Array MapEntry} {clock:Nat} {kk:TypeId} (hq:P.underlying kk = some (.int q)) (hst:Stamped es clock) (hsz:es.size = ks.length)
    (hes:∀ i e,es[i]? = some e→e.key = LA (.i q) (gD ks i (0:Int))∧oX E.ok w e.val vt (gD vs i vt.z)) (k:Int) :
    (∀ x∈es.toList,IsKey (.int q) x.key)∧(((Instr.findKey kk (.int q k) es.toList).run P w = .ok none w∧(∀ x∈es.toList,x.key≠.int q k)∧dN (.i q) ks k = ks.length∧k ∉ ks) ∨
      ∃ e:MapEntry,(Instr.findKey kk (.int q k) es.toList).run P w = .ok (some (dN (.i q) ks k,e.val)) w∧es[dN (.i q) ks k]? = some e∧e.key = .int q k∧dN (.i q) ks k < ks.length):=by
  have hkey:∀ (i:Nat) (e:MapEntry),es[i]? = some e→∃ x,ks[i]? = some x∧e.key = .int q x:=by
    intro i e he
    have hi:i < ks.length:=by rw [← hsz]; exact (Array.getElem?_eq_some_iff.1 he).1
    refine ⟨ks[i],List.getElem?_eq_getElem hi, ?_⟩
    rw [(hes i e he).1]
    show ED (((Ty.enc (.i q) (gD ks i 0))).headD .unk) = _
    rw [gD,List.getD_eq_getElem?_getD,List.getElem?_eq_getElem hi]
    rfl
  have hks:∀ x∈es.toList,IsKey (.int q) x.key:=by
    intro x hx
    obtain ⟨i,hi⟩:=List.getElem?_of_mem hx
    obtain ⟨y,_,h⟩:=hkey i x (by simpa using hi)
    rw [h]; rfl
  refine ⟨hks, ?_⟩
  have nokey:k ∉ ks→∀ x∈es.toList,x.key≠.int q k:=by
    intro hn x hx e
    obtain ⟨i,hi⟩:=List.getElem?_of_mem hx
    obtain ⟨y,h1,h2⟩:=hkey i x (by simpa using hi)
    rw [h2] at e
    have:y = k:=by simpa using e
    subst this
    exact hn (List.mem_of_getElem? h1)
  rcases findNow_spec (d:=.int q) (k:=.int q k) rfl es.toList 0 hks with ⟨h1,h2⟩ | ⟨j,e,h1,h2,h3⟩
  · left
    refine ⟨run_findKey hq h1,h2, ?_⟩
    rcases tZ (q:=q) ks k with h | ⟨h4,h5⟩
    · exact h
    · exfalso
      have hj:dN (.i q) ks k < es.size:=by rw [hsz]; exact h4
      obtain ⟨y,g1,g2⟩:=hkey _ _ (Array.getElem?_eq_getElem hj)
      rw [h5] at g1; cases g1
      exact h2 _ (by simp) g2
  · right
    have hj:es[j]? = some e:=by simpa using h2
    obtain ⟨y,g1,g2⟩:=hkey j e hj
    have:y = k:=by rw [g2] at h3; simpa using h3
    subst this
    have hmem:y∈ks:=List.mem_of_getElem? g1
    rcases tZ (q:=q) ks y with ⟨_,h⟩ | ⟨h4,h5⟩
    · exact (h hmem).elim
    · have e1:dN (.i q) ks y = j:=by
        have hm:dN (.i q) ks y < es.size:=by rw [hsz]; exact h4
        obtain ⟨y',g3,g4⟩:=hkey _ _ (Array.getElem?_eq_getElem hm)
        rw [h5] at g3; cases g3
        have hp:=((stamped_iff es clock).1 hst).2.2
        rw [List.pairwise_iff_getElem] at hp
        have hjlt:=(Array.getElem?_eq_some_iff.1 hj).1
        have ej:es[j] = e:=(Array.getElem?_eq_some_iff.1 hj).2
        refine Classical.byContradiction fun hne=>?_
        rcases Nat.lt_or_gt_of_ne hne with hlt | hlt
        · exact hp _ _ (by simpa using hm) (by simpa using hjlt) hlt (by simp [g4,ej,g2])
        · exact hp _ _ (by simpa using hjlt) (by simpa using hm) hlt (by simp [g4,ej,g2])
      rw [e1]
      have:=run_findKey (w:=w) hq h1
      rw [Nat.zero_add] at this
      exact ⟨e,this,hj,g2,(e1 ▸ h4)⟩
theorem jQ {v:Value} {m:V} (hH:au E w H) (h:ak E w v m) {o':Nat} {ob:Ob} (hm:lg H m = some (o',ob)):∃ b,v = .map (some b)∧E.live o'∧E.conc o' = some b∧H.get o' = some ob:=by
  unfold lg at hm
  split at hm
  · next f o1 k i j =>
    cases hb:Nat.beq f 2000000000 with
    | false=>rw [hb] at hm; cases hm
    | true =>
      rw [hb,cond_true] at hm
      have:=Nat.eq_of_beq_eq_true hb
      subst this
      split at hm
      · next b hg =>
        cases hm
        generalize he:V.fn 2000000000 [V.ptr o' k i j] = d at h
        cases h with
        | fn f vs ds hl h =>
          cases he
          obtain ⟨u,rfl⟩:∃ u,vs = [u]:=by
            match vs,hl with
            | [u],_=>exact ⟨u,rfl⟩
          have h0:=h 0 u _ rfl rfl
          cases h0 with
          | ptr _ _ _ _ bl hn hb hi =>
            refine ⟨bl, ?_,hn,hb,hg⟩
            unfold lv
            rfl
        | _=>cases he
      · cases hm
  · cases hm
theorem zR {q:IntKind} {v:Value} {d:V} {k:Int} (h:ak E w v d) (hk:JC (.i q) d = some k):v = .int q k:=by
  match d,hk,h with
  | .c (.lit (.int q' n)),hk,h =>
    have hk:(if q = q' then some n else none) = some k:=hk
    split at hk
    · next e=>cases hk; subst e; exact h.lit_inv
    · cases hk
theorem G8 (hH:au E w H) {t:TypeId} {x y:Operand} {ok:Bool} (ho:o.op = .lookup t x y ok) {vm vk:V} (hm:ak E w (ρ x) vm) (hk:ak E w (ρ y) vk) (h:oZ P H t vm vk ok = some r):gA P ρ o E w r:=by
  unfold oZ at h
  split at h
  · next kk e o' t' kt vt ks vs ht hmo =>
    split at h
    · next key z0 hkey hz =>
      split at h
      · next z hrz =>
        cases hty:wI P kk kt with
        | false=>rw [hty] at h; cases h
        | true =>
          rw [hty,cond_true] at h
          cases h
          obtain ⟨q,rfl,hq⟩:=AQ hty
          obtain ⟨b,hv,hlive,hconc,hg⟩:=jQ hH hm hmo
          obtain ⟨_,h1,h2,b',es,clock,h3,h4,h5,h6,h7⟩:=hH.at_ _ _ hg
          rw [hconc] at h3; cases h3
          have hkv:=zR hk hkey
          obtain ⟨zv,hzr,hzrep⟩:=Cn (P:=P) (E:=E) (w:=w) hz
          have fin:∀ (u:Value) (bb:Bool),(Instr.lookup t (ρ x) (ρ y) ok).run P w = .ok (if ok then .tuple #[u, .bool bb] else u) w→oX E.ok w u vt (qa (.i q) ks vs key z)→bb = og (.i q) ks key →
              gA P ρ o E w { val:=bif ok then .tup [encV vt (qa (.i q) ks vs key z),bl (og (.i q) ks key)] else encV vt (qa (.i q) ks vs key z) }:=by
            intro u bb hr hu hbb
            refine ⟨rfl,rfl,if ok then .tuple #[u, .bool bb] else u, ?_, ?_⟩
            · simp only [execOp,ho,Sem.run_bind,hr,Result.andThen]; rfl
            · cases ok with
              | false=>exact hu.rep
              | true =>
                simp only [if_true,cond_true]
                refine .tup [u, .bool bb] _ rfl fun i v d hv hd=>?_
                match i with
                | 0=>simp at hv hd; subst hv hd; exact hu.rep
                | 1=>simp at hv hd; subst hv hd; rw [hbb]; exact .lit _
                | i+2=>simp at hv
          obtain ⟨hks,hf⟩:=Gq (E:=E) (w:=w) (P:=P) (vs:=vs) (b:=b) hq h5 h6 h7 key
          rcases hf with ⟨g1,g2,g3,g4⟩ | ⟨e0,g1,g2,g3,g4⟩
          · refine fin zv false ?_ ?_ ?_
            · rw [hv,hkv]
              cases ok <;> simp [Instr.lookup,run_underlying ht,MapKept.run_getObj_map h4,run_checkKey hq (show IsKey (.int q) (.int q key) from rfl),g1,hzr,Result.andThen]
            · have:qa (.i q) ks vs key z = z:=by
                unfold qa
                rw [List.getD_eq_getElem?_getD,List.getElem?_eq_none (by rw [g3, ← h2]; exact Nat.le_refl _)]; rfl
              rw [this]; exact Is hzrep hrz
            · unfold og
              rw [g3]
              cases hb:Nat.blt ks.length ks.length with
              | false=>rfl
              | true=>rw [Nat.blt_eq] at hb; omega
          · refine fin e0.val true ?_ ?_ ?_
            · rw [hv,hkv]
              cases ok <;> simp [Instr.lookup,run_underlying ht,MapKept.run_getObj_map h4,run_checkKey hq (show IsKey (.int q) (.int q key) from rfl),g1,Result.andThen]
            · have:=(h7 _ _ g2).2
              have e1:qa (.i q) ks vs key z = gD vs (dN (.i q) ks key) vt.z:=by
                unfold qa gD
                rw [List.getD_eq_getElem?_getD,List.getD_eq_getElem?_getD,List.getElem?_eq_getElem (by rw [← h2]; exact g4)]; rfl
              rw [e1]; exact this
            · unfold og
              rw [show Nat.blt (dN (.i q) ks key) ks.length = true from by rw [Nat.blt_eq]; exact g4]
      · cases h
    · cases h
  · cases h
def dX (w:World) (b:Nat) (x:Obj):World:={ w with heap:=w.heap.setIfInBounds b x }
theorem qE {w:World} {b:Nat} (x:Obj) (h:b < w.heap.size):(dX w b x).heap[b]? = some x:=by
  simp [dX,h]
theorem Ar {w:World} {b b':Nat} (x:Obj) (h:b≠b'):(dX w b x).heap[b']? = w.heap[b']?:=by
  simp [dX,Array.getElem?_setIfInBounds,h]
theorem tq (hH:au E w H) (hf:¬ E.live nid) {q b:Nat} (hq:E.live q) (hb:E.conc q = some b) (x:Obj) {ob:Ob} (he:r.eff = [(q,some ob)]) (hk:r.kill = [])
    (hob:∀ (E':ao),E'.conc q = some b→E'.cap q = E.cap q→E'.len q = E.len q→(∀ v d,ak E w v d→ak E' (dX w b x) v d)→(∀ v d,aA E.ok w v d→aA E'.ok (dX w b x) v d)→gX E' (dX w b x) q ob)
    {v':Value} (hv:∀ (E':ao) (w':World),ak E' w' v' r.val):bT E w H nid r (E.next nid none 0 0 E.ok) (dX w b x) v':=by
  have hS:cF E w [] (E.next nid none 0 0 E.ok) (dX w b x):=by
    refine ⟨rfl,rfl,rfl,by simp [dX],fun _ h=>.inr h,fun b' hlt hno=>Ar x (fun e=>hno q hq (by rw [hb,e])),fun _ h=>h,fun _ h=>.inl h,fun q hq _=>d8 hf hq,fun q b' hq h'=>?_⟩
    rcases dV hq h' with ⟨_,h1,h2⟩ | ⟨_,h2⟩
    · exact .inl ⟨_,h1,h2⟩
    · cases h2
  have hr:∀ v d,ak E w v d→ak (E.next nid none 0 0 E.ok) (dX w b x) v d:=fun v d h=>fh hH hS h
  have hd:∀ v d,aA E.ok w v d→aA (E.next nid none 0 0 E.ok).ok (dX w b x) v d:=fun v d h=>kV hH hS h
  have hcase:∀ q b,(E.next nid none 0 0 E.ok).live q→(E.next nid none 0 0 E.ok).conc q = some b→E.live q∧E.conc q = some b:=by
    intro q b hq h
    rcases dV hq h with ⟨_,h1,h2⟩ | ⟨_,h2⟩
    · exact ⟨h1,h2⟩
    · cases h2
  refine ⟨by rw [hk]; exact hS, ?_,hv _ _,bf⟩
  rw [he,hk]
  refine ⟨fun q' y hq'=>?_,fun q' q2 b' h1 h2 h h'=>?_,fun q' b' h1 h=>?_,fun q' b' h1 h=>?_,fun b' h=>by simp [dX]; exact hH.oklt b' h⟩
  · rw [List.cons_append,List.nil_append,ae.get_cons] at hq'
    split at hq'
    · next e =>
      subst e; cases hq'
      obtain ⟨c1,c2,c3⟩:=d8 (c:=none) (cap:=0) (len:=0) (ok':=E.ok) hf hq
      exact ⟨.inr hq,hob _ (c1.trans hb) c2 c3 hr hd⟩
    · next hne =>
      obtain ⟨h1,h2⟩:=hH.at_ q' y hq'
      refine ⟨.inr h1,nJ h2 (d8 hf h1) (fun b' hb'=>Ar x fun e=>?_) hr hd⟩
      subst e
      exact hne (hH.inj _ _ _ hq h1 hb hb')
  · obtain ⟨a1,a2⟩:=hcase q' b' h1 h
    obtain ⟨b1,b2⟩:=hcase q2 b' h2 h'
    exact hH.inj q' q2 b' a1 b1 a2 b2
  · obtain ⟨a1,a2⟩:=hcase q' b' h1 h
    exact hH.sep q' b' a1 a2
  · obtain ⟨a1,a2⟩:=hcase q' b' h1 h
    simp [dX]; exact hH.lt q' b' a1 a2
theorem NV {α:Type} {l:List α} {i:Nat} {x z:α} (h:l[i]? = some x):gD l i z = x:=by rw [gD,List.getD_eq_getElem?_getD,h]; rfl
theorem NB (q:IntKind) (k:Int):LA (.i q) k = .int q k:=rfl
theorem Fk (hH:au E w H) (hf:¬ E.live nid) {t:TypeId} (ho:o.op = .makeMap t none) (h:zd P nid t = some r):∃ E' w' v',(execOp ρ o).run P w = .ok (.value v') w'∧bT E w H nid r E' w' v':=by
  unfold zd at h
  split at h
  · next k e ht =>
    split at h
    · next kt vt hk hv =>
      cases h
      have hb:Below w.heap.size w (w.alloc (.map #[] 0)):=(Below.refl _ _).alloc (Nat.le_refl _) _
      have hcc:∀ b,some w.heap.size = some b→w.heap.size≤b∧b < (w.alloc (.map #[] 0)).heap.size∧¬ E.ok b:=by
        intro b e; cases e
        exact ⟨Nat.le_refl _,by simp,fun h=>by have:=hH.oklt _ h; omega⟩
      have hS:cF E w [] (E.next nid (some w.heap.size) 0 1 E.ok) (w.alloc (.map #[] 0)):=cb hf _ 0 1 E.ok hb (fun b h=>(hcc b h).1) (fun _ h=>h) (fun _ h=>.inl h)
      have hN:=cx (cap:=0) (len:=1) hf hH hb hcc (fun _ h=>h) (fun _ h=>.inl h) (fun b h=>by have:=hH.oklt b h; simp; omega)
      have e1:(E.next nid (some w.heap.size) 0 1 E.ok).conc nid = some w.heap.size:=by simp [ao.next]
      have e3:(E.next nid (some w.heap.size) 0 1 E.ok).len nid = 1:=by simp [ao.next]
      refine ⟨_,w.alloc (.map #[] 0), .map (some w.heap.size), ?_,hS,gN hN (.inl rfl) ⟨e3,rfl,_, #[],0,e1,heap_alloc_new w _,stamped_empty 0,rfl,fun i e he=>by simp at he⟩, ?_,bf⟩
      · simp [execOp,ho,Instr.makeMap,Result.andThen]
      · have:=ak.fn (E:=E.next nid (some w.heap.size) 0 1 E.ok) (w:=w.alloc (.map #[] 0)) 2000000000 [.pointer (some ⟨w.heap.size,0*1+0,none⟩)] [.ptr nid 1 0 0] rfl fun i v d hv hd=>by
          match i with
          | 0=>simp at hv hd; subst hv hd; exact .ptr nid 1 0 0 _ (.inl rfl) e1 (by rw [e3]; omega)
          | i+1=>simp at hv
        exact this
    · cases h
  · cases h
theorem CA {α:Type} {l:List α} {i:Nat} {x z:α} (h:i < l.length):(l.set i x).getD i z = x:=by simp [List.getD_eq_getElem?_getD,h]
theorem FA {α:Type} {l:List α} {i j:Nat} {x z:α} (h:i≠j):(l.set i x).getD j z = l.getD j z:=by simp [List.getD_eq_getElem?_getD,List.getElem?_set,h]
theorem JF (hH:au E w H) (hf:¬ E.live nid) {t:TypeId} {x y z:Operand} (ho:o.op = .mapUpdate t x y z) {vs:List V} (hv:aC E w [ρ x,ρ y,ρ z] vs) (h:tN P t H vs = some r) :
    ∃ E' w',(execOp ρ o).run P w = .ok .skip w'∧bT E w H nid r E' w' undef:=by
  unfold tN at h
  split at h
  · next vm vk vv =>
    split at h
    · next kk e o' t' kt vt ks vs ht hmo =>
      split at h
      · next key xv hkey hxv =>
        cases hty:wI P kk kt with
        | false=>rw [hty] at h; cases h
        | true =>
          rw [hty,cond_true] at h
          cases h
          obtain ⟨q,rfl,hq⟩:=AQ hty
          obtain ⟨b,hmv,hlive,hconc,hg⟩:=jQ hH (hv.2 0 _ _ rfl rfl) hmo
          obtain ⟨_,h1,h2,b',es,clock,h3,h4,h5,h6,h7⟩:=hH.at_ _ _ hg
          rw [hconc] at h3; cases h3
          have hkv:=zR (hv.2 1 _ _ rfl rfl) hkey
          have hval:=Is (hv.2 2 _ _ rfl rfl) hxv
          obtain ⟨hks,hfd⟩:=Gq (E:=E) (w:=w) (P:=P) (vs:=vs) (b:=b) hq h5 h6 h7 key
          have hlt:b < w.heap.size:=gu h4
          rcases hfd with ⟨g1,g2,g3,g4⟩ | ⟨e0,g1,g2,g3,g4⟩
          · have hno:og (.i q) ks key = false:=by
              unfold og
              rw [g3]
              cases hb:Nat.blt ks.length ks.length with
              | false=>rfl
              | true=>rw [Nat.blt_eq] at hb; omega
            refine ⟨_,dX w b (.map (es.push { key:=.int q key,val:=ρ z,born:=clock }) (clock+1)), ?_,tq hH hf hlive hconc _ rfl rfl (fun E' c1 c2 c3 hr hd=>?_) fun E' w'=>.unk _⟩
            · simp only [execOp,ho,Sem.run_bind,hmv,hkv]
              simp [Instr.mapUpdate,run_underlying ht,MapKept.run_getObj_map h4,run_checkKey hq (show IsKey (.int q) (.int q key) from rfl),g1,MapKept.run_setObj_map _ h4,Result.andThen,dX]
            · refine ⟨c3.trans h1, ?_,b,_,_,c1,qE _ hlt,stamped_push h5 g2, ?_,fun i e he=>?_⟩
              · simp only [qH,xg,hno,cond_false]; simp [h2]
              · simp only [qH,hno,cond_false]; simp [h6]
              · simp only [qH,xg,hno,cond_false]
                rw [Array.getElem?_push] at he
                split at he
                · next hi =>
                  cases he
                  subst hi
                  refine ⟨?_, ?_⟩
                  · rw [gD,List.getD_eq_getElem?_getD,List.getElem?_append_right (by rw [h6]; exact Nat.le_refl _),h6]; simp [NB]
                  · have:gD (vs++[xv]) es.size vt.z = xv:=by rw [gD,List.getD_eq_getElem?_getD,List.getElem?_append_right (by rw [h6,h2]; exact Nat.le_refl _),h6,h2]; simp
                    rw [this]; exact hval.mp hd
                · next hi =>
                  have hi':=(Array.getElem?_eq_some_iff.1 he).1
                  obtain ⟨k1,k2⟩:=h7 i e he
                  refine ⟨?_, ?_⟩
                  · rw [gD,List.getD_eq_getElem?_getD,List.getElem?_append_left (by rw [← h6]; exact hi'), ← List.getD_eq_getElem?_getD]; exact k1
                  · have:gD (vs++[xv]) i vt.z = gD vs i vt.z:=by rw [gD,gD,List.getD_eq_getElem?_getD,List.getD_eq_getElem?_getD,List.getElem?_append_left (by rw [← h2, ← h6]; exact hi')]
                    rw [this]; exact k2.mp hd
          · have hyes:og (.i q) ks key = true:=by
              unfold og
              rw [Nat.blt_eq]; exact g4
            refine ⟨_,dX w b (.map (es.modify (dN (.i q) ks key) fun e=>{ e with key:=.int q key,val:=ρ z }) clock), ?_,tq hH hf hlive hconc _ rfl rfl (fun E' c1 c2 c3 hr hd=>?_) fun E' w'=>.unk _⟩
            · simp only [execOp,ho,Sem.run_bind,hmv,hkv]
              simp [Instr.mapUpdate,run_underlying ht,MapKept.run_getObj_map h4,run_checkKey hq (show IsKey (.int q) (.int q key) from rfl),g1,g2,g3,run_keyThatStays (show IsKey (.int q) (.int q key) from rfl),MapKept.run_setObj_map _ h4,Result.andThen,dX]
            · refine ⟨c3.trans h1, ?_,b,_,_,c1,qE _ hlt,stamped_modify h5 _ _ (fun _ _=>rfl) (fun e' _ he'=>?_), ?_,fun i e he=>?_⟩
              · simp only [qH,xg,hyes,cond_true]; simp [h2]
              · rw [g2] at he'; cases he'; exact g3.symm
              · simp only [qH,hyes,cond_true]; simp [h6]
              · simp only [qH,xg,hyes,cond_true]
                rw [Array.getElem?_modify] at he
                split at he
                · next hi =>
                  rw [← hi,g2] at he
                  cases he
                  subst hi
                  have hk0:=(h7 _ _ g2).1
                  refine ⟨?_, ?_⟩
                  · rw [← hk0]; exact g3.symm
                  · have:gD (vs.set (dN (.i q) ks key) xv) (dN (.i q) ks key) vt.z = xv:=CA (by rw [← h2]; exact g4)
                    rw [this]; exact hval.mp hd
                · next hi =>
                  obtain ⟨k1,k2⟩:=h7 i e he
                  refine ⟨k1, ?_⟩
                  have:gD (vs.set (dN (.i q) ks key) xv) i vt.z = gD vs i vt.z:=FA hi
                  rw [this]; exact k2.mp hd
      · cases h
    · cases h
  · cases h
end
end Go.Ax
