import Derived.Test.YtgamnldjlncdlaaGreatZA1
import Derived.Laws.BytesString
import Derived.Laws.RangeString
set_option linter.all false
/- Walks over strings, bytes as strings, parts that are cleared. -/
namespace Go.Ax
open Go.RowKit
section
variable {P:Program} {ρ:Operand→Value} {E:br} {w w':World} {o:Oper} {r:cR} {H:ap} {nid:Nat}
def aoE (ok:Nat→Prop):br:=⟨fun _=>none,fun _=>0,fun _=>0,fun _=>False,ok⟩
theorem ac6 (hH:bI E w H) (hf:¬ E.live nid) (x:Obj) (he:r.eff = [(nid,some (.raw x))]) (hk:r.kill = []) {v':Value}
    (hv:∀ (E':br) (w':World),E'.live nid→E'.conc nid = some w.heap.size→E'.len nid = 1→aM E' w' v' r.val) :
    ga E w H nid r (E.next nid (some w.heap.size) 0 1 E.ok) (w.alloc x) v':=by
  have hb:Below w.heap.size w (w.alloc x):=(Below.refl _ _).alloc (Nat.le_refl _) _
  have hcc:∀ b,some w.heap.size = some b→w.heap.size≤b∧b < (w.alloc x).heap.size∧¬ E.ok b:=by
    intro b e; cases e
    exact ⟨Nat.le_refl _,by simp,fun h=>by have:=hH.oklt _ h; omega⟩
  have hS:gm E w [] (E.next nid (some w.heap.size) 0 1 E.ok) (w.alloc x):=gG hf _ 0 1 E.ok hb (fun b h=>(hcc b h).1) (fun _ h=>h) (fun _ h=>.inl h)
  have hN:=iy (cap:=0) (len:=1) hf hH hb hcc (fun _ h=>h) (fun _ h=>.inl h) (fun b h=>by have:=hH.oklt b h; simp; omega)
  have e1:(E.next nid (some w.heap.size) 0 1 E.ok).conc nid = some w.heap.size:=by simp [br.next]
  have e3:(E.next nid (some w.heap.size) 0 1 E.ok).len nid = 1:=by simp [br.next]
  refine ⟨by rw [hk]; exact hS, ?_,hv _ _ (.inl rfl) e1 e3,eJ⟩
  rw [he,hk]
  exact ww hN (.inl rfl) ⟨e3,_,e1,heap_alloc_new w _⟩
def j8 (w:World) (b:Nat) (x:Obj):World:={ w with heap:=w.heap.setIfInBounds b x }
theorem NX {w:World} {b:Nat} (x:Obj) (h:b < w.heap.size):(j8 w b x).heap[b]? = some x:=by
  simp [j8,h]
theorem KV {w:World} {b b':Nat} (x:Obj) (h:b≠b'):(j8 w b x).heap[b']? = w.heap[b']?:=by
  simp [j8,Array.getElem?_setIfInBounds,h]
theorem PI (hH:bI E w H) (hf:¬ E.live nid) {q b:Nat} (hq:E.live q) (hb:E.conc q = some b) (x:Obj) {ob:Ob} (he:r.eff = [(q,some ob)]) (hk:r.kill = [])
    (hob:∀ (E':br),E'.conc q = some b→E'.cap q = E.cap q→E'.len q = E.len q→(∀ v d,aM E w v d→aM E' (j8 w b x) v d)→(∀ v d,cC E.ok w v d→cC E'.ok (j8 w b x) v d)→lS E' (j8 w b x) q ob)
    {v':Value} (hv:∀ (E':br) (w':World),aM E' w' v' r.val):ga E w H nid r (E.next nid none 0 0 E.ok) (j8 w b x) v':=by
  have hS:gm E w [] (E.next nid none 0 0 E.ok) (j8 w b x):=by
    refine ⟨rfl,rfl,rfl,by simp [j8],fun _ h=>.inr h,fun b' hlt hno=>KV x (fun e=>hno q hq (by rw [hb,e])),fun _ h=>h,fun _ h=>.inl h,fun q hq _=>iw hf hq,fun q b' hq h'=>?_⟩
    rcases iA hq h' with ⟨_,h1,h2⟩ | ⟨_,h2⟩
    · exact .inl ⟨_,h1,h2⟩
    · cases h2
  have hr:∀ v d,aM E w v d→aM (E.next nid none 0 0 E.ok) (j8 w b x) v d:=fun v d h=>kI hH hS h
  have hd:∀ v d,cC E.ok w v d→cC (E.next nid none 0 0 E.ok).ok (j8 w b x) v d:=fun v d h=>rS hH hS h
  have hcase:∀ q b,(E.next nid none 0 0 E.ok).live q→(E.next nid none 0 0 E.ok).conc q = some b→E.live q∧E.conc q = some b:=by
    intro q b hq h
    rcases iA hq h with ⟨_,h1,h2⟩ | ⟨_,h2⟩
    · exact ⟨h1,h2⟩
    · cases h2
  refine ⟨by rw [hk]; exact hS, ?_,hv _ _,eJ⟩
  rw [he,hk]
  refine ⟨fun q' y hq'=>?_,fun q' q2 b' h1 h2 h h'=>?_,fun q' b' h1 h=>?_,fun q' b' h1 h=>?_,fun b' h=>by simp [j8]; exact hH.oklt b' h⟩
  · rw [List.cons_append,List.nil_append,ap.get_cons] at hq'
    split at hq'
    · next e =>
      subst e; cases hq'
      obtain ⟨c1,c2,c3⟩:=iw (c:=none) (cap:=0) (len:=0) (ok':=E.ok) hf hq
      exact ⟨.inr hq,hob _ (c1.trans hb) c2 c3 hr hd⟩
    · next hne =>
      obtain ⟨h1,h2⟩:=hH.at_ q' y hq'
      refine ⟨.inr h1,rx h2 (iw hf h1) (fun b' hb'=>KV x fun e=>?_) hr hd⟩
      subst e
      exact hne (hH.inj _ _ _ hq h1 hb hb')
  · obtain ⟨a1,a2⟩:=hcase q' b' h1 h
    obtain ⟨b1,b2⟩:=hcase q2 b' h2 h'
    exact hH.inj q' q2 b' a1 b1 a2 b2
  · obtain ⟨a1,a2⟩:=hcase q' b' h1 h
    exact hH.sep q' b' a1 a2
  · obtain ⟨a1,a2⟩:=hcase q' b' h1 h
    simp [j8]; exact hH.lt q' b' a1 a2
theorem UI (hH:bI E w H) (hf:¬ E.live nid) {t:TypeId} {x:Operand} (ho:o.op = .range t x) {vx:V} (hx:aM E w (ρ x) vx) (h:Rb P nid t vx = some r) :
    ∃ E' w' v',(execOp ρ o).run P w = .ok (.value v') w'∧ga E w H nid r E' w' v':=by
  unfold Rb at h
  split at h
  · next s hu =>
    cases h
    have ex:=hx.lit_inv
    refine ⟨_,w.alloc (.stringIter s 0), .pointer (some ⟨w.heap.size,0,none⟩), ?_,ac6 hH hf (.stringIter s 0) rfl rfl fun E' w' h1 h2 h3=>?_⟩
    · have:=run_range_string (P:=P) w t s hu
      simp only [execOp,ho,ex,Sem.run_bind,this,Result.andThen_ok]
      rfl
    · have:=aM.ptr (E:=E') (w:=w') nid 1 0 0 w.heap.size h1 h2 (by omega)
      simpa using this
  · cases h
theorem WX (hH:bI E w H) (hf:¬ E.live nid) {x:Operand} (ho:o.op = .next x true) {vx:V} (hx:aM E w (ρ x) vx) (h:Pb H vx = some r) :
    ∃ E' w' v',(execOp ρ o).run P w = .ok (.value v') w'∧ga E w H nid r E' w' v':=by
  unfold Pb at h
  split at h
  · next q k i j =>
    split at h
    · next s pos hg =>
      cases hb0:Nat.beq (i*k+j) 0 with
      | false=>simp [hb0] at h
      | true =>
        simp only [hb0,cond_true,Option.some.injEq] at h
        have h0:=Nat.eq_of_beq_eq_true hb0
        obtain ⟨hl,hlen,b,hb,hh⟩:=hH.at_ _ _ hg
        have ex:ρ x = .pointer (some ⟨b,0,none⟩):=by
          generalize ρ x = v at hx
          cases hx with
          | ptr _ _ _ _ b' g1 g2 g3=>rw [hb] at g2; cases g2; rw [h0]
        subst h
        have hlt:=lU hh
        refine ⟨_,j8 w b (.stringIter s (bif Nat.blt pos s.size then pos+Ls s pos else pos)),LU (Nat.blt pos s.size) [.int .i64 pos, .int .i32 (Ll s pos)], ?_,
          PI hH hf hl hb _ (ob:=.raw (.stringIter s (bif Nat.blt pos s.size then pos+Ls s pos else pos))) rfl rfl (fun E' h1 h2 h3 _ _=>⟨h3.trans hlen,b,h1,NX _ hlt⟩) fun E' w'=>.c _ _ (.opt _ _)⟩
        by_cases hp:pos < s.size
        · have hp':Nat.blt pos s.size = true:=by simpa using hp
          have:(Instr.next (.pointer (some ⟨b,0,none⟩)) true o.type).run P w = .ok (.tuple #[.bool true, .int .i64 pos, .int .i32 (Ll s pos)]) (j8 w b (.stringIter s (pos+Ls s pos))):=by
            simp [Instr.next,getObj,setObj,Sem.run,hh,hp,goInt,Ll,Ls,j8]
          rw [hp']
          simp only [execOp,ho,ex,Sem.run_bind,this,Result.andThen_ok]
          rfl
        · have hp':Nat.blt pos s.size = false:=by
            cases hc:Nat.blt pos s.size with
            | false=>rfl
            | true=>rw [Nat.blt_eq] at hc; exact (hp hc).elim
          have hw:j8 w b (.stringIter s pos) = w:=by
            unfold j8
            congr 1
            apply Array.ext_getElem?
            intro i
            by_cases e:b = i
            · subst e; rw [Array.getElem?_setIfInBounds,if_pos rfl,if_pos hlt,hh]
            · rw [Array.getElem?_setIfInBounds,if_neg e]
          have:(Instr.next (.pointer (some ⟨b,0,none⟩)) true o.type).run P w = .ok (.tuple #[.bool false]) w:=by
            simp [Instr.next,getObj,Sem.run,hh,hp]
          rw [hp']
          simp only [execOp,ho,ex,Sem.run_bind,this,Result.andThen_ok,cond_false,hw]
          rfl
    · cases h
  · cases h
theorem JI:∀ (ns:List Int) (s:ByteArray),ns.foldl (fun r n=>r.push (UInt8.ofNat n.toNat)) s = ⟨s.data++(ns.map fun x=>UInt8.ofNat x.toNat).toArray⟩
  | [],s=>by simp
  | n :: ns,s=>by
    rw [List.foldl_cons,JI ns]
    congr 1
    simp [ByteArray.push]
theorem RR (hH:bI E w H) {s d e:TypeId} (hs:P.underlying s = some (.slice e)) (hd:P.underlying d = some .string) (he:P.underlying e = some (.int .u8)) {x:Operand} (ho:o.op = .convert s d x) {vx:V} (hx:aM E w (ρ x) vx)
    (h:Mq H vx = some r) (hp:∀ p∈r.pre,p):nD P ρ o E w r:=by
  unfold Mq at h
  split at h
  · next k n el ha =>
    cases h
    have p1:0 < n→k = 1:=hp _ (by simp)
    have p2:∀ i,i < n→el i = l6 (nP (el i)):=hp _ (by simp)
    obtain ⟨news,hsrc⟩:=HD hH hx ha
    obtain ⟨a,c,ev,hc,hm,hcell⟩:=hsrc.form
    refine ⟨rfl,rfl,_, ?_, .lit _⟩
    have key:(Conv.bytesToString (ρ x)).run P w = .ok (.string (ol (lst nP n el))) w:=by
      rw [ev]
      cases n with
      | zero =>
        have hl:lst nP 0 el = []:=rfl
        rw [hl]
        cases a with
        | none=>rfl
        | some ad =>
          have:=run_bytesToString (P:=P) w ad 0 c [] (by have:=run_loadCells (P:=P) w ad 0 (fun _=>undef) (fun j hj=>by omega); simpa using this)
          rw [this]; rfl
      | succ n =>
        obtain ⟨ad,rfl,hcl⟩:=hcell (by omega)
        have hk:=p1 (by omega)
        subst hk
        have hlen:=hsrc.len
        have hnews:news = (lst nP (n+1) el).map (Value.int .u8):=by
          refine List.ext_getElem? fun i=>?_
          by_cases hi:i < n+1
          · have h1:i < news.length:=by rw [hlen]; omega
            have hr:=hsrc.rep i 0 (.lit (.int .u8 (nP (el i)))) (news[i]) hi (by rw [p2 i hi]; rfl) (by rw [Nat.mul_one,Nat.add_zero]; exact List.getElem?_eq_getElem h1)
            rw [List.getElem?_eq_getElem h1,List.getElem?_map]
            unfold lst
            rw [List.getElem?_map,List.getElem?_range hi]
            simp only [Option.map_some,Option.some.injEq]
            generalize news[i] = z at hr
            generalize nP (el i) = y at hr
            cases hr with
            | lit=>rfl
          · rw [List.getElem?_eq_none (by rw [hlen]; omega),List.getElem?_eq_none (by simp [lst]; omega)]
        have hload:(loadCells ad (n+1)).run P w = .ok ((lst nP (n+1) el).map (Value.int .u8)).toArray w:=by
          have:=run_loadCells_list (P:=P) w ad news (fun j v hv=>hcl j v hv)
          rw [hlen,Nat.mul_one] at this
          rw [this,hnews]
        rw [run_bytesToString w ad (n+1) c _ hload,JI]
        simp [ol]
    rw [ev] at key
    simp [execOp,ho,ev,convert,run_underlying hs,run_underlying hd,run_underlying he,key]
  · cases h
theorem R5 {e:TypeId} {z:List D} (h:vv P e = some z):∃ (i:TypeInfo) (v:Value),P.info? e = some i∧i.zero = some v∧v.cells.size = z.length∧(∀ u∈v.cells.toList,u.oneCell' = true) ∧
    ∀ (ok:Nat→Prop) (w:World) (j:Nat) (d:D) (u:Value),z[j]? = some d→v.cells[j]? = some u→cC ok w u d:=by
  have h0:=h
  unfold vv at h0
  split at h0
  · next zv hzv =>
    obtain ⟨i,v,h1,h2,h3,h4⟩:=qP hzv
    obtain ⟨i',v',g1,g2,g3,g4,g5⟩:=NZ h
    rw [h1] at g1; cases g1
    rw [h2] at g2; cases g2
    refine ⟨i,v,h1,h2,g3,QM v h3 h4 (AF h0),fun ok w j d u hd hu=>?_⟩
    have:=(ej (E:=aoE ok) (w:=w) v h4).2 j u (.c d) (by rw [Array.getElem?_toList]; exact hu) (g4 j d hd)
    cases this with
    | c _ _ h=>exact h
  · cases h0
theorem Tr (hH:bI E w H) (hf:¬ E.live nid) {c:Call} (ho:o.op = .call c) (hcal:c.callee = .builtin .clear) {x:Operand} (hargs:c.args = #[x]) {t:TypeId} (hat:c.argTypes[0]? = some t) {vx:V} (hx:aM E w (ρ x) vx)
    (h:wG P H t vx = some r):∃ E' w' v',(execOp ρ o).run P w = .ok (.value v') w'∧ga E w H nid r E' w' v':=by
  have run:∀ w',(Builtin.clear_ c.argTypes o.type #[ρ x]).run P w = .ok (.tuple #[]) w'→(execOp ρ o).run P w = .ok (.value (.tuple #[])) w':=by
    intro w' hn
    simp [execOp,ho,resolve,hcal,hargs,invoke,builtin,hn]
  unfold wG at h
  split at h
  · next e q k off n hu =>
    split at h
    · next e' k' m el z hg hz =>
      cases hs:(Nat.beq e' e&&Nat.beq k' k&&Nat.beq k (sz P e)&&Nat.beq z.length k&&Nat.blt 0 k&&kA P e) with
      | false=>simp [hs] at h
      | true =>
        simp only [hs,cond_true,Option.some.injEq] at h
        simp only [Bool.and_eq_true,Nat.beq_eq,Nat.blt_eq] at hs
        obtain ⟨⟨⟨⟨⟨rfl,rfl⟩,hk1⟩,hk2⟩,hk0⟩,hkn⟩:=hs
        obtain ⟨hl,hob⟩:=hH.at_ _ _ hg
        obtain ⟨i,zv,z1,z2,z3,z4,z5⟩:=R5 hz
        subst h
        generalize hv:ρ x = v at hx run
        cases hx with
        | row _ _ _ _ a cp hn hc hm hle ha h0 =>
        have hlen:off+n≤m:=by rw [← hob.1]; exact hle
        by_cases hn0:n = 0
        · subst hn0
          have hel:(fun q=>bif Nat.ble off q&&Nat.blt q (off+0) then z else el q) = el:=by
            funext q
            have:(Nat.ble off q&&Nat.blt q (off+0)) = false:=by
              cases hc:(Nat.ble off q&&Nat.blt q (off+0)) with
              | false=>rfl
              | true=>rw [Bool.and_eq_true,Nat.ble_eq,Nat.blt_eq] at hc; omega
            rw [this]; rfl
          rw [hel]
          have hS:gm E w [] (E.next nid none 0 0 E.ok) w:=gG hf none 0 0 E.ok (.refl _ _) (by simp) (fun _ h=>h) (fun _ h=>.inl h)
          have hN:bI (E.next nid none 0 0 E.ok) w H:=iy hf hH (.refl _ _) (by simp) (fun _ h=>h) (fun _ h=>.inl h) hH.oklt
          refine ⟨_,w, .tuple #[],run w ?_,hS, ?_, .c _ _ (.unk _),eJ⟩
          · cases a <;> simp [Builtin.clear_,hat,run_underlying hu]
          · exact ww hN (hN.at_ _ _ hg).1 (hN.at_ _ _ hg).2
        · obtain ⟨b,hb,rfl⟩:=ha (by omega)
          obtain ⟨hlen2,hrow⟩:=hob
          obtain ⟨b',C,c1,c2,c3,c4,c5,c6,c7,c8⟩:=hrow.resolve_left (fun h=>by rw [hb] at h; cases h.1)
          rw [hb] at c1; cases c1
          have hfit:off*k'+n*k'≤C.size:=by
            rw [c3, ← Nat.add_mul]
            exact Nat.mul_le_mul_right _ (by omega)
          have hzl:(Builtin.zeroCells zv.cells n).toList.length = n*k':=by simp [Builtin.zeroCells,z3,hk2]
          have hzu:∀ q u,(Builtin.zeroCells zv.cells n).toList[q]? = some u→q < n*k'∧zv.cells[q % k']? = some u:=by
            intro q u hq
            have hlt:=(List.getElem?_eq_some_iff.1 hq).1
            rw [hzl] at hlt
            refine ⟨hlt, ?_⟩
            have hm:q % k' < zv.cells.size:=by rw [z3,hk2]; exact Nat.mod_lt _ hk0
            rw [Array.getElem?_toList] at hq
            unfold Builtin.zeroCells at hq
            rw [Array.getElem?_map,z3,hk2,Array.getElem?_range,if_pos hlt] at hq
            simp only [Option.map_some,Option.some.injEq] at hq
            rw [getElem!_pos zv.cells _ hm] at hq
            rw [Array.getElem?_eq_getElem hm,hq]
          have hone:∀ u∈(Builtin.zeroCells zv.cells n).toList,u.oneCell' = true:=by
            intro u hu'
            obtain ⟨q,hq⟩:=List.getElem?_of_mem hu'
            obtain ⟨_,h2⟩:=hzu q u hq
            exact z4 u (List.mem_of_getElem? (by rw [Array.getElem?_toList]; exact h2))
          have hst:=run_storeCells_at P b (off*k') e' (Builtin.zeroCells zv.cells n).toList 0 C w c2 (by rw [hzl]; exact hfit) hone
          rw [Nat.add_zero] at hst
          rw [hzl] at hst
          generalize hC':(C.toList.take (off*k')++(Builtin.zeroCells zv.cells n).toList++C.toList.drop (off*k'+n*k')).toArray = C' at hst
          have hrow':w.setRow b C' = j8 w b (.cells C' e' (0,0)):=by
            have hlt:=lU c2
            have h1:=setRow_heap w b C C' e' (0,0) c2
            unfold World.setRow j8
            unfold World.setRow at h1
            congr 1
            apply Array.ext_getElem?
            intro j
            by_cases e:b = j
            · subst e
              rw [Array.getElem?_setIfInBounds,if_pos rfl,if_pos hlt]
              exact h1
            · rw [Array.getElem?_setIfInBounds,if_neg e,Array.getElem?_modify,if_neg e]
          have hget:∀ q,C'[q]? = if off*k'≤q∧q < off*k'+n*k' then (Builtin.zeroCells zv.cells n).toList[q - off*k']? else C[q]?:=by
            intro q
            rw [← hC',List.getElem?_toArray]
            have ht:(C.toList.take (off*k')).length = off*k':=by rw [List.length_take,Array.length_toList]; omega
            by_cases h1:q < off*k'
            · rw [if_neg (by omega),List.append_assoc,List.getElem?_append_left (by omega),List.getElem?_take_of_lt h1,Array.getElem?_toList]
            · by_cases h2:q < off*k'+n*k'
              · rw [if_pos ⟨by omega,h2⟩,List.append_assoc,List.getElem?_append_right (by omega),ht,List.getElem?_append_left (by omega)]
              · rw [if_neg (by omega),List.getElem?_append_right (by rw [List.length_append]; omega),List.length_append,ht,hzl,List.getElem?_drop,Array.getElem?_toList]
                congr 1; omega
          have hsz:C'.size = C.size:=by
            rw [← hC']
            simp [hzl]
            omega
          refine ⟨_,j8 w b (.cells C' e' (0,0)), .tuple #[],run _ ?_,PI hH hf hl hb _ (ob:=.row e' k' m fun q=>bif Nat.ble off q&&Nat.blt q (off+n) then z else el q) rfl rfl (fun E' h1 h2 h3 hr hd=>⟨h3.trans hlen2, .inr ⟨b,C',h1,NX _ (lU c2),by rw [hsz,h2]; exact c3,by rw [h2]; exact c4,by rw [h2]; exact c5, ?_, ?_, ?_⟩⟩) fun E' w'=>.c _ _ (.unk _)⟩
          · obtain ⟨n',rfl⟩:∃ n',n = n'+1:=⟨n - 1,by omega⟩
            have hzv:=lE (P:=P) (w:=w) z1 z2
            simp [Builtin.clear_,hat,run_underlying hu,hzv,hst,hrow']
          · intro q hq
            simp only
            cases hc:(Nat.ble off q&&Nat.blt q (off+n)) with
            | true=>exact hk2
            | false=>exact c6 q hq
          · intro q j u hq hj hu'
            rw [hget] at hu'
            split at hu'
            · exact hone u (List.mem_of_getElem? hu')
            · exact c7 q j u hq hj hu'
          · intro q j d u hq hd' hu'
            rw [hget] at hu'
            simp only at hd'
            cases hc:(Nat.ble off q&&Nat.blt q (off+n)) with
            | true =>
              rw [hc,cond_true] at hd'
              rw [Bool.and_eq_true,Nat.ble_eq,Nat.blt_eq] at hc
              have hj:j < k':=by rw [← hk2]; exact (List.getElem?_eq_some_iff.1 hd').1
              have a1:off*k'≤q*k':=Nat.mul_le_mul_right _ hc.1
              have a2:(q+1)*k'≤(off+n)*k':=Nat.mul_le_mul_right _ hc.2
              rw [Nat.add_mul,Nat.one_mul,Nat.add_mul] at a2
              rw [if_pos ⟨by omega,by omega⟩] at hu'
              obtain ⟨_,h2⟩:=hzu _ _ hu'
              have:(q*k'+j - off*k') % k' = j:=by
                obtain ⟨p,rfl⟩:∃ p,q = off+p:=⟨q - off,by omega⟩
                rw [Nat.add_mul,show off*k'+p*k'+j - off*k' = j+p*k' by omega,Nat.add_mul_mod_self_right,Nat.mod_eq_of_lt hj]
              rw [this] at h2
              exact z5 _ _ j d u hd' h2
            | false =>
              rw [hc,cond_false] at hd'
              have hj:j < k':=by rw [← c6 q hq]; exact (List.getElem?_eq_some_iff.1 hd').1
              have hno:¬ (off*k'≤q*k'+j∧q*k'+j < off*k'+n*k'):=by
                rintro ⟨g1,g2⟩
                have g3:¬ (off≤q∧q < off+n):=by
                  rintro ⟨h1,h2⟩
                  have:(Nat.ble off q&&Nat.blt q (off+n)) = true:=by rw [Bool.and_eq_true,Nat.ble_eq,Nat.blt_eq]; exact ⟨h1,h2⟩
                  rw [this] at hc; cases hc
                by_cases h1:off≤q
                · have h2:off+n≤q:=by omega
                  have:=Nat.mul_le_mul_right k' h2
                  rw [Nat.add_mul] at this
                  omega
                · have:(q+1)*k'≤off*k':=Nat.mul_le_mul_right _ (by omega)
                  rw [Nat.add_mul,Nat.one_mul] at this
                  omega
              rw [if_neg hno] at hu'
              exact hd _ _ (c8 q j d u hq hd' hu')
    · cases h
  · cases h
end
end Go.Ax
namespace Go.Ax
open Go.RowKit
def nA (ok:Nat→Prop):br:=⟨fun _=>none,fun _=>0,fun _=>0,fun _=>False,ok⟩
def O9 (ok:Nat→Prop) (w w':World) (v:Value):bN→Prop
  | .data d=>aM (nA fun b=>ok b∨(w.heap.size≤b∧b < w'.heap.size)) w' v d
  | .new d=>aM (nA fun b=>w.heap.size≤b∧b < w'.heap.size) w' v d
  | .own fr t k n el=>∃ xs,w'.ownsRow w.heap.size t k v n xs∧(∀ i,i < n→(el i).length = k)∧(∀ i j u,i < n→j < k→xs[i*k+j]? = some u→u.oneCell' = true) ∧
      ∀ i j d u,i < n→(el i)[j]? = some d→xs[i*k+j]? = some u→cC (fun b=>(fr = false∧ok b)∨(w.heap.size≤b∧b < w'.heap.size∧v.ownBlock≠some b)) w' u d
def wX (P:Program) (f:FuncId) (args:Array Value) (w:World) (R:Value→World→Prop):Prop :=
  ((callFunc f args).run P w = .ok (.enter f args) w∧Calls P f args w fun e w'=>∃ v,e = .returned v∧R v w')∨∃ v w',(callFunc f args).run P w = .ok (.value v) w'∧R v w'
theorem wX.mono {P:Program} {f:FuncId} {args:Array Value} {w:World} {R R':Value→World→Prop} (h:wX P f args w R) (hr:∀ v w',R v w'→R' v w'):wX P f args w R':=by
  rcases h with ⟨h1,h2⟩ | ⟨v,w',h1,h2⟩
  · refine .inl ⟨h1,h2.mono ?_⟩
    rintro e w' ⟨v,rfl,h⟩
    exact ⟨v,rfl,hr v w' h⟩
  · exact .inr ⟨v,w',h1,hr v w' h2⟩
def bg (P:Program) (f:FuncId) (con:bW):Prop :=
  ∀ (ok:Nat→Prop) (w:World) (xs:List Value) (vs:List V) (p:List Prop) (out:bN),cz (nA ok) w xs vs→(∀ b,ok b→b < w.heap.size)→con vs = some (p,out)→(∀ q∈p,q) →
    wX P f xs.toArray w fun v w'=>Below w.heap.size w w'∧O9 ok w w' v out
def bV (P:Program) (f:FuncId):CC→Prop
  | .pure c=>bg P f c
  | .mut m=>∀ (E:br) (w:World) (H:ap) (nid:Nat) (xs:List Value) (args:List V) (r:cR),bI E w H→¬ E.live nid→cz E w xs args→m (eI (dB H args) H) nid args = some r→(∀ p∈r.pre,p) →
    wX P f xs.toArray w fun v w'=>∃ E',ga E w H nid r E' w' v
section
variable {P:Program} {ρ:Operand→Value} {E:br} {w w':World} {o:Oper} {r:cR} {H:ap} {nid:Nat}
theorem jD (H:ap):∀ vs:List V,(V.views H vs).length = vs.length
  | []=>rfl
  | _ :: r=>by simp [V.views,jD H r]
theorem ou (H:ap):∀ (vs:List V) (i:Nat),(V.views H vs)[i]? = (vs[i]?).map (V.view H)
  | [],i=>by simp [V.views]
  | v :: r,0=>by simp [V.views]
  | v :: r,i+1=>by simp [V.views,ou H r i]
theorem Nr {ok':Nat→Prop} (hok:∀ b,E.ok b→ok' b) (hown:∀ q b,E.live q→E.conc q = some b→ok' b) {v:Value} {k n:Nat} {el:Nat→List D} {news:List Value} (h:Src E w v k n el news):cC ok' w v (.sl k n el):=by
  obtain ⟨a,c,rfl,hc,hm,hcell⟩:=h.form
  have hlt:∀ i j,i < n→j < k→i*k+j < news.length:=by
    intro i j hi hj
    rw [h.len]
    have:(i+1)*k≤n*k:=Nat.mul_le_mul_right _ hi
    rw [Nat.add_mul,Nat.one_mul] at this
    omega
  refine .sl a n c k el (fun i j=>news.getD (i*k+j) undef) hc hm (fun hn=>?_) (fun i j hi hj=>?_) h.els (fun i j d hi hd=>?_)
  · obtain ⟨ad,rfl,hq⟩:=hcell hn
    refine ⟨ad,rfl, ?_,fun i j hi hj=>hq _ _ ?_⟩
    · rcases h.blk ad n c rfl hn with h | ⟨q,h1,h2⟩
      · exact hok _ h
      · exact hown q _ h1 h2
    · rw [List.getD_eq_getElem?_getD,List.getElem?_eq_getElem (hlt i j hi hj)]; rfl
  · refine h.one _ ?_
    show news.getD (i*k+j) undef∈news
    rw [List.getD_eq_getElem?_getD,List.getElem?_eq_getElem (hlt i j hi hj)]
    exact List.getElem_mem _
  · have hj:j < k:=by rw [← h.els i hi]; exact (List.getElem?_eq_some_iff.1 hd).1
    refine (h.rep i j d (news.getD (i*k+j) undef) hi hd ?_).mono hok (fun _ _=>rfl)
    rw [List.getD_eq_getElem?_getD,List.getElem?_eq_getElem (hlt i j hi hj)]
    rfl
theorem Qd {ok':Nat→Prop} (hH:bI E w H) (hok:∀ b,E.ok b→ok' b) (hown:∀ q b,E.live q→E.conc q = some b→ok' b) {v:Value} {o' k off n:Nat} (h:aM E w v (.row o' k off n)) :
    ∃ d,HA H o' k off n = .c d∧cC ok' w v d:=by
  unfold HA
  split
  · next e k' m el hg =>
    cases hs:Nat.beq k' k with
    | false=>exact ⟨.unk,rfl, .unk _⟩
    | true =>
      have hkk:k' = k:=Nat.eq_of_beq_eq_true hs
      subst hkk
      have ha:jW H (.row o' k' off n) = some (k',n,fun i=>el (off+i)):=by simp [jW,hg]
      obtain ⟨news,hsrc⟩:=HD hH h ha
      exact ⟨_,rfl,Nr hok hown hsrc⟩
  · exact ⟨.unk,rfl, .unk _⟩
theorem XQ {ok':Nat→Prop} (hH:bI E w H) (hok:∀ b,E.ok b→ok' b) (hown:∀ q b,E.live q→E.conc q = some b→ok' b) {v:Value} {d:V} (h:aM E w v d):cC ok' w v (xH H d):=by
  unfold xH
  split
  · cases h with | c _ _ h=>exact h.mono hok fun _ _=>rfl
  · next o' k off n =>
    obtain ⟨d,hd,hr⟩:=Qd hH hok hown h
    rw [hd]
    exact hr
  · exact .unk _
theorem yH {ok':Nat→Prop} (hH:bI E w H) (hok:∀ b,E.ok b→ok' b) {v:Value} {d:V} (h:aM E w v d) :
    ((∀ q b,E.live q→E.conc q = some b→ok' b)∨d.refs = [])→aM (nA ok') w v (d.view H):=by
  induction h with
  | c v d h =>
    intro _
    have h':cC ok' w v d:=h.mono hok fun _ _=>rfl
    cases d with
    | nil =>
      cases h
      exact .c _ _ (.sl none 0 0 0 _ (fun _ _=>undef) (Nat.le_refl _) (by simp [maxLen]) (fun h=>by omega) (fun i j h=>by omega) (fun i h=>by omega) (fun i j d h=>by omega))
    | unk=>exact .c _ _ h'
    | lit u=>exact .c _ _ h'
    | opt b us=>exact .c _ _ h'
    | any=>exact .c _ _ h'
    | sl k n el=>exact .c _ _ h'
  | agg vs ds hl h ih =>
    intro hd
    rw [V.view]
    refine .agg _ _ (by rw [jD,hl]) fun i v d hv hd'=>?_
    rw [ou] at hd'
    cases hx:ds[i]? with
    | none=>rw [hx] at hd'; cases hd'
    | some x =>
      rw [hx] at hd'; cases hd'
      exact ih i v x hv hx (hd.imp id fun hr=>refs_nil hr hx)
  | tup vs ds hl h ih =>
    intro hd
    rw [V.view]
    refine .tup _ _ (by rw [jD,hl]) fun i v d hv hd'=>?_
    rw [ou] at hd'
    cases hx:ds[i]? with
    | none=>rw [hx] at hd'; cases hd'
    | some x =>
      rw [hx] at hd'; cases hd'
      exact ih i v x hv hx (hd.imp id fun hr=>refs_nil hr hx)
  | ptr o' k i j b hn hb hi =>
    intro hd
    have hown:∀ q b,E.live q→E.conc q = some b→ok' b:=hd.resolve_right (by simp [V.refs])
    rw [V.view]
    unfold QT
    split
    · next e k' m el hg =>
      cases hs:Nat.beq k' k with
      | false=>exact .unk _
      | true =>
        have hkk:k' = k:=Nat.eq_of_beq_eq_true hs
        subst hkk
        simp only [cond_true]
        obtain ⟨C,h2,h3,h4,h6,h7,h8⟩:=zf hH hg hb
        obtain ⟨_,hlen,_⟩:=hH.at_ _ _ hg
        have him:i < m:=by omega
        have hik:(i+1)*k'≤E.cap o'*k':=Nat.mul_le_mul_right _ (by omega)
        rw [Nat.add_mul,Nat.one_mul] at hik
        have hq:∀ q,q < k'→C[i*k'+q]? = some (C.getD (i*k'+q) undef):=by
          intro q hq
          have:i*k'+q < C.size:=by omega
          simp [Array.getD,this]
        have:=aM.dptr (E:=nA ok') (w:=w) k' (el i) j ⟨b,i*k',none⟩ (fun q=>C.getD (i*k'+q) undef) (hown o' b hn hb)
          (fun q hq'=>by rw [dP,cell_of_row w b _ C e (0,0) h2]; exact hq q hq') (h6 i him)
          (fun q d hd'=>by
            have hqk:q < k':=by rw [← h6 i him]; exact (List.getElem?_eq_some_iff.1 hd').1
            exact (h8 i q d _ him hd' (hq q hqk)).mono hok fun _ _=>rfl)
        rwa [dP] at this
    · next cs hg =>
      cases hs:Nat.beq cs.length k with
      | false=>exact .unk _
      | true =>
        have hkk:cs.length = k:=Nat.eq_of_beq_eq_true hs
        simp only [cond_true]
        obtain ⟨_,hlen,b',C,te,h1,h2,h3⟩:=hH.at_ _ _ hg
        rw [h1] at hb; cases hb
        have hi0:i = 0:=by omega
        subst hi0
        have hq:∀ q,q < k→C[q]? = some (C.getD q undef):=by
          intro q hq
          have:q < C.size:=by have:=h3.1; simp at this; omega
          simp [Array.getD,this]
        have:=aM.dptr (E:=nA ok') (w:=w) k (cs.map (xH H)) j ⟨b,0,none⟩ (fun q=>C.getD q undef) (hown o' b hn h1)
          (fun q hq'=>by rw [dP,Nat.zero_add,cell_of_row w b _ C te (0,0) h2]; exact hq q hq') (by simpa using hkk)
          (fun q d hd'=>by
            rw [List.getElem?_map] at hd'
            cases hx:cs[q]? with
            | none=>rw [hx] at hd'; cases hd'
            | some x =>
              rw [hx] at hd'; cases hd'
              have hqk:q < k:=by rw [← hkk]; exact (List.getElem?_eq_some_iff.1 hx).1
              exact XQ hH hok hown (h3.2 q _ x (by rw [Array.getElem?_toList]; exact hq q hqk) hx))
        rw [dP,Nat.zero_add] at this
        simpa using this
    · exact .c _ _ (.unk _)
    · exact .c _ _ (.unk _)
  | row o' k off n a c hn hc hm hl ha h0 =>
    intro hd
    have hown:∀ q b,E.live q→E.conc q = some b→ok' b:=hd.resolve_right (by simp [V.refs])
    rw [V.view]
    obtain ⟨d,hd',hr⟩:=Qd hH hok hown (.row o' k off n a c hn hc hm hl ha h0)
    rw [hd']
    exact .c _ _ hr
  | dptr k cs j ad u hok' hcell hl hu =>
    intro _
    rw [V.view]
    exact .dptr k cs j ad u (hok _ hok') hcell hl fun i d hd=>(hu i d hd).mono hok fun _ _=>rfl
  | fn f vs ds hl h ih =>
    intro hd
    rw [V.view]
    refine .fn _ _ _ (by rw [jD,hl]) fun i v d hv hd'=>?_
    rw [ou] at hd'
    cases hx:ds[i]? with
    | none=>rw [hx] at hd'; cases hd'
    | some x =>
      rw [hx] at hd'; cases hd'
      exact ih i v x hv hx (hd.imp id fun hr=>refs_nil hr hx)
where
  refs_nil {ds:List V} {i:Nat} {x:V} (h:V.refss ds = []) (hx:ds[i]? = some x):x.refs = []:=by
    cases hr:x.refs with
    | nil=>rfl
    | cons a l =>
      have:a∈V.refss ds:=dw hx (by rw [hr]; simp)
      rw [h] at this
      simp at this
theorem Ra {vs:List V} (h:pm vs = false):V.refss vs = []:=by
  unfold pm at h
  split at h
  · assumption
  · cases h
mutual
theorem scalar_rep {ok:Nat→Prop} {w w':World} {E':br}:∀ (d:V) {v:Value},d.scalar = true→aM (nA ok) w v d→aM E' w' v d
  | .c d,v,hs,h=>by
    cases h with
    | c _ _ h =>
      cases h with
      | unk=>exact .unk _
      | nil=>exact .c _ _ .nil
      | lit=>exact .lit _
      | opt=>simp [V.scalar] at hs
      | any v h1=>exact .c _ _ (.any v h1)
      | sl=>simp [V.scalar] at hs
  | .agg ds,v,hs,h=>by
    cases h with
    | agg vs _ hl h=>exact .agg _ _ hl fun i v d hv hd=>scalars_rep ds (by simpa [V.scalar] using hs) i d v hd (h i v d hv hd)
  | .tup ds,v,hs,h=>by
    cases h with
    | tup vs _ hl h=>exact .tup _ _ hl fun i v d hv hd=>scalars_rep ds (by simpa [V.scalar] using hs) i d v hd (h i v d hv hd)
  | .ptr ..,v,hs,h=>by simp [V.scalar] at hs
  | .row ..,v,hs,h=>by simp [V.scalar] at hs
  | .dptr ..,v,hs,h=>by simp [V.scalar] at hs
  | .fn ..,v,hs,h=>by simp [V.scalar] at hs
theorem scalars_rep {ok:Nat→Prop} {w w':World} {E':br}:∀ (ds:List V),V.scalars ds = true→∀ (i:Nat) (d:V) (v:Value),ds[i]? = some d→aM (nA ok) w v d→aM E' w' v d
  | [],hs,i,d,v,hd,h=>by simp at hd
  | x :: r,hs,0,d,v,hd,h=>by
    simp only [V.scalars,Bool.and_eq_true] at hs
    simp at hd; subst hd
    exact scalar_rep x hs.1 h
  | x :: r,hs,i+1,d,v,hd,h=>by
    simp only [V.scalars,Bool.and_eq_true] at hs
    exact scalars_rep r hs.2 i d v (by simpa using hd) h
end
theorem Aj {ok:Nat→Prop} {E':br} (hok:∀ b,ok b→E'.ok b) {v:Value} {d:V} (h:aM (nA ok) w v d):aM E' w v d :=
  h.mono (E:=nA ok) (kl:=[]) hok (fun _ _=>rfl) (fun o (ho:False)=>ho.elim) (fun o (ho:False)=>ho.elim) (N3 d)
theorem Wh (hH:bI E w H) (hf:¬ E.live nid) {C:FuncId→Option CC} (hC:∀ f con,C f = some con→bV P f con) {f:FuncId} {args:List V} {xs:List Value} (hx:cz E w xs args)
    (h:Pj C H nid f args = some r) (hp:∀ p∈r.pre,p) :
    wX P f xs.toArray w fun v w'=>∃ E',ga E w H nid r E' w' v:=by
  unfold Pj at h
  split at h
  · cases h
  · next m hm=>exact hC f (.mut m) hm E w H nid xs args r hH hf hx h hp
  · next con hcon =>
    have hmeet:bg P f con:=hC f (.pure con) hcon
    have view:∀ ok':Nat→Prop,(∀ b,E.ok b→ok' b)→((∀ q b,E.live q→E.conc q = some b→ok' b)∨pm args = false)→cz (nA ok') w xs (V.views H args):=by
      intro ok' h1 h2
      refine ⟨by rw [jD]; exact hx.1,fun i v d hv hd=>?_⟩
      rw [ou] at hd
      cases hy:args[i]? with
      | none=>rw [hy] at hd; cases hd
      | some y =>
        rw [hy] at hd; cases hd
        exact yH hH h1 (hx.2 i v y hv hy) (h2.imp id fun h=>yH.refs_nil (Ra h) hy)
    have dat:∀ (w':World),Below w.heap.size w w'→gm E w [] (E.next nid none 0 0 fun b=>E.ok b∨(w.heap.size≤b∧b < w'.heap.size)) w'∧bI (E.next nid none 0 0 fun b=>E.ok b∨(w.heap.size≤b∧b < w'.heap.size)) w' H:=by
      intro w' hb
      refine ⟨gG hf none 0 0 _ hb (by simp) (fun _ h=>.inl h) (fun b h=>h.imp id (·.1)),iy hf hH hb (by simp) (fun _ h=>.inl h) (fun b h=>h.imp id (·.1)) fun b h=>?_⟩
      rcases h with h | h
      · have:=hH.oklt b h; have:=hb.size; omega
      · exact h.2
    have full:∀ q b,E.live q→E.conc q = some b→(fun b=>E.ok b∨∃ q,E.live q∧E.conc q = some b) b:=fun q b hq hb=>.inr ⟨q,hq,hb⟩
    have fulllt:∀ b,(fun b=>E.ok b∨∃ q,E.live q∧E.conc q = some b) b→b < w.heap.size:=by
      rintro b (h | ⟨q,h1,h2⟩)
      · exact hH.oklt b h
      · exact hH.lt q b h1 h2
    split at h
    · cases h
    · next p v hcv =>
      cases hs:((!pm args)||v.scalar) with
      | false=>simp [hs] at h
      | true =>
        simp only [hs,cond_true,Option.some.injEq] at h
        subst h
        have hpp:∀ q∈p,q:=hp
        cases ha:pm args with
        | false =>
          refine (hmeet E.ok w xs _ p _ (view E.ok (fun _ h=>h) (.inr ha)) hH.oklt hcv hpp).mono ?_
          rintro u w' ⟨hb,hout⟩
          obtain ⟨hS,hN⟩:=dat w' hb
          exact ⟨_,hS,hN,Aj (fun _ h=>h) hout,eJ⟩
        | true =>
          have hsc:v.scalar = true:=by simpa [ha] using hs
          refine (hmeet _ w xs _ p _ (view _ (fun _ h=>.inl h) (.inl full)) fulllt hcv hpp).mono ?_
          rintro u w' ⟨hb,hout⟩
          obtain ⟨hS,hN⟩:=dat w' hb
          exact ⟨_,hS,hN,scalar_rep v hsc hout,eJ⟩
    · next p v hcv =>
      cases h
      have hpp:∀ q∈p,q:=hp
      refine (hmeet _ w xs _ p _ (view _ (fun _ h=>.inl h) (.inl full)) fulllt hcv hpp).mono ?_
      rintro u w' ⟨hb,hout⟩
      obtain ⟨hS,hN⟩:=dat w' hb
      exact ⟨_,hS,hN,Aj (E':=E.next nid none 0 0 fun b=>E.ok b∨(w.heap.size≤b∧b < w'.heap.size)) (fun _ h=>Or.inr h) hout,eJ⟩
    · next p fr t k n el hcv =>
      cases hs:((!pm args)||fr) with
      | false=>simp [hs] at h
      | true =>
        simp only [hs,cond_true,Option.some.injEq] at h
        subst h
        have hpp:∀ q∈p,q:=hp
        have fin:∀ (ok:Nat→Prop) (w':World) (u:Value),(fr = false→∀ b,ok b→E.ok b)→Below w.heap.size w w'→O9 ok w w' u (.own fr t k n el) →
            ∃ E',ga E w H nid { pre:=p,val:=.row nid k 0 n,eff:=[(nid,some (.row t k n el))] } E' w' u:=by
          rintro ok w' u hfr hb ⟨ys,hown,h6,h7,h8⟩
          have hlt:=hown.lt
          have hown0:w'.ownsRow 0 t k u n ys:=⟨hown.1,hown.2.imp id fun ⟨g,cap,cur,a,_,c⟩=>⟨g,cap,cur,a,Nat.zero_le _,c⟩⟩
          let ok':Nat→Prop:=fun b=>E.ok b∨(w.heap.size≤b∧b < w'.heap.size∧u.ownBlock≠some b)
          have h1:∀ b,u.ownBlock = some b→w.heap.size≤b∧b < w'.heap.size∧¬ ok' b:=by
            intro b hb'
            obtain ⟨a1,a2⟩:=hlt b hb'
            refine ⟨a1,a2, ?_⟩
            rintro (h | ⟨_,_,h⟩)
            · have:=hH.oklt b h; omega
            · exact h hb'
          have h2:∀ b,ok' b→E.ok b∨w.heap.size≤b:=fun b h=>h.imp id (·.1)
          have h3:∀ b,ok' b→b < w'.heap.size:=by
            rintro b (h | h)
            · have:=hH.oklt b h; have:=hb.size; omega
            · exact h.2.1
          have hS:gm E w [] (E.next nid u.ownBlock (ve u) n ok') w':=gG hf _ _ _ ok' hb (fun b h=>(h1 b h).1) (fun _ h=>.inl h) h2
          have hN:=iy (cap:=ve u) (len:=n) hf hH hb h1 (fun _ h=>.inl h) h2 h3
          have hob:=Fj (E':=E.next nid u.ownBlock (ve u) n ok') (q:=nid) (el:=el) hown0 (by simp [br.next]) (by simp [br.next]) (by intro a m c e; simp [br.next,e,ve]) h6 h7
            (fun i j d x hi hd hx=>(h8 i j d x hi hd hx).mono (fun b hb'=>by
              rcases hb' with ⟨h,h'⟩ | h
              · exact .inl (hfr h b h')
              · exact .inr h) fun _ _=>rfl)
          exact ⟨_,hS,ww hN (.inl rfl) hob.1,hob.2 (.inl rfl),eJ⟩
        cases ha:pm args with
        | false =>
          refine (hmeet E.ok w xs _ p _ (view E.ok (fun _ h=>h) (.inr ha)) hH.oklt hcv hpp).mono ?_
          rintro u w' ⟨hb,hout⟩
          obtain ⟨E',hP⟩:=fin _ w' u (fun _ _ h=>h) hb hout
          exact ⟨E',hP⟩
        | true =>
          have hfr:fr = true:=by simpa [ha] using hs
          refine (hmeet _ w xs _ p _ (view _ (fun _ h=>.inl h) (.inl full)) fulllt hcv hpp).mono ?_
          rintro u w' ⟨hb,hout⟩
          obtain ⟨E',hP⟩:=fin _ w' u (fun h=>by rw [hfr] at h; cases h) hb hout
          exact ⟨E',hP⟩
theorem cz.cons_inv {x:Value} {xs:List Value} {ds:List V} (h:cz E w (x :: xs) ds):∃ d ds',ds = d :: ds'∧aM E w x d∧cz E w xs ds':=by
  match ds with
  | []=>have:=h.1; simp at this
  | d :: ds'=>exact ⟨d,ds',rfl,h.2 0 _ _ rfl rfl,by have:=h.1; simpa using this,fun i v d a b=>h.2 (i+1) v d a b⟩
theorem cz.nil_inv {ds:List V} (h:cz E w [] ds):ds = []:=List.eq_nil_of_length_eq_zero h.1.symm
def br.fz (E:br) (o:Nat):br where
  conc q:=if q = o then none else E.conc q
  cap:=E.cap
  len q:=if q = o then 0 else E.len q
  live:=E.live
  ok b:=E.ok b∨E.conc o = some b
theorem mB (o:Nat) (el:Nat→List D) (kk:Nat):∀ vs:List V,(V.fzs o el kk vs).length = vs.length
  | []=>rfl
  | _ :: r=>by simp [V.fzs,mB o el kk r]
theorem uH (o:Nat) (el:Nat→List D) (kk:Nat):∀ (vs:List V) (i:Nat),(V.fzs o el kk vs)[i]? = (vs[i]?).map (V.fz o el kk)
  | [],i=>by simp [V.fzs]
  | v :: r,0=>by simp [V.fzs]
  | v :: r,i+1=>by simp [V.fzs,uH o el kk r i]
theorem Io {q o:Nat} (h:q≠o):(E.fz o).conc q = E.conc q∧(E.fz o).cap q = E.cap q∧(E.fz o).len q = E.len q:=by simp [br.fz,h]
theorem rz {q o b:Nat} (h:(E.fz o).conc q = some b):q≠o∧E.conc q = some b:=by
  by_cases e:q = o
  · simp [br.fz,e] at h
  · exact ⟨e,by rwa [(Io e).1] at h⟩
theorem MX {o:Nat} (ho:E.live o):gm E w [o] (E.fz o) w :=
  ⟨rfl,rfl,rfl,Nat.le_refl _,fun _ h=>h,fun _ _ _=>rfl,fun _ h=>.inl h,fun b h=>h.elim .inl fun h=>.inr (.inr ⟨o,ho,h⟩),fun q _ hq=>Io (by simpa using hq),fun q b hq h=>.inl ⟨q,hq,(rz h).2⟩⟩
theorem MY {o:Nat} (hH:bI E w H) {e:TypeId} {k n:Nat} {el:Nat→List D} (hg:H.get o = some (.row e k n el)):bI (E.fz o) w ((o,some (.row e k 0 el)) :: gO [o] H):=by
  have ho:=(hH.at_ o _ hg).1
  have hrv:∀ v d,aM E w v d→aM (E.fz o) w v (d.kill o):=fun v d h=>aM.step (MX ho) hH.sep hH.oklt h
  have hrd:∀ v d,cC E.ok w v d→cC (E.fz o).ok w v d:=fun v d h=>h.mono (fun _ h=>.inl h) fun _ _=>rfl
  refine ⟨fun q ob hq=>?_,fun q q' b hq hq' h h'=>hH.inj q q' b hq hq' (rz h).2 (rz h').2,fun q b hq h=>?_,fun q b hq h=>hH.lt q b hq (rz h).2,fun b h=>h.elim (hH.oklt b) (hH.lt o b ho)⟩
  · rw [ap.get_cons] at hq
    split at hq
    · next e1 =>
      subst e1; cases hq
      exact ⟨ho,by simp [br.fz], .inl ⟨by simp [br.fz],rfl⟩⟩
    · next hne =>
      rw [ir] at hq
      obtain ⟨y,hy,hky⟩:=Ba hq
      obtain ⟨h1,h2⟩:=hH.at_ q y hy
      refine ⟨h1, ?_⟩
      obtain ⟨c1,c2,c3⟩:=Io (E:=E) (fun e=>hne e.symm:q≠o)
      cases y with
      | box cs =>
        cases hky
        obtain ⟨hl,b,C,te,g1,g2,g3⟩:=h2
        refine ⟨c3.trans hl,b,C,te,c1.trans g1,g2,by rw [lL]; exact g3.1,fun i v d hv hd=>?_⟩
        rw [rK] at hd
        cases hx':cs[i]? with
        | none=>rw [hx'] at hd; cases hd
        | some y=>rw [hx'] at hd; cases hd; exact hrv _ _ (g3.2 i v y hv hx')
      | raw x =>
        cases hky
        obtain ⟨hl,b,g1,g2⟩:=h2
        exact ⟨c3.trans hl,b,c1.trans g1,g2⟩
      | row te kk nn ell =>
        cases hky
        obtain ⟨hl,hh⟩:=h2
        refine ⟨c3.trans hl, ?_⟩
        rcases hh with ⟨g1,g2⟩ | ⟨b,C,g1,g2,g3,g4,g5,g6,g7,g8⟩
        · exact .inl ⟨c1.trans g1,g2⟩
        · exact .inr ⟨b,C,c1.trans g1,g2,by rw [c2]; exact g3,by rw [c2]; exact g4,by rw [c2]; exact g5,g6,g7,fun i j d u a b c=>hrd _ _ (g8 i j d u a b c)⟩
  · obtain ⟨h1,h2⟩:=rz h
    rintro (h3 | h3)
    · exact hH.sep q b hq h2 h3
    · exact h1 (hH.inj q o b hq ho h2 h3)
theorem Mk {o:Nat} (hH:bI E w H) {e:TypeId} {k n:Nat} {el:Nat→List D} (hg:H.get o = some (.row e k n el)) {v:Value} {d:V} (h:aM E w v d):aM (E.fz o) w v (d.fz o el k):=by
  induction h with
  | c v d h=>exact .c v d (h.mono (fun _ h=>.inl h) fun _ _=>rfl)
  | agg vs ds hl h ih =>
    rw [V.fz]
    refine .agg _ _ (by rw [mB,hl]) fun i v d hv hd=>?_
    rw [uH] at hd
    cases hx:ds[i]? with
    | none=>rw [hx] at hd; cases hd
    | some x=>rw [hx] at hd; cases hd; exact ih i v x hv hx
  | tup vs ds hl h ih =>
    rw [V.fz]
    refine .tup _ _ (by rw [mB,hl]) fun i v d hv hd=>?_
    rw [uH] at hd
    cases hx:ds[i]? with
    | none=>rw [hx] at hd; cases hd
    | some x=>rw [hx] at hd; cases hd; exact ih i v x hv hx
  | ptr o' k i j b hn hb hi =>
    rw [V.fz]
    cases hq:Nat.beq o' o
    · have hne:o'≠o:=fun e=>by subst e; simp at hq
      obtain ⟨c1,c2,c3⟩:=Io (E:=E) hne
      exact .ptr o' k i j b hn (c1.trans hb) (by rw [c3]; exact hi)
    · exact .c _ _ (.unk _)
  | row o' k' off n' a c hn hc hm hl ha h0 =>
    rw [V.fz]
    cases hq:Nat.beq o' o
    · have hne:o'≠o:=fun e=>by subst e; simp at hq
      obtain ⟨c1,c2,c3⟩:=Io (E:=E) hne
      exact .row o' k' off n' a c hn hc hm (by rw [c3]; exact hl) (by rw [c1]; exact ha) (by rw [c1,c2]; exact h0)
    · have:=Nat.eq_of_beq_eq_true hq
      subst this
      rw [cond_true]
      cases hk:Nat.beq k k' with
      | false=>exact .c _ _ (.unk _)
      | true =>
        have:=Nat.eq_of_beq_eq_true hk
        subst this
        rw [cond_true]
        have hr:=aM.row o' k off n' a c hn hc hm hl ha h0 (w:=w)
        obtain ⟨news,hsrc⟩:=HD hH hr (show jW H (.row o' k off n') = some (k,n',fun i=>el (off+i)) by simp [jW,hg])
        have hsrc':Src { E with live:=fun q=>q = o' } w (.slice a n' c) k n' (fun i=>el (off+i)) news :=
          ⟨hsrc.form,fun ad n2 c2 he hn2=>by
            cases he
            obtain ⟨b,hb,hab⟩:=ha hn2
            cases hab
            exact .inr ⟨o',rfl,hb⟩,hsrc.len,hsrc.one,hsrc.els,hsrc.rep⟩
        exact .c _ _ (Nr (E:={ E with live:=fun q=>q = o' }) (ok':=(E.fz o').ok) (fun _ h=>.inl h) (fun q b hq hb=>by
          have e1:q = o':=hq
          subst e1; exact .inr hb) hsrc')
  | dptr k' cs j ad u hok hcell hl hu=>exact .dptr k' cs j ad u (.inl hok) hcell hl fun i d hd=>(hu i d hd).mono (fun _ h=>.inl h) fun _ _=>rfl
  | fn f vs ds hl h ih =>
    rw [V.fz]
    refine .fn _ _ _ (by rw [mB,hl]) fun i v d hv hd=>?_
    rw [uH] at hd
    cases hx:ds[i]? with
    | none=>rw [hx] at hd; cases hd
    | some x=>rw [hx] at hd; cases hd; exact ih i v x hv hx
theorem gm.trans1 {E1 E2:br} {o:Nat} {kl:List Nat} {w1:World} (h:gm E w [o] E1 w) (h':gm E1 w kl E2 w1) (hl:∀ q,E1.live q→E.live q) (hc:∀ q b,E1.conc q = some b→E.conc q = some b):gm E w (o :: kl) E2 w1 :=
  ⟨h'.os,h'.tape,h'.output,h'.size,fun q hq=>h'.live q (h.live q hq),fun b hb hn=>h'.blk b hb fun q hq hcq=>hn q (hl q hq) (hc q b hcq),fun b hb=>h'.ok b (h.ok b hb),fun b hb=>by
    rcases h'.okold b hb with g | g | ⟨q,g1,g2⟩
    · exact h.okold b g
    · exact .inr (.inl g)
    · exact .inr (.inr ⟨q,hl q g1,hc q b g2⟩),fun q hq hn=>by
    have a1:=h.conc q hq (by simp at hn; simp [hn.1])
    have a2:=h'.conc q (h.live q hq) (by simp at hn; exact hn.2)
    exact ⟨a2.1.trans a1.1,a2.2.1.trans a1.2.1,a2.2.2.trans a1.2.2⟩,fun q b hq hb=>by
    rcases h'.concnew q b hq hb with ⟨q',g1,g2⟩ | g
    · exact .inl ⟨q',hl q' g1,hc q' b g2⟩
    · exact .inr g⟩
theorem CW (kl:List Nat) (o:Nat) (e k n:Nat) (el:Nat→List D):∀ H:ap,gO kl ((o,some (.row e k n el)) :: H) = (o,some (.row e k n el)) :: gO kl H:=by
  induction kl with
  | nil=>intro H; rfl
  | cons x r ih=>intro H; rw [gO,List.map_cons,gO]; exact ih _
theorem Jt {o:Oper} {nid:Nat} {t:TypeId} {len:Nat} {parts:Array (Nat × Operand)} {ρ:Operand→Value} (ho:o.op = .buildSlice t len parts):∀ (fl:List Nat) (E:br) (H:ap) (vs:List V) (r:cR),bI E w H→¬ E.live nid→cz E w (parts.toList.map fun p=>ρ p.2) vs →
    sG P nid t len (parts.toList.map (·.1)) fl H vs = some r→∃ E' w' v',(execOp ρ o).run P w = .ok (.value v') w'∧ga E w H nid r E' w' v'
  | [],E,H,vs,r,hH,hf,hv,h=>Mm hH hf ho hv h
  | q :: fl,E,H,vs,r,hH,hf,hv,h=>by
    rw [sG] at h
    split at h
    · next e k n el hg =>
      have hq:=(hH.at_ q _ hg).1
      cases hb:sG P nid t len (parts.toList.map (·.1)) fl ((q,some (.row e k 0 el)) :: gO [q] H) (V.fzs q el k vs) with
      | none=>rw [hb] at h; cases h
      | some r0 =>
        rw [hb] at h; cases h
        obtain ⟨E',w',v',h1,h2⟩:=Jt ho fl (E.fz q) _ _ r0 (MY hH hg) hf ⟨by rw [mB]; exact hv.1,fun i v d hi hd=>by
          rw [uH] at hd
          cases hx:vs[i]? with
          | none=>rw [hx] at hd; cases hd
          | some x=>rw [hx] at hd; cases hd; exact Mk hH hg (hv.2 i v x hi hx)⟩ hb
        refine ⟨E',w',v',h1,(MX hq).trans1 h2.st (fun _ h=>h) (fun _ _ h=>(rz h).2), ?_,h2.val,h2.live⟩
        have:=h2.heap
        rw [CW] at this
        rw [List.append_assoc]
        exact this
    · cases h
theorem Zg (hH:bI E w H) (hf:¬ E.live nid) {C:FuncId→Option CC} (hC:∀ f con,C f = some con→bV P f con) {a:Act} {vs:List V} (hv:cz E w ((jc o.op).map a.eval) vs)
    (h:Le P C H nid o vs = some r) (hp:∀ p∈r.pre,p) {K:Act→World→Prop} {Q:Exit→Act→World→Prop} (hK:∀ E' w' v',ga E w H nid r E' w' v'→K (a.put o.dst v') w'):o.wp P a w K Q:=by
  have fin:(∃ E' w' v',(execOp a.eval o).run P w = .ok (.value v') w'∧ga E w H nid r E' w' v')→o.wp P a w K Q:=by
    rintro ⟨E',w',v',h1,h2⟩
    unfold Oper.wp
    rw [h1]
    exact hK E' w' v' h2
  have finq:nD P a.eval o E w r→o.wp P a w K Q:=fun hq=>by
    obtain ⟨v',h1,h2⟩:=UN hH hf hq
    exact fin ⟨_,w,v',h1,h2⟩
  unfold Le at h
  split at h
  · next x d ho =>
    rw [ho] at hv
    cases h
    exact finq ⟨rfl,rfl,Ue ho (hv.2 0 _ _ rfl rfl)⟩
  · next x d ho =>
    rw [ho] at hv
    cases h
    exact finq ⟨rfl,rfl,PN ho (hv.2 0 _ _ rfl rfl)⟩
  · next t ho =>
    split at h
    · next z hz=>exact fin (TX hH hf ho hz h)
    · cases h
  · next t x d ho =>
    rw [ho] at hv
    exact fin (ZK hH hf ho (hv.2 0 _ _ rfl rfl) h)
  · next t parts vs ho =>
    rw [ho] at hv
    exact finq (Se ho (by simpa [jc,Op.operands,List.map_map,Function.comp_def] using hv) h)
  · next t len parts vs ho =>
    rw [ho] at hv
    exact fin (Jt ho _ E H _ r hH hf (by simpa [jc,Op.operands,List.map_map,Function.comp_def] using hv) h)
  · next t x d ho =>
    rw [ho] at hv
    exact finq (RS hH ho (hv.2 0 _ _ rfl rfl) h hp)
  · next t x y d e ho =>
    rw [ho] at hv
    obtain ⟨E',w',h1,h2⟩:=RV hH hf ho (hv.2 0 _ _ rfl rfl) (hv.2 1 _ _ rfl rfl) h hp
    unfold Oper.wp
    rw [h1]
    exact hK E' w' undef h2
  · next x d ho =>
    rw [ho] at hv
    exact finq (Nd ho (hv.2 0 _ _ rfl rfl) h)
  · next op t x y ty d e ho =>
    rw [ho] at hv
    exact finq (X1 ho (hv.2 0 _ _ rfl rfl) (hv.2 1 _ _ rfl rfl) h hp)
  · next op t x d ho =>
    rw [ho] at hv
    exact finq (Zi ho (hv.2 0 _ _ rfl rfl) h)
  · next s t x d ho =>
    rw [ho] at hv
    split at h
    · next e hs hd =>
      split at h
      · next he=>exact finq (RR hH hs hd he ho (hv.2 0 _ _ rfl rfl) h hp)
      · cases h
    · exact finq (Vd ho (hv.2 0 _ _ rfl rfl) h)
  · next t x f d ho =>
    rw [ho] at hv
    exact finq (LL ho (hv.2 0 _ _ rfl rfl) h)
  · next t x f d ho =>
    rw [ho] at hv
    exact finq (R6 ho (hv.2 0 _ _ rfl rfl) h)
  · next t x y d e ho =>
    rw [ho] at hv
    exact finq (Lu hH ho (hv.2 0 _ _ rfl rfl) (hv.2 1 _ _ rfl rfl) h hp)
  · next t x y d e ho =>
    rw [ho] at hv
    exact finq (Sb ho (hv.2 0 _ _ rfl rfl) (hv.2 1 _ _ rfl rfl) h hp)
  · next t x d ho =>
    rw [ho] at hv
    exact finq (vf (dlo:=none) (dhi:=none) ho (hv.2 0 _ _ rfl rfl) (by simp) (by simp) (by simp) (by simp) h hp)
  · next t x l d e ho =>
    rw [ho] at hv
    exact finq (vf (dlo:=some e) (dhi:=none) ho (hv.2 0 _ _ rfl rfl) (fun y hy=>by cases hy; exact ⟨_,rfl,hv.2 1 _ _ rfl rfl⟩) (by simp) (by simp) (by simp) h hp)
  · next t x l d e ho =>
    rw [ho] at hv
    exact finq (vf (dlo:=none) (dhi:=some e) ho (hv.2 0 _ _ rfl rfl) (by simp) (by simp) (fun y hy=>by cases hy; exact ⟨_,rfl,hv.2 1 _ _ rfl rfl⟩) (by simp) h hp)
  · next t x l hh d e g ho =>
    rw [ho] at hv
    exact finq (vf (dlo:=some e) (dhi:=some g) ho (hv.2 0 _ _ rfl rfl) (fun y hy=>by cases hy; exact ⟨_,rfl,hv.2 1 _ _ rfl rfl⟩) (by simp) (fun y hy=>by cases hy; exact ⟨_,rfl,hv.2 2 _ _ rfl rfl⟩) (by simp) h hp)
  · next t l c d e ho =>
    rw [ho] at hv
    exact fin (MT hH hf ho (hv.2 0 _ _ rfl rfl) (hv.2 1 _ _ rfl rfl) h hp)
  · next vs f first caps ho =>
    rw [ho] at hv
    cases hf:(first.isEmpty&&Nat.blt f 1000000000) with
    | false=>rw [hf] at h; cases h
    | true =>
      rw [hf] at h
      simp only [cond_true,Option.some.injEq] at h
      subst h
      rw [Bool.and_eq_true] at hf
      have h0:first = #[]:=by simpa using hf.1
      subst h0
      exact finq ⟨rfl,rfl,NE ho rfl hf.2 (by simpa [jc,Op.operands] using hv)⟩
  · next t x d ho =>
    rw [ho] at hv
    split at h
    · next e hu =>
      cases hc:V.isCell d with
      | false=>rw [hc] at h; cases h
      | true =>
        rw [hc] at h
        simp only [cond_true,Option.some.injEq] at h
        subst h
        exact finq ⟨rfl,rfl,GJ ho hu (hv.2 0 _ _ rfl rfl)⟩
    · cases h
  · next x ix d ho =>
    rw [ho] at hv
    exact finq (Ow ho (hv.2 0 _ _ rfl rfl) h hp)
  · next t x d ho =>
    rw [ho] at hv
    exact fin (UI hH hf ho (hv.2 0 _ _ rfl rfl) h)
  · next x d ho =>
    rw [ho] at hv
    exact fin (WX hH hf ho (hv.2 0 _ _ rfl rfl) h)
  · next args argTypes d ho =>
    rw [ho] at hv
    obtain ⟨x,hx⟩:∃ x,args.toList = [x]:=by
      have h2:args.toList.length = 1:=by have:=hv.1; simpa [jc] using this
      match hl:args.toList,h2 with
      | [p],_=>exact ⟨p,rfl⟩
    have hargs:args = #[x]:=by rw [← Array.toArray_toList (xs:=args),hx]
    subst hargs
    split at h
    · next t ht =>
      cases hu:P.underlying t with
      | none=>simp [Tt,hu] at h
      | some dd=>exact finq (W6 ho rfl rfl ht hu (hv.2 0 _ _ rfl rfl) h)
    · cases h
  · next args argTypes d ho =>
    rw [ho] at hv
    obtain ⟨x,hx⟩:∃ x,args.toList = [x]:=by
      have h2:args.toList.length = 1:=by have:=hv.1; simpa [jc] using this
      match hl:args.toList,h2 with
      | [p],_=>exact ⟨p,rfl⟩
    have hargs:args = #[x]:=by rw [← Array.toArray_toList (xs:=args),hx]
    subst hargs
    split at h
    · next t ht=>exact fin (Tr hH hf ho rfl rfl ht (hv.2 0 _ _ rfl rfl) h)
    · cases h
  · next vs _ _ args argTypes ho =>
    rw [ho] at hv
    cases hm:Tp vs with
    | none=>simp [hm] at h
    | some m =>
      simp only [hm,Option.map_some,Option.some.injEq] at h
      subst h
      exact finq ⟨rfl,rfl,WM ho rfl (by simpa [jc] using hv) hm⟩
  · next vs _ _ args argTypes ho =>
    rw [ho] at hv
    cases hm:Tl vs with
    | none=>simp [hm] at h
    | some m =>
      simp only [hm,Option.map_some,Option.some.injEq] at h
      subst h
      exact finq ⟨rfl,rfl,Wb ho rfl (by simpa [jc] using hv) hm⟩
  · next args argTypes s x ho =>
    rw [ho] at hv
    obtain ⟨s',x',hsx⟩:∃ s' x',args.toList = [s',x']:=by
      have h2:args.toList.length = 2:=by have:=hv.1; simpa [jc] using this
      match hl:args.toList,h2 with
      | [p,q],_=>exact ⟨p,q,rfl⟩
    have hargs:args = #[s',x']:=by rw [← Array.toArray_toList (xs:=args),hsx]
    subst hargs
    split at h
    · next t t' ht =>
      cases hb:Nat.beq t t' with
      | false=>simp [hb] at h
      | true =>
        have htt:t = t':=Nat.eq_of_beq_eq_true hb
        subst htt
        simp only [hb,cond_true] at h
        have hat:argTypes = #[t,t]:=by rw [← Array.toArray_toList (xs:=argTypes),ht]
        exact fin (RD hH hf ho rfl rfl hat (hv.2 0 _ _ rfl rfl) (hv.2 1 _ _ rfl rfl) h hp)
    · cases h
  · next f args argTypes g caps ds ho =>
    rw [ho] at hv
    obtain ⟨_,_,e,hf,ha⟩:=cz.cons_inv hv
    cases e
    generalize hfv:a.eval f = fv at hf
    cases hglt:Nat.blt g 1000000000 with
    | false=>rw [hglt] at h; cases h
    | true =>
    rw [hglt] at h
    simp only [cond_true] at h
    cases hf with
    | fn _ cs _ hcl hch =>
      rw [zz hglt] at hfv
      have hall:cz E w (args.toList.map a.eval++cs) (ds++caps):=by
        refine ⟨by rw [List.length_append,List.length_append,ha.1,hcl],fun i v d hv' hd'=>?_⟩
        rw [List.getElem?_append] at hv' hd'
        rw [← ha.1] at hd'
        split at hv'
        · next hlt=>rw [if_pos hlt] at hd'; exact ha.2 i v d hv' hd'
        · next hge=>rw [if_neg hge] at hd'; exact hch _ v d hv' hd'
      have hcalls:=Wh hH hf hC hall h hp
      have hargs:args.map a.eval++cs.toArray = (args.toList.map a.eval++cs).toArray:=by
        rw [← Array.toArray_toList (xs:=args.map a.eval++cs.toArray)]
        simp
      have hrun:(execOp a.eval o).run P w = (callFunc g (args.toList.map a.eval++cs).toArray).run P w:=by
        simp only [execOp,ho,resolve,hfv,Deferred.ofValue,invoke,Sem.run_bind,Sem.run_pure,Result.andThen_ok,Array.empty_append,hargs]
      unfold Oper.wp
      rw [hrun]
      rcases hcalls with ⟨h1,h2⟩ | ⟨v,w',h1,E',hP⟩
      · rw [h1]
        refine Calls.mono h2 ?_
        rintro e w' ⟨v,rfl,E',hP⟩
        exact hK E' w' v hP
      · rw [h1]
        exact hK E' w' v hP
  · cases h
end
end Go.Ax
namespace Go.Ax
open Go.RowKit
def pW (tm:List (Nat × bA)) (E:br) (w:World) (v:Value) (s:bA):Prop :=
  (holds tm s.ch = true→aM E w v s.v)∧(s.ch.all (fun x=>ff tm x.1) = true→holds tm s.ch = false→v = undef)
structure j5 where
  W:World
  ok:Nat→Prop
  mb:Nat→Prop
  gh:Nat→Value:=fun _=>undef
def kZ (B:j5) (a:Act) (t:Nat):Value:=if t < 1000000 then a.tmps.getD t undef else B.gh t
theorem AI {B:j5} {a:Act} {t:Nat} (h:t < 1000000):kZ B a t = a.tmps.getD t undef:=if_pos h
structure Ct (M:Nat→Prop) (n:Nat) (w w':World):Prop where
  os:w'.os = w.os
  tape:w'.tape = w.tape
  output:w'.output = w.output
  size:w.heap.size≤w'.heap.size
  block:∀ k,k < n→¬ M k→w'.heap[k]? = w.heap[k]?
theorem Ct.refl (M:Nat→Prop) (n:Nat) (w:World):Ct M n w w:=⟨rfl,rfl,rfl,Nat.le_refl _,fun _ _ _=>rfl⟩
theorem Ct.below {n:Nat} {w w':World} (h:Ct (fun _=>False) n w w'):Below n w w':=⟨h.os,h.tape,h.output,h.size,fun k hk=>h.block k hk (fun h=>h)⟩
structure dN (N:Nat) (B:j5) (σ:St) (E:br) (a:Act) (w:World):Prop where
  size:a.tmps.size = N
  small:N≤1000000
  defers:a.defers = []
  live:∀ q,σ.nx≤q→¬ E.live q
  heap:bI E w σ.hp
  slots:∀ t s,bv σ.tm t = some s→pW σ.tm E w (kZ B a t) s
  base:Ct B.mb B.W.heap.size B.W w
  own:∀ o b,E.live o→E.conc o = some b→B.W.heap.size≤b∨B.mb b
  okold:∀ b,E.ok b→B.ok b∨B.W.heap.size≤b∨B.mb b
section
variable {P:Program} {N:Nat} {B:j5} {σ:St} {E:br} {a:Act} {w:World}
theorem rW {a b:Nat} (h:a≠b):Nat.beq a b = false:=by
  cases hb:Nat.beq a b
  · rfl
  · exact (h (Nat.eq_of_beq_eq_true hb)).elim
theorem dx (t':Nat) (s:bA) (r:List (Nat × bA)) (t:Nat):bv ((t',s) :: r) t = if t' = t then some s else bv r t:=by
  rw [bv]
  by_cases h:t' = t
  · subst h; simp
  · rw [rW h]; simp [h]
theorem oK:∀ (tm:List (Nat × bA)) (t:Nat) (s:bA) (t':Nat),bv (ma tm t s) t' = if t = t' then some s else bv tm t'
  | [],t,s,t'=>by rw [ma,dx]
  | (q,x) :: r,t,s,t'=>by
    rw [ma]
    by_cases h:q = t
    · subst h
      rw [show Nat.beq q q = true by simp,cond_true,dx,dx]
      split <;> rfl
    · rw [rW h,cond_false]
      cases Nat.blt t q
      · rw [cond_false,dx,oK r,dx]
        by_cases h1:q = t'
        · rw [if_pos h1,if_pos h1,if_neg (by omega)]
        · rw [if_neg h1,if_neg h1]
      · rw [cond_true,dx]
theorem Eb (f:bA→bA):∀ (tm:List (Nat × bA)) (t:Nat),bv (tm.map fun x=>(x.1,f x.2)) t = (bv tm t).map f
  | [],t=>rfl
  | (q,x) :: r,t=>by
    rw [List.map_cons,dx,dx,Eb f r]
    split <;> rfl
theorem oX:∀ (kl:List Nat) (tm:List (Nat × bA)) (t:Nat),bv (xY kl tm) t = (bv tm t).map fun s=>{ ch:=s.ch,v:=s.v.killAll kl }
  | [],tm,t=>by simp [xY,V.killAll]
  | o :: r,tm,t=>by
    rw [xY,oX r,Eb (fun s=>{ ch:=s.ch,v:=s.v.kill o })]
    cases bv tm t <;> simp [V.killAll]
def cV:Option bA→Option Bool
  | some { v:=.c (.lit (.bool b)), .. }=>some b
  | _=>none
theorem p7 {s:Option bA} {b:Bool} (h:cV s = some b):∃ ch,s = some { ch,v:=.c (.lit (.bool b)) }:=by
  unfold cV at h
  split at h
  · next ch b'=>cases h; exact ⟨ch,rfl⟩
  · cases h
theorem jf (tm:List (Nat × bA)) (t:Nat) (w:Bool) (r:cQ):holds tm ((t,w) :: r) = ((match cV (bv tm t) with | some b=>(b == w) | none=>false)&&holds tm r):=by
  rw [holds]
  congr 1
  cases hb:cV (bv tm t) with
  | some b =>
    obtain ⟨ch,e⟩:=p7 hb
    rw [e]
    cases w <;> cases b <;> rfl
  | none =>
    split
    · next h=>rw [h] at hb; simp [cV] at hb
    · rfl
theorem nk {tm tm':List (Nat × bA)}:∀ (ch:cQ),(∀ x∈ch,cV (bv tm' x.1) = cV (bv tm x.1))→holds tm' ch = holds tm ch
  | [],_=>rfl
  | (t,w) :: r,h=>by
    rw [jf,jf,h (t,w) (by simp),nk r fun x hx=>h x (by simp [hx])]
theorem H4:∀ (kl:List Nat) (b:Bool),(V.c (.lit (.bool b))).killAll kl = .c (.lit (.bool b))
  | [],_=>rfl
  | o :: r,b=>by rw [V.killAll,V.kill,H4 r]
theorem Oy (o:Nat) (v:V) (b:Bool) (h:v.kill o = .c (.lit (.bool b))):v = .c (.lit (.bool b)):=by
  cases v with
  | c d=>simpa [V.kill] using h
  | agg vs=>simp [V.kill] at h
  | tup vs=>simp [V.kill] at h
  | ptr o' k i j=>rw [V.kill] at h; cases hb:Nat.beq o' o <;> simp [hb] at h
  | row o' k i j=>rw [V.kill] at h; cases hb:Nat.beq o' o <;> simp [hb] at h
  | dptr k cs j=>simp [V.kill] at h
  | fn f vs=>simp [V.kill] at h
theorem yy:∀ (kl:List Nat) (v:V) (b:Bool),v.killAll kl = .c (.lit (.bool b))→v = .c (.lit (.bool b))
  | [],v,b,h=>h
  | o :: r,v,b,h=>Oy o v b (yy r _ b h)
theorem Jd (kl:List Nat) (s:Option bA):cV (s.map fun s=>{ ch:=s.ch,v:=s.v.killAll kl }) = cV s:=by
  cases s with
  | none=>rfl
  | some s =>
    obtain ⟨ch,v⟩:=s
    by_cases h:∃ b,v = .c (.lit (.bool b))
    · obtain ⟨b,rfl⟩:=h
      simp [cV,H4]
    · have h2:cV (some { ch,v }) = none:=by
        cases hb:cV (some { ch,v }) with
        | none=>rfl
        | some b=>obtain ⟨ch',e⟩:=p7 hb; cases e; exact (h ⟨b,rfl⟩).elim
      rw [h2]
      cases hb:cV (Option.map (fun s:bA=>{ ch:=s.ch,v:=s.v.killAll kl }) (some { ch,v })) with
      | none=>rfl
      | some b =>
        obtain ⟨ch',e⟩:=p7 hb
        simp only [Option.map_some,Option.some.injEq,bA.mk.injEq] at e
        exact (h ⟨b,yy kl v b e.2⟩).elim
theorem RZ (kl:List Nat) (tm:List (Nat × bA)) (ch:cQ):holds (xY kl tm) ch = holds tm ch :=
  nk ch fun x _=>by rw [oX,Jd]
theorem Ot {tm:List (Nat × bA)} {ch':cQ} (h':holds tm ch' = true):∀ (ch:cQ),xV ch ch' = true→holds tm ch = true
  | [],_=>rfl
  | (t,w) :: r,h=>by
    simp only [xV,List.all_cons,Bool.and_eq_true] at h
    obtain ⟨h1,h2⟩:=h
    rw [jf,Bool.and_eq_true]
    refine ⟨?_,Ot h' r h2⟩
    unfold Yn at h1
    obtain ⟨y,hy,hyt⟩:=List.any_eq_true.1 h1
    simp only [Bool.and_eq_true,Nat.beq_eq,beq_iff_eq] at hyt
    obtain ⟨e1,e2⟩:=hyt
    have key:∀ (ch':cQ),y∈ch'→holds tm ch' = true→(match cV (bv tm y.1) with | some b=>(b == y.2) | none=>false) = true:=by
      intro ch'
      induction ch' with
      | nil=>intro hy; simp at hy
      | cons z l ih =>
        intro hy hh
        obtain ⟨zt,zw⟩:=z
        rw [jf,Bool.and_eq_true] at hh
        rcases List.mem_cons.1 hy with rfl | hy
        · exact hh.1
        · exact ih hy hh.2
    have:=key ch' hy h'
    rw [← e1, ← e2] at this
    exact this
theorem Z6 (f:FuncId) (hlt:Nat.blt f 1000000000 = true):aM E w (.func (.func f) #[] #[]) (.fn f []):=by
  have e:qw f [] = .func (.func f) #[] #[]:=zz hlt []
  rw [← e]
  exact .fn f [] [] rfl fun i v d h=>by simp at h
theorem ip (hs:dN N B σ E a w) {ch:cQ} (hh:holds σ.tm ch = true) {x:Operand} {v:V} (h:fY σ ch x = some v):aM E w (a.eval x) v:=by
  unfold fY at h
  split at h
  · next t =>
    cases hlow:Nat.blt t 1000000 with
    | false=>simp [hlow] at h
    | true =>
    rw [hlow,cond_true] at h
    split at h
    · next s hg =>
      cases hc:xV s.ch ch with
      | false=>simp [hc] at h
      | true =>
        simp only [hc,cond_true,Option.some.injEq] at h
        subst h
        have:=(hs.slots t s hg).1 (Ot hh _ hc)
        rw [AI (by simpa using hlow)] at this
        exact this
    · cases h
  · cases h; exact Jr _
  · next f =>
    cases hlt:Nat.blt f 1000000000 with
    | false=>rw [hlt] at h; cases h
    | true=>rw [hlt] at h; cases h; exact Z6 _ hlt
  · cases h
theorem Jk (hs:dN N B σ E a w) {ch:cQ} (hh:holds σ.tm ch = true):∀ {xs:List Operand} {vs:List V},sK σ ch xs = some vs→cz E w (xs.map a.eval) vs
  | [],vs,h=>by simp [sK] at h; subst h; exact .nil
  | x :: xs,vs,h=>by
    unfold sK at h
    rw [List.mapM_cons] at h
    simp only [Option.bind_eq_bind,Option.pure_def,Option.bind_eq_some_iff,Option.some.injEq] at h
    obtain ⟨d,hd,ds,hds,rfl⟩:=h
    have ih:=Jk hs hh (xs:=xs) hds
    refine ⟨by simp [ih.1],fun i v d' hv hd'=>?_⟩
    match i with
    | 0=>simp at hv hd'; subst hv; subst hd'; exact ip hs hh hd
    | i+1=>exact ih.2 i v d' (by simpa using hv) (by simpa using hd')
theorem BN {ops:Array Oper} (hs:dN N B σ E a w) {o:Oper} {ch:cQ} (h:js ops.toList σ.tm o.guard = some ch) (hb:ch.all (fun x=>ff σ.tm x.1) = true):Region.wanted o (yielded ops a.tmps) = holds σ.tm ch:=by
  unfold js at h
  split at h
  · next hg=>cases h; simp [Region.wanted,hg,holds]
  · next j wt hg =>
    split at h
    · next oj hj =>
      split at h
      · next t ht =>
        cases hlow:Nat.blt t 1000000 with
        | false=>simp [hlow] at h
        | true =>
        rw [hlow,cond_true] at h
        split at h
        · next ch' b hgt =>
          cases h
          have hj':ops[j]? = some oj:=by rw [← Array.getElem?_toList]; exact hj
          rw [jf,hgt]
          simp only [cV,Region.wanted,hg,yielded,hj',Option.bind_some,ht]
          have hsl:=hs.slots t _ hgt
          rw [AI (by simpa using hlow)] at hsl
          cases hh:holds σ.tm ch' with
          | true =>
            have hr:=(hsl.1 hh).lit_inv
            have:a.tmps[t]? = some (.bool b):=by
              rw [Array.getD_eq_getD_getElem?] at hr
              cases hx:a.tmps[t]? with
              | none=>rw [hx] at hr; simp [undef] at hr
              | some x=>rw [hx] at hr; simpa using hr
            rw [this]
            cases b <;> cases wt <;> rfl
          | false =>
            have hr:=hsl.2 (by simp only [List.all_cons,Bool.and_eq_true] at hb; exact hb.2) hh
            rw [Bool.and_false]
            rw [Array.getD_eq_getD_getElem?] at hr
            cases hx:a.tmps[t]? with
            | none=>rfl
            | some x=>rw [hx] at hr; simp at hr; subst hr; rfl
        · cases h
      · cases h
    · cases h
theorem UZ (hs:dN N B σ E a w) {ch:cQ} (hh:holds σ.tm ch = true) {c x y:Operand} {v:V} (h:vD σ ch c x y = some v) :
    ∃ b:Bool,a.eval c = .bool b∧aM E w (if b then a.eval x else a.eval y) v:=by
  unfold vD at h
  split at h
  · next b hc =>
    have hcb:=(ip hs hh hc).lit_inv
    refine ⟨b,hcb, ?_⟩
    split at h
    · next p q hx hy =>
      cases h
      have key:∀ (want:Bool),b = want→∀ (z:Operand) (u:V),fY σ (EG c want ch) z = some u→aM E w (a.eval z) u:=by
        intro want hw z u hz
        cases c with
        | tmp t =>
          have:holds σ.tm ((t,want) :: ch) = true:=by
            rw [jf,hh,Bool.and_true]
            cases hg:bv σ.tm t with
            | none=>simp [fY,hg] at hc
            | some s =>
              cases hsc:xV s.ch ch with
              | false=>simp [fY,hg,hsc] at hc
              | true =>
                have hl:Nat.blt t 1000000 = true:=by
                  cases hl:Nat.blt t 1000000 with
                  | true=>rfl
                  | false=>simp [fY,hl] at hc
                simp only [fY,hg,hsc,hl,cond_true,Option.some.injEq] at hc
                have:cV (some s) = some b:=by obtain ⟨sc,sv⟩:=s; simp only at hc; subst hc; rfl
                rw [this,hw]
                cases want <;> rfl
          exact ip hs this hz
        | const _=>exact ip hs hh hz
        | global _=>exact ip hs hh hz
        | func _=>exact ip hs hh hz
      cases hb:b with
      | true =>
        subst hb
        have:=key true rfl x _ hx
        simpa using this
      | false =>
        subst hb
        have:=key false rfl y _ hy
        simpa using this
    · cases h
  · cases h
theorem Zb {t t':Nat} {v:Value} (ht:t < a.tmps.size):(a.put (some t) v).tmps.getD t' undef = if t = t' then v else a.tmps.getD t' undef:=by
  simp only [Act.put,Array.getD_eq_getD_getElem?,Array.getElem?_setIfInBounds]
  by_cases h:t = t'
  · subst h; simp [ht]
  · simp [h]
theorem Xz {t t':Nat} {v:Value} (ht:t < a.tmps.size) (hl:t < 1000000):kZ B (a.put (some t) v) t' = if t = t' then v else kZ B a t':=by
  unfold kZ
  rw [Zb ht]
  by_cases h:t = t'
  · subst h; rw [if_pos hl,if_pos rfl,if_pos rfl]
  · simp only [if_neg h]
theorem yX (d:Nat) (tm:List (Nat × bA)) (t:Nat):bv (rL d tm) t = (bv tm t).map fun s=>bif s.ch.any (fun y=>Nat.beq y.1 d) then ⟨[], .c .unk⟩ else s :=
  Eb (fun s=>bif s.ch.any (fun y=>Nat.beq y.1 d) then ⟨[], .c .unk⟩ else s) tm t
theorem aeX {d:Nat} {ch:cQ} (h:ch.any (fun y=>Nat.beq y.1 d) = false):∀ x∈ch,x.1≠d:=by
  intro x hx e
  have:=List.any_eq_false.1 h x hx
  rw [e] at this
  simp at this
theorem QD {d:Nat} {ch:cQ} (h:vQ (some d) ch = true):∀ x∈ch,x.1≠d:=by
  intro x hx e
  have:=List.all_eq_true.1 h x hx
  rw [e] at this
  simp at this
theorem p5 {tm:List (Nat × bA)} {t:Nat}:ff tm t = (cV (bv tm t)).isSome:=by
  unfold ff
  cases h:bv tm t with
  | none=>rfl
  | some s =>
    obtain ⟨ch,v⟩:=s
    simp only
    unfold V.isBool cV
    split <;> simp_all
theorem Jq {tm:List (Nat × bA)}:∀ (ch:cQ),holds tm ch = true→ch.all (fun x=>ff tm x.1) = true
  | [],_=>rfl
  | (t,w) :: r,h=>by
    rw [jf,Bool.and_eq_true] at h
    simp only [List.all_cons,Bool.and_eq_true]
    refine ⟨?_,Jq r h.2⟩
    rw [p5]
    cases hb:cV (bv tm t) with
    | none=>rw [hb] at h; simp at h
    | some b=>rfl
theorem kM {tm tm':List (Nat × bA)} {E':br} {w':World} {v:Value} {s:bA} (h:pW tm E' w' v s) (hb:∀ x∈s.ch,ff tm' x.1 = true→cV (bv tm' x.1) = cV (bv tm x.1)):pW tm' E' w' v s:=by
  have key:s.ch.all (fun x=>ff tm' x.1) = true→holds tm' s.ch = holds tm s.ch∧s.ch.all (fun x=>ff tm x.1) = true:=by
    intro ha
    have h1:∀ x∈s.ch,cV (bv tm' x.1) = cV (bv tm x.1):=fun x hx=>hb x hx (List.all_eq_true.1 ha x hx)
    refine ⟨nk _ h1,List.all_eq_true.2 fun x hx=>?_⟩
    have:=List.all_eq_true.1 ha x hx
    rw [p5] at this ⊢
    rw [← h1 x hx]; exact this
  refine ⟨fun hh=>?_,fun ha hh=>?_⟩
  · have:=key (Jq _ hh)
    exact h.1 (by rw [← this.1]; exact hh)
  · have:=key ha
    exact h.2 this.2 (by rw [← this.1]; exact hh)
theorem Qf {d:Nat} {tm:List (Nat × bA)} {t:Nat} (h:ff (rL d tm) t = true):cV (bv (rL d tm) t) = cV (bv tm t):=by
  rw [p5] at h
  rw [yX] at h ⊢
  cases hx:bv tm t with
  | none=>rfl
  | some s =>
    rw [hx] at h
    simp only [Option.map_some] at h ⊢
    cases hc:s.ch.any (fun y=>Nat.beq y.1 d) with
    | false=>rfl
    | true=>rw [hc] at h; simp [cV] at h
theorem NO {tm:List (Nat × bA)} {E':br} {w':World} {ch:cQ} {d:Nat} {v:V} {v':Value} (hlt:d < a.tmps.size) (hlow:d < 1000000) (hsl:∀ t s,bv tm t = some s→pW tm E' w' (kZ B a t) s)
    (hcd:∀ x∈ch,x.1≠d) (hv:pW tm E' w' v' { ch,v }):∀ t s,bv (ma (rL d tm) d { ch,v }) t = some s→pW (ma (rL d tm) d { ch,v }) E' w' (kZ B (a.put (some d) v') t) s:=by
  have hb:∀ c:cQ,(∀ x∈c,x.1≠d)→∀ x∈c,ff (ma (rL d tm) d { ch,v }) x.1 = true→cV (bv (ma (rL d tm) d { ch,v }) x.1) = cV (bv tm x.1):=by
    intro c hc x hx h
    rw [p5,oK,if_neg (fun e=>hc x hx e.symm)] at h
    rw [oK,if_neg (fun e=>hc x hx e.symm)]
    exact Qf (by rw [p5]; exact h)
  intro t s hg
  rw [oK] at hg
  rw [Xz hlt hlow]
  split at hg
  · next e =>
    subst e; cases hg
    rw [if_pos rfl]
    exact kM hv (hb ch hcd)
  · next e =>
    rw [if_neg e]
    rw [yX] at hg
    cases hx:bv tm t with
    | none=>rw [hx] at hg; cases hg
    | some y =>
      rw [hx] at hg
      simp only [Option.map_some,Option.some.injEq] at hg
      cases hc:y.ch.any (fun y=>Nat.beq y.1 d) with
      | true =>
        rw [hc,cond_true] at hg; subst hg
        exact ⟨fun _=>.unk _,fun _ h=>by simp [holds] at h⟩
      | false =>
        rw [hc,cond_false] at hg; subst hg
        exact kM (hsl t _ hx) (hb _ (aeX hc))
theorem TV {kl:List Nat} {tm:List (Nat × bA)} {E':br} {w':World} (hr:∀ v d,aM E w v d→aM E' w' v (d.killAll kl)) (hsl:∀ t s,bv tm t = some s→pW tm E w (kZ B a t) s) :
    ∀ t s,bv (xY kl tm) t = some s→pW (xY kl tm) E' w' (kZ B a t) s:=by
  intro t s hg
  rw [oX] at hg
  cases hx:bv tm t with
  | none=>rw [hx] at hg; cases hg
  | some y =>
    rw [hx] at hg; cases hg
    refine kM (tm:=tm) ⟨fun h=>hr _ _ ((hsl t y hx).1 h),(hsl t y hx).2⟩ fun x _ _=>?_
    rw [oX,Jd]
theorem Oi (hs:dN N B σ E a w) {rc:fm} {E':br} {w':World} {v':Value} {M:Nat} (hM:σ.nx≤M) (hnid:rc.nid < M) (hP:ga E w σ.hp rc.nid rc.res E' w' v') (hh:holds σ.tm rc.ch = true)
    (hd:u6 N rc.dst = true) (hn:rc.ch.isEmpty = true∨vQ rc.dst rc.ch = true):dN N B { after σ rc with nx:=M } E' (a.put rc.dst v') w':=by
  have hlive:∀ q,M≤q→¬ E'.live q:=by
    intro q hq h
    rcases hP.live q h with h | h
    · exact hs.live q (by omega) h
    · omega
  have hown:∀ o b,E'.live o→E'.conc o = some b→B.W.heap.size≤b∨B.mb b:=by
    intro o b ho h
    rcases hP.st.concnew o b ho h with ⟨o,h1,h2⟩ | h
    · exact hs.own o b h1 h2
    · have:=hs.base.size; exact .inl (by omega)
  have hold:∀ b,E'.ok b→B.ok b∨B.W.heap.size≤b∨B.mb b:=by
    intro b hb
    rcases hP.st.okold b hb with h | h | ⟨o,h1,h2⟩
    · exact hs.okold b h
    · have:=hs.base.size; exact .inr (.inl (by omega))
    · exact .inr (hs.own o b h1 h2)
  have hbase:Ct B.mb B.W.heap.size B.W w':=by
    refine ⟨hP.st.os.trans hs.base.os,hP.st.tape.trans hs.base.tape,hP.st.output.trans hs.base.output,Nat.le_trans hs.base.size hP.st.size,fun k hk hm=>?_⟩
    rw [hP.st.blk k (by have:=hs.base.size; omega) fun o ho h=>by
      rcases hs.own o k ho h with h | h
      · omega
      · exact hm h]
    exact hs.base.block k hk hm
  have hkill:=TV (kl:=rc.res.kill) (E':=E') (w':=w') (fun v d h=>h.step hP.st hs.heap.sep hs.heap.oklt) hs.slots
  cases hdst:rc.dst with
  | none =>
    refine ⟨hs.size,hs.small,hs.defers,hlive,hP.heap,fun t s hg=>?_,hbase,hown,hold⟩
    simp only [after,hdst] at hg ⊢
    exact hkill t s hg
  | some d =>
    rw [hdst] at hd hn
    simp only [u6,Nat.blt_eq] at hd
    have hlt:d < a.tmps.size:=by rw [hs.size]; exact hd
    have hcd:∀ x∈rc.ch,x.1≠d:=by
      rcases hn with hn | hn
      · intro x hx; rw [List.isEmpty_iff.1 hn] at hx; simp at hx
      · exact QD hn
    refine ⟨by simp [Act.put,hs.size],hs.small,hs.defers,hlive,hP.heap, ?_,hbase,hown,hold⟩
    simp only [after,hdst]
    refine NO hlt (by have:=hs.small; omega) hkill hcd ⟨fun _=>hP.val,fun _ h=>?_⟩
    rw [RZ,hh] at h
    cases h
end
end Go.Ax
namespace Go.Ax
open Go.RowKit
section
variable {P:Program} {N:Nat} {B:j5} {σ σ':St} {E:br} {a:Act} {w:World} {C:FuncId→Option CC}
theorem PP (hs:dN N B σ E a w) {rc:fm} {M:Nat} (hf:¬ E.live rc.nid) (hM:σ.nx≤M) (hnid:rc.nid < M) (hh:holds σ.tm rc.ch = false) (he:rc.res.eff = []) (hk:rc.res.kill = []) (hn:vQ rc.dst rc.ch = true)
    (hd:u6 N rc.dst = true):dN N B { after σ rc with nx:=M } (E.next rc.nid none 0 0 E.ok) (a.put rc.dst undef) w:=by
  have hS:gm E w [] (E.next rc.nid none 0 0 E.ok) w:=gG hf none 0 0 E.ok (.refl _ _) (by simp) (fun _ h=>h) (fun _ h=>.inl h)
  have hN:bI (E.next rc.nid none 0 0 E.ok) w σ.hp:=iy hf hs.heap (.refl _ _) (by simp) (fun _ h=>h) (fun _ h=>.inl h) hs.heap.oklt
  have hown:∀ o b,(E.next rc.nid none 0 0 E.ok).live o→(E.next rc.nid none 0 0 E.ok).conc o = some b→B.W.heap.size≤b∨B.mb b:=by
    intro o b ho h
    rcases hS.concnew o b ho h with ⟨o,h1,h2⟩ | h
    · exact hs.own o b h1 h2
    · have:=hs.base.size; exact .inl (by omega)
  have hlive:∀ q,M≤q→¬ (E.next rc.nid none 0 0 E.ok).live q:=by
    rintro q hq (h | h)
    · omega
    · exact hs.live q (by omega) h
  have hslot:∀ t s,bv σ.tm t = some s→pW σ.tm (E.next rc.nid none 0 0 E.ok) w (kZ B a t) s:=fun t s hg =>
    ⟨fun h=>kI hs.heap hS ((hs.slots t s hg).1 h),(hs.slots t s hg).2⟩
  have hkT:xY rc.res.kill σ.tm = σ.tm:=by rw [hk]; rfl
  have hkH:rc.res.eff++gO rc.res.kill σ.hp = σ.hp:=by rw [he,hk]; rfl
  cases hdst:rc.dst with
  | none =>
    refine ⟨hs.size,hs.small,hs.defers,hlive,by simp only [after]; rw [hkH]; exact hN,fun t s hg=>?_,hs.base,hown,hs.okold⟩
    simp only [after,hdst] at hg ⊢
    rw [hkT] at hg ⊢
    exact hslot t s hg
  | some d =>
    rw [hdst] at hd hn
    simp only [u6,Nat.blt_eq] at hd
    have hlt:d < a.tmps.size:=by rw [hs.size]; exact hd
    refine ⟨by simp [Act.put,hs.size],hs.small,hs.defers,hlive,by simp only [after]; rw [hkH]; exact hN, ?_,hs.base,hown,hs.okold⟩
    simp only [after,hdst]
    rw [hkT]
    refine NO hlt (by have:=hs.small; omega) hslot (QD hn) ⟨fun h=>?_,fun _ _=>rfl⟩
    have h':holds σ.tm rc.ch = true:=h
    rw [hh] at h'
    cases h'
theorem YV {tm:List (Nat × bA)} {ch:cQ} {ps:List Prop} (h:∀ p∈Ha tm ch ps,p) (hh:holds tm ch = true):∀ p∈ps,p:=by
  intro p hp
  cases ch with
  | nil=>exact h p hp
  | cons x l=>exact h _ (List.mem_map.2 ⟨p,hp,rfl⟩) hh
theorem Gp {tm:List (Nat × bA)} {c ch:cQ} (h:ch.all (fun x=>lN tm c x.1) = true):ch.all (fun x=>ff tm x.1) = true:=by
  refine List.all_eq_true.2 fun x hx=>?_
  have:=List.all_eq_true.1 h x hx
  unfold lN at this
  unfold ff
  split at this
  · simp only [Bool.and_eq_true] at this; exact this.1
  · cases this
theorem je {ops:List Oper} {nid:Nat} {o:Oper} {rc:fm} (h:recOf P C N ops σ nid o = some rc) :
    u6 N o.dst = true∧js ops σ.tm o.guard = some rc.ch∧rc.ch.all (fun x=>lN σ.tm rc.ch x.1) = true∧BT P C σ nid rc.ch o = some (rc.vs,rc.res) ∧
      (rc.ch.isEmpty||(rc.res.eff.isEmpty&&rc.res.kill.isEmpty&&vQ o.dst rc.ch)) = true∧rc.dst = o.dst∧rc.nid = nid∧rc.rds = p8 (jc o.op)++rc.ch.map (·.1)∧rc.reach = dB σ.hp rc.vs∧rc.rws = yh σ.hp rc.vs:=by
  unfold recOf at h
  cases hd:u6 N o.dst with
  | false=>simp [hd] at h
  | true =>
    simp only [hd,cond_true] at h
    split at h
    · next ch hch =>
      cases hb:ch.all (fun x=>lN σ.tm ch x.1) with
      | false=>simp [hb] at h
      | true =>
        simp only [hb,cond_true] at h
        split at h
        · next vs r hr =>
          cases hc:(ch.isEmpty||(r.eff.isEmpty&&r.kill.isEmpty&&vQ o.dst ch)) with
          | false=>simp [hc] at h
          | true =>
            simp only [hc,cond_true,Option.some.injEq] at h
            subst h
            exact ⟨rfl,hch,hb,hr,hc,rfl,rfl,rfl,rfl,rfl⟩
        · cases h
    · cases h
theorem NG (hC:∀ f con,C f = some con→bV P f con) (hs:dN N B σ E a w) {ops:Array Oper} {i:Nat} {o:Oper} (hi:ops[i]? = some o) {nid M:Nat} (hf:¬ E.live nid) (hM:σ.nx≤M) (hnid:nid < M)
    {rc:fm} (h:recOf P C N ops.toList σ nid o = some rc) (hp:∀ p∈Ha σ.tm rc.ch rc.res.pre,p) {K:Act→World→Prop} {Q:Exit→Act→World→Prop}
    (hK:∀ E' a' w',dN N B { after σ rc with nx:=M } E' a' w'→(∀ q,E'.live q→E.live q∨q = nid)→K a' w'):wpOp P ops Q i K a w:=by
  obtain ⟨hd,hch,hb,hr,hc,e1,e2,_,_⟩:=je h
  rw [← e1] at hd hc
  rw [← e2] at hnid hf hK
  unfold wpOp
  rw [hi]
  simp only
  rw [BN hs hch (Gp hb), ← e1]
  cases hh:holds σ.tm rc.ch with
  | false =>
    rw [if_neg (by simp)]
    have hne:rc.ch.isEmpty = false:=by
      cases hx:rc.ch with
      | nil=>rw [hx] at hh; simp [holds] at hh
      | cons=>rfl
    rw [hne,Bool.false_or] at hc
    simp only [Bool.and_eq_true,List.isEmpty_iff] at hc
    exact hK _ _ _ (PP hs hf hM hnid hh hc.1.1 hc.1.2 hc.2 hd) eJ
  | true =>
    rw [if_pos rfl]
    left
    have hpp:=YV hp hh
    have hn:rc.ch.isEmpty = true∨vQ rc.dst rc.ch = true:=by
      simp only [Bool.or_eq_true,Bool.and_eq_true] at hc
      exact hc.imp id (·.2)
    unfold BT at hr
    split at hr
    · next c x y ho =>
      cases hv:vD σ rc.ch c x y with
      | none=>simp [hv] at hr
      | some v =>
        simp only [hv,Option.map_some,Option.some.injEq,Prod.mk.injEq] at hr
        obtain ⟨b,hb,hrep⟩:=UZ hs hh hv
        unfold Oper.wp
        have hrun:(execOp a.eval o).run P w = .ok (.value (if b then a.eval x else a.eval y)) w:=by
          simp [execOp,ho,hb,asBool]
        rw [hrun]
        have hP:ga E w σ.hp rc.nid rc.res (E.next rc.nid none 0 0 E.ok) w (if b then a.eval x else a.eval y):=by
          have hS:gm E w [] (E.next rc.nid none 0 0 E.ok) w:=gG hf none 0 0 E.ok (.refl _ _) (by simp) (fun _ h=>h) (fun _ h=>.inl h)
          rw [← hr.2]
          exact ⟨hS,iy hf hs.heap (.refl _ _) (by simp) (fun _ h=>h) (fun _ h=>.inl h) hs.heap.oklt,kI hs.heap hS hrep,eJ⟩
        have hfin:=hK _ _ _ (Oi hs hM hnid hP hh hd hn) hP.live
        rw [e1] at hfin
        exact hfin
    · next op hnp =>
      split at hr
      · next vs hvs =>
        cases hov:Le P C σ.hp nid o vs with
        | none=>simp [hov] at hr
        | some r =>
          simp only [hov,Option.map_some,Option.some.injEq,Prod.mk.injEq] at hr
          obtain ⟨rfl,rfl⟩:=hr
          rw [← e2] at hov
          refine Zg hs.heap hf hC (Jk hs hh hvs) hov hpp fun E' w' v' hP=>?_
          have hfin:=hK _ _ _ (Oi hs hM hnid hP hh hd hn) hP.live
          rw [e1] at hfin
          exact hfin
      · cases hr
theorem Sf (tm:List (Nat × bA)) (t:Nat):bv (Ea tm) t = (bv tm t).map fun s=>bif s.ch.isEmpty then s else ⟨[], .c .unk⟩ :=
  Eb (fun s=>bif s.ch.isEmpty then s else ⟨[], .c .unk⟩) tm t
theorem Kd (hs:dN N B σ E a w):dN N B { σ with tm:=Ea σ.tm } E a w:=by
  refine ⟨hs.size,hs.small,hs.defers,hs.live,hs.heap,fun t s hg=>?_,hs.base,hs.own,hs.okold⟩
  simp only at hg ⊢
  rw [Sf] at hg
  cases hx:bv σ.tm t with
  | none=>rw [hx] at hg; cases hg
  | some y =>
    rw [hx] at hg
    simp only [Option.map_some,Option.some.injEq] at hg
    cases hc:y.ch.isEmpty with
    | false =>
      rw [hc,cond_false] at hg; subst hg
      exact ⟨fun _=>.unk _,fun _ h=>by simp [holds] at h⟩
    | true =>
      rw [hc,cond_true] at hg; subst hg
      have hch:y.ch = []:=List.isEmpty_iff.1 hc
      have:=hs.slots t y hx
      exact ⟨fun _=>this.1 (by rw [hch]; rfl),fun _ h=>by rw [hch] at h; simp [holds] at h⟩
theorem PG (hC:∀ f con,C f = some con→bV P f con) {ops:Array Oper} {Q:Exit→Act→World→Prop}:∀ (rest:List Oper) (i:Nat) (σ σ':St) (ps:List Prop) (E:br) (a:Act) (w:World),
    ops.toList.drop i = rest→Ik P C N ops.toList rest σ = some (ps,σ')→(∀ p∈ps,p)→dN N B σ E a w→(∀ E' a' w',dN N B σ' E' a' w'→Q .normal a' w')→wpOps P ops Q (List.range' i rest.length) a w
  | [],i,σ,σ',ps,E,a,w,hd,hg,hp,hs,hQ=>by
    simp only [Ik,Option.some.injEq,Prod.mk.injEq] at hg
    obtain ⟨rfl,rfl⟩:=hg
    exact hQ _ _ _ (Kd hs)
  | o :: rest,i,σ,σ',ps,E,a,w,hd,hg,hp,hs,hQ=>by
    rw [Ik] at hg
    split at hg
    · next rc h1 =>
      split at hg
      · next qs σ2 h2 =>
        simp only [Option.some.injEq,Prod.mk.injEq] at hg
        obtain ⟨rfl,rfl⟩:=hg
        have hi:ops[i]? = some o:=by
          have:=congrArg (·[0]?) hd
          simpa using this
        rw [List.length_cons,List.range'_succ,wpOps_cons]
        refine NG (M:=σ.nx+1) hC hs hi (hs.live _ (Nat.le_refl _)) (Nat.le_succ _) (Nat.lt_succ_self _) h1 (fun p hp'=>hp p (List.mem_append_left _ hp')) fun E' a' w' hs' _=>?_
        refine PG hC rest (i+1) { after σ rc with nx:=σ.nx+1 } _ qs E' a' w' ?_ h2 (fun p hp'=>hp p (List.mem_append_right _ hp')) hs' hQ
        rw [← List.drop_drop,hd]
        rfl
      · cases hg
    · cases hg
theorem V5 (hC:∀ f con,C f = some con→bV P f con) {id:Nat} {ops:Array Oper} {Q:Exit→Act→World→Prop} {ps:List Prop} (hg:Ik P C N ops.toList ops.toList σ = some (ps,σ')) (hp:∀ p∈ps,p)
    (hs:dN N B σ E a w) (hQ:∀ E' a' w',dN N B σ' E' a' w'→Q .normal a' w'):(Code.region id ops false).wp P Q a w:=by
  refine wp_region ?_
  have:=PG hC (Q:=Q) ops.toList 0 σ σ' ps E a w rfl hg hp hs hQ
  rw [List.range_eq_range']
  simpa using this
end
end Go.Ax
namespace Go.Ax
open Go.RowKit
section
variable {P:Program} {N:Nat} {B:j5} {σ σ':St} {E:br} {a:Act} {w:World} {C:FuncId→Option CC}
theorem Md:∀ {ps:List Prop} {Q:Prop},Bt ps Q→(∀ p∈ps,p)∧Q
  | [],_,h=>⟨fun p hp=>by simp at hp,h⟩
  | p :: ps,Q,h=>by
    obtain ⟨h1,h2⟩:=Md h.2
    refine ⟨fun q hq=>?_,h2⟩
    rcases List.mem_cons.1 hq with rfl | hq
    · exact h.1
    · exact h1 q hq
theorem allP_mono {ps:List Prop} {Q Q':Prop} (hq:Q→Q'):Bt ps Q→Bt ps Q':=by
  induction ps with
  | nil=>exact hq
  | cons p ps ih=>exact fun h=>⟨h.1,ih h.2⟩
theorem Q5 (hs:dN N B σ E a w) {t:Nat} {s:bA} (hg:bv σ.tm t = some s):dN N B { σ with tm:=ma σ.tm t s } E a w:=by
  have hx:∀ x,bv (ma σ.tm t s) x = bv σ.tm x:=by
    intro x
    rw [oK]
    split
    · next e=>subst e; exact hg.symm
    · rfl
  refine ⟨hs.size,hs.small,hs.defers,hs.live,hs.heap,fun q y hq=>?_,hs.base,hs.own,hs.okold⟩
  simp only at hq ⊢
  rw [hx] at hq
  exact kM (tm:=σ.tm) (hs.slots q y hq) fun z _ _=>by rw [hx]
theorem Rm (hC:∀ f con,C f = some con→bV P f con) (hs:dN N B σ E a w) {ops:Array Oper} {i:Nat} {o:Oper} (hi:ops[i]? = some o) {ch:cQ} (hch:js ops.toList σ.tm o.guard = some ch)
    (hb:ch.all (fun x=>ff σ.tm x.1) = true) (hh:holds σ.tm ch = true) {k:St→Prop} (h:AH P C N ops.toList σ o k) {K:Act→World→Prop} {Q:Exit→Act→World→Prop}
    (hK:∀ σ' E' a' w',k σ'→dN N B σ' E' a' w'→K a' w'):wpOp P ops Q i K a w:=by
  unfold AH at h
  split at h
  · next rc hr =>
    obtain ⟨hp,hk⟩:=Md h
    have hr':recOf P C N (#[{ o with guard:=none }]:Array Oper).toList σ σ.nx { o with guard:=none } = some rc:=hr
    have hch0:rc.ch = []:=by
      obtain ⟨_,h1,_⟩:=je hr
      have:js ops.toList σ.tm none = some rc.ch:=h1
      simpa [js] using this.symm
    have:=NG (Q:=Q) (M:=σ.nx+1) hC hs (ops:=#[{ o with guard:=none }]) (i:=0) rfl (hs.live _ (Nat.le_refl _)) (Nat.le_succ _) (Nat.lt_succ_self _) hr' (by rw [hch0]; exact hp)
      (K:=K) fun E' a' w' hs' _=>hK _ E' a' w' hk hs'
    unfold wpOp at this ⊢
    rw [hi]
    simp only
    rw [BN hs hch hb,hh,if_pos rfl]
    have e:(#[{ o with guard:=none }]:Array Oper)[0]? = some { o with guard:=none }:=rfl
    rw [e] at this
    simp only [Region.wanted,if_true] at this
    exact this
  · exact h.elim
theorem MB (hs:dN N B σ E a w) {ops:Array Oper} {i:Nat} {o:Oper} (hi:ops[i]? = some o) {ch:cQ} (hch:js ops.toList σ.tm o.guard = some ch)
    (hb:ch.all (fun x=>ff σ.tm x.1) = true) (hh:holds σ.tm ch = false) {k:St→Prop} (h:AO N σ o ch k) {K:Act→World→Prop} {Q:Exit→Act→World→Prop}
    (hK:∀ σ' E' a' w',k σ'→dN N B σ' E' a' w'→K a' w'):wpOp P ops Q i K a w:=by
  unfold AO at h
  cases hc:(u6 N o.dst&&vQ o.dst ch) with
  | false=>rw [hc] at h; exact h.elim
  | true =>
    rw [hc,cond_true] at h
    rw [Bool.and_eq_true] at hc
    unfold wpOp
    rw [hi]
    simp only
    rw [BN hs hch hb,hh,if_neg (by simp)]
    exact hK _ _ _ _ h (PP hs (rc:=S3 o ch σ.nx) (hs.live _ (Nat.le_refl _)) (Nat.le_succ _) (Nat.lt_succ_self _) hh rfl rfl hc.2 hc.1)
theorem X5 (hC:∀ f con,C f = some con→bV P f con) {ops:Array Oper} {Q:Exit→Act→World→Prop}:∀ (rest:List Oper) (i:Nat) (σ:St) (K:St→Prop) (E:br) (a:Act) (w:World),
    ops.toList.drop i = rest→tK P C N ops.toList rest σ K→dN N B σ E a w→(∀ σ' E' a' w',K σ'→dN N B σ' E' a' w'→Q .normal a' w')→wpOps P ops Q (List.range' i rest.length) a w
  | [],i,σ,K,E,a,w,hd,hg,hs,hQ=>by
    rw [tK] at hg
    exact hQ _ _ _ _ hg (Kd hs)
  | o :: rest,i,σ,K,E,a,w,hd,hg,hs,hQ=>by
    have hi:ops[i]? = some o:=by
      have:=congrArg (·[0]?) hd
      simpa using this
    have hd':ops.toList.drop (i+1) = rest:=by
      rw [← List.drop_drop,hd]; rfl
    have next:∀ σ' E' a' w',tK P C N ops.toList rest σ' K→dN N B σ' E' a' w'→wpOps P ops Q (List.range' (i+1) rest.length) a' w' :=
      fun σ' E' a' w' h hs'=>X5 hC rest (i+1) σ' K E' a' w' hd' h hs' hQ
    rw [List.length_cons,List.range'_succ,wpOps_cons]
    rw [tK] at hg
    split at hg
    · next hgn=>exact Rm hC hs hi (ch:=[]) (by rw [hgn]; rfl) rfl rfl hg next
    · next g hgn =>
      split at hg
      · next t wt ch hch =>
        cases hb:((t,wt) :: ch).all (fun x=>lN σ.tm ((t,wt) :: ch) x.1) with
        | false=>rw [hb] at hg; exact hg.elim
        | true =>
          rw [hb,cond_true] at hg
          have hbs:=Gp hb
          rw [← hgn] at hch
          split at hg
          · next c0 b hgt =>
            cases hh:holds σ.tm ch with
            | false =>
              rw [hh,cond_false] at hg
              exact MB hs hi hch hbs (by rw [jf,hh,Bool.and_false]) hg next
            | true =>
              rw [hh,cond_true] at hg
              have hhold:holds σ.tm ((t,wt) :: ch) = (b == wt):=by rw [jf,hh,Bool.and_true,hgt]; rfl
              have hsame:∀ b',b = b'→(∀ x,bv (ma σ.tm t ⟨c0,bl b'⟩) x = bv σ.tm x):=by
                intro b' e x
                subst e
                rw [oK]
                split
                · next e=>subst e; exact hgt.symm
                · rfl
              have hgc:∀ b',b = b'→js ops.toList (ma σ.tm t ⟨c0,bl b'⟩) o.guard = some ((t,wt) :: ch):=by
                intro b' e
                rw [← hch]
                unfold js
                split
                · rfl
                · split
                  · split
                    · rw [hsame b' e]
                    · rfl
                  · rfl
              have hbc:∀ b',b = b'→((t,wt) :: ch).all (fun x=>ff (ma σ.tm t ⟨c0,bl b'⟩) x.1) = true:=by
                intro b' e
                rw [← hbs]
                congr 1
                funext x
                unfold ff
                rw [hsame b' e]
              have hho:∀ b',b = b'→holds (ma σ.tm t ⟨c0,bl b'⟩) ((t,wt) :: ch) = (b' == wt):=by
                intro b' e
                rw [nk (tm:=σ.tm) _ fun x _=>by rw [hsame b' e],hhold,e]
              cases hbv:b with
              | true =>
                rw [hbv,cond_true] at hg
                have hs':=Q5 hs hgt
                rw [hbv] at hs'
                cases wt with
                | true=>rw [cond_true] at hg; exact Rm hC hs' hi (hgc true hbv) (hbc true hbv) (hho true hbv) hg next
                | false=>rw [cond_false] at hg; exact MB hs' hi (hgc true hbv) (hbc true hbv) (hho true hbv) hg next
              | false =>
                rw [hbv,cond_false] at hg
                have hs':=Q5 hs hgt
                rw [hbv] at hs'
                cases wt with
                | true=>rw [cond_true] at hg; exact MB hs' hi (hgc false hbv) (hbc false hbv) (hho false hbv) hg next
                | false=>rw [cond_false] at hg; exact Rm hC hs' hi (hgc false hbv) (hbc false hbv) (hho false hbv) hg next
          · exact hg.elim
      · exact hg.elim
theorem Tj (hC:∀ f con,C f = some con→bV P f con) {id:Nat} {ops:Array Oper} {Q:Exit→Act→World→Prop} {K:St→Prop} (hg:tK P C N ops.toList ops.toList σ K)
    (hs:dN N B σ E a w) (hQ:∀ σ' E' a' w',K σ'→dN N B σ' E' a' w'→Q .normal a' w'):(Code.region id ops false).wp P Q a w:=by
  refine wp_region ?_
  have:=X5 hC (Q:=Q) ops.toList 0 σ K E a w rfl hg hs hQ
  rw [List.range_eq_range']
  simpa using this
theorem ER {all:List Oper} {o:Oper} {k k':St→Prop} (hk:∀ σ,k σ→k' σ) (h:AH P C N all σ o k):AH P C N all σ o k':=by
  unfold AH at h ⊢
  split at h
  · next rc hr=>exact allP_mono (hk _) h
  · exact h.elim
theorem Fq {o:Oper} {ch:cQ} {k k':St→Prop} (hk:∀ σ,k σ→k' σ) (h:AO N σ o ch k):AO N σ o ch k':=by
  unfold AO at h ⊢
  cases hc:(u6 N o.dst&&vQ o.dst ch) with
  | false=>rw [hc] at h; exact h.elim
  | true=>rw [hc,cond_true] at h; rw [cond_true]; exact hk _ h
theorem QH {all:List Oper} {K K':St→Prop} (hk:∀ σ,K σ→K' σ):∀ (rest:List Oper) (σ:St),tK P C N all rest σ K→tK P C N all rest σ K'
  | [],σ,h=>by rw [tK] at h ⊢; exact hk _ h
  | o :: r,σ,h=>by
    have ih:∀ σ,tK P C N all r σ K→tK P C N all r σ K':=QH hk r
    rw [tK] at h ⊢
    split
    · next hg=>rw [hg] at h; exact ER ih h
    · next g hg =>
      rw [hg] at h
      simp only at h
      split
      · next t w ch hch =>
        rw [hch] at h
        simp only at h
        cases hb:((t,w) :: ch).all (fun x=>lN σ.tm ((t,w) :: ch) x.1) with
        | false=>rw [hb] at h; exact h.elim
        | true =>
          rw [hb,cond_true] at h
          rw [cond_true]
          split
          · next c0 b hgt =>
            rw [hgt] at h
            simp only at h
            cases hh:holds σ.tm ch with
            | false=>rw [hh,cond_false] at h; rw [cond_false]; exact Fq ih h
            | true =>
              rw [hh,cond_true] at h
              rw [cond_true]
              cases b with
              | true =>
                cases w with
                | true=>exact ER ih h
                | false=>exact Fq ih h
              | false =>
                cases w with
                | true=>exact Fq ih h
                | false=>exact ER ih h
          · next hgt =>
            split at h
            · next c0 b hgt'=>exact (hgt c0 b hgt').elim
            · exact h.elim
      · next hch =>
        split at h
        · next t w ch hch'=>exact (hch t w ch hch').elim
        · exact h.elim
end
end Go.Ax
namespace Go.Ax
open Go.RowKit
section
variable {P:Program} {N:Nat} {B:j5} {σ σ':St} {E:br} {a:Act} {w:World} {C:FuncId→Option CC}
mutual
theorem kill_noUnk (o:Nat):∀ v:V,(v.kill o).noUnk = true→v.kill o = v
  | .c _,_=>rfl
  | .agg vs,h=>by simp only [V.kill,V.noUnk] at h ⊢; rw [kills_noUnk o vs h]
  | .tup vs,h=>by simp only [V.kill,V.noUnk] at h ⊢; rw [kills_noUnk o vs h]
  | .ptr o' k i j,h=>by
    rw [V.kill] at h ⊢
    cases hb:Nat.beq o' o
    · rfl
    · rw [hb] at h; simp [V.noUnk] at h
  | .row o' k i j,h=>by
    rw [V.kill] at h ⊢
    cases hb:Nat.beq o' o
    · rfl
    · rw [hb] at h; simp [V.noUnk] at h
  | .dptr ..,_=>rfl
  | .fn _ vs,h=>by simp only [V.kill,V.noUnk] at h ⊢; rw [kills_noUnk o vs h]
theorem kills_noUnk (o:Nat):∀ vs:List V,V.noUnks (V.kills o vs) = true→V.kills o vs = vs
  | [],_=>rfl
  | v :: r,h=>by
    simp only [V.kills,V.noUnks,Bool.and_eq_true] at h ⊢
    rw [kill_noUnk o v h.1,kills_noUnk o r h.2]
end
theorem w9:∀ (kl:List Nat) (v:V),(v.killAll kl).noUnk = true→v.killAll kl = v
  | [],_,_=>rfl
  | o :: r,v,h=>by
    rw [V.killAll] at h ⊢
    have h1:=w9 r _ h
    rw [h1] at h ⊢
    exact kill_noUnk o v h
mutual
theorem kill_norefs (o:Nat):∀ v:V,v.refs = []→v.kill o = v
  | .c _,_=>rfl
  | .agg vs,h=>by simp only [V.kill]; rw [kills_norefs o vs h]
  | .tup vs,h=>by simp only [V.kill]; rw [kills_norefs o vs h]
  | .ptr o' k i j,h=>by simp [V.refs] at h
  | .row o' k i j,h=>by simp [V.refs] at h
  | .dptr ..,_=>rfl
  | .fn _ vs,h=>by simp only [V.kill]; rw [kills_norefs o vs h]
theorem kills_norefs (o:Nat):∀ vs:List V,V.refss vs = []→V.kills o vs = vs
  | [],_=>rfl
  | v :: r,h=>by
    simp only [V.refss,List.append_eq_nil_iff] at h
    simp only [V.kills]
    rw [kill_norefs o v h.1,kills_norefs o r h.2]
end
mutual
theorem kill_disj (o:Nat):∀ (v:V),o ∉ v.refs→v.kill o = v
  | .c _,_=>rfl
  | .agg vs,h=>by rw [V.kill,kills_disj o vs (by rw [V.refs] at h; exact h)]
  | .tup vs,h=>by rw [V.kill,kills_disj o vs (by rw [V.refs] at h; exact h)]
  | .ptr o' k i j,h=>by
    rw [V.kill]
    cases hb:Nat.beq o' o with
    | false=>rfl
    | true=>exact (h (by rw [V.refs,Nat.eq_of_beq_eq_true hb]; simp)).elim
  | .row o' k i j,h=>by
    rw [V.kill]
    cases hb:Nat.beq o' o with
    | false=>rfl
    | true=>exact (h (by rw [V.refs,Nat.eq_of_beq_eq_true hb]; simp)).elim
  | .dptr ..,_=>rfl
  | .fn f vs,h=>by rw [V.kill,kills_disj o vs (by rw [V.refs] at h; exact h)]
theorem kills_disj (o:Nat):∀ (vs:List V),o ∉ V.refss vs→V.kills o vs = vs
  | [],_=>rfl
  | v :: r,h=>by
    rw [V.refss,List.mem_append] at h
    rw [V.kills,kill_disj o v (fun e=>h (.inl e)),kills_disj o r (fun e=>h (.inr e))]
end
theorem oy:∀ (kl:List Nat) (v:V),(∀ q∈v.refs,q ∉ kl)→v.killAll kl = v
  | [],_,_=>rfl
  | o :: r,v,h=>by
    rw [V.killAll,kill_disj o v (fun ho=>h o ho (by simp)),oy r v fun q hq hr=>h q hq (by simp [hr])]
theorem rM {a b:List Nat} (h:TW a b = true):∀ x∈a,x ∉ b:=by
  intro x hx hb
  have:=List.all_eq_true.1 h x hx
  simp only [Bool.not_eq_true'] at this
  have:=List.any_eq_false.1 this x hb
  simp at this
theorem K6 {H H':ap} {o k off n:Nat} (h:H.get o = H'.get o):HA H o k off n = HA H' o k off n:=by unfold HA; rw [h]
theorem OP {H:ap} {vs:List V} {o:Nat} {cs:List V} (ho:o∈V.refss vs) (hb:H.get o = some (.box cs)) {q:Nat} (hq:q∈V.refss cs):q∈dB H vs :=
  List.mem_append_right _ (List.mem_flatMap.2 ⟨o,ho,by rw [hb]; exact hq⟩)
theorem Oh {H:ap} {vs:List V} {o:Nat} (ho:o∈V.refss vs):o∈dB H vs:=List.mem_append_left _ ho
theorem Bz {H H':ap}:∀ (os:List Nat),(∀ o∈os,H.get o = H'.get o)→eI os H = eI os H'
  | [],_=>rfl
  | o :: r,h=>by
    unfold eI
    rw [h o (by simp),Bz r fun o ho=>h o (by simp [ho])]
structure ll (H H':ap) (os:List Nat):Prop where
  one:∀ o∈os,H.get o = H'.get o
  two:∀ o∈os, ∀ cs,H.get o = some (.box cs)→∀ q∈V.refss cs,H.get q = H'.get q
theorem ll.sub {H H':ap} {os os':List Nat} (h:ll H H' os) (hs:∀ o∈os',o∈os):ll H H' os':=⟨fun o ho=>h.one o (hs o ho),fun o ho=>h.two o (hs o ho)⟩
theorem Bv {H H':ap} {vs:List V} (h:∀ o∈dB H vs,H.get o = H'.get o):ll H H' (V.refss vs) :=
  ⟨fun o ho=>h o (Oh ho),fun o ho cs hb q hq=>h q (OP ho hb hq)⟩
theorem qg {H H':ap} {vs:List V} (h:ll H H' (V.refss vs)):dB H vs = dB H' vs:=by
  unfold dB
  congr 1
  have:∀ (l:List Nat),(∀ o∈l,H.get o = H'.get o)→l.flatMap (fun o=>match H.get o with | some (.box cs)=>V.refss cs | _=>[]) = l.flatMap (fun o=>match H'.get o with | some (.box cs)=>V.refss cs | _=>[]):=by
    intro l
    induction l with
    | nil=>intro _; rfl
    | cons x l ih =>
      intro hl
      rw [List.flatMap_cons,List.flatMap_cons,hl x (by simp),ih fun o ho=>hl o (by simp [ho])]
  exact this _ h.one
theorem NP {H H':ap} {vs:List V} (h:ll H H' (V.refss vs)) {o:Nat} (ho:o∈dB H vs):H.get o = H'.get o:=by
  unfold dB at ho
  rcases List.mem_append.1 ho with ho | ho
  · exact h.one o ho
  · obtain ⟨q,hq,ho⟩:=List.mem_flatMap.1 ho
    cases hg:H.get q with
    | none=>rw [hg] at ho; simp at ho
    | some b =>
      rw [hg] at ho
      cases b with
      | box cs=>exact h.two q hq cs hg o ho
      | row t k n el=>simp at ho
      | raw x=>simp at ho
theorem OM {H H':ap} {vs:List V} (h:ll H H' (V.refss vs)):yh H vs = yh H' vs:=by
  unfold yh
  rw [← qg h]
  have key:∀ l:List Nat,(∀ o∈l,H.get o = H'.get o)→(l.all fun o=>Pq (H.get o)) = (l.all fun o=>Pq (H'.get o))∧(l.flatMap fun o=>uy (H.get o)) = l.flatMap fun o=>uy (H'.get o):=by
    intro l
    induction l with
    | nil=>intro _; exact ⟨rfl,rfl⟩
    | cons x l ih =>
      intro h
      obtain ⟨i1,i2⟩:=ih fun o ho=>h o (by simp [ho])
      rw [List.all_cons,List.all_cons,List.flatMap_cons,List.flatMap_cons,h x (by simp),i1,i2]
      exact ⟨rfl,rfl⟩
  obtain ⟨k1,k2⟩:=key _ fun o ho=>NP h ho
  rw [k1,k2]
theorem Si {H H':ap} {v:V} (h:∀ o∈v.refs,H.get o = H'.get o):xH H v = xH H' v:=by
  cases v with
  | row o k off n=>simp only [xH,K6 (h o (by simp [V.refs]))]
  | _=>rfl
theorem Ub {H H':ap} {o k i j:Nat} (h:ll H H' [o]):QT H o k i j = QT H' o k i j:=by
  unfold QT
  have h1:=h.one o (by simp)
  cases hg:H.get o with
  | none=>rw [← h1,hg]
  | some ob =>
    cases ob with
    | row t k' n el=>rw [← h1,hg]
    | raw x=>rw [← h1,hg]
    | box cs =>
      have:cs.map (xH H) = cs.map (xH H'):=List.map_congr_left fun v hv=>Si fun q hq=>by
        obtain ⟨i,hi⟩:=List.getElem?_of_mem hv
        exact h.two o (by simp) cs hg q (dw hi hq)
      rw [← h1,hg]
      simp only [this]
mutual
theorem view_agree {H H':ap}:∀ (v:V),ll H H' v.refs→v.view H = v.view H'
  | .c .nil,_=>rfl
  | .c .unk,_=>rfl
  | .c (.lit _),_=>rfl
  | .c (.opt ..),_=>rfl
  | .c .any,_=>rfl
  | .c (.sl ..),_=>rfl
  | .agg vs,h=>by rw [V.view,V.view,views_agree vs h]
  | .tup vs,h=>by rw [V.view,V.view,views_agree vs h]
  | .ptr o k i j,h=>by rw [V.view,V.view]; exact Ub h
  | .row o k off n,h=>by rw [V.view,V.view]; exact K6 (h.one o (by simp [V.refs]))
  | .dptr ..,_=>by rw [V.view,V.view]
  | .fn f vs,h=>by rw [V.view,V.view,views_agree vs h]
theorem views_agree {H H':ap}:∀ (vs:List V),ll H H' (V.refss vs)→V.views H vs = V.views H' vs
  | [],_=>rfl
  | v :: r,h=>by
    rw [V.views,V.views,view_agree v (h.sub fun o ho=>by simp [V.refss,ho]),views_agree r (h.sub fun o ho=>by simp [V.refss,ho])]
end
theorem H9 {nid:Nat} {t:TypeId} {len:Nat} {ps:List Nat}:∀ (fl:List Nat) (H H':ap) (vs:List V),(∀ o∈fl,H.get o = H'.get o)→sG P nid t len ps fl H vs = sG P nid t len ps fl H' vs
  | [],_,_,_,_=>rfl
  | q :: fl,H,H',vs,h=>by
    rw [sG,sG, ← h q (by simp)]
    split
    · exact congrArg _ (H9 fl _ _ _ fun o ho=>by simp only [ap.get_cons,ir,h o (by simp [ho])])
    · rfl
theorem VI {H H':ap} {nid:Nat} {o:Oper} {vs:List V} (h:ll H H' (V.refss vs)):Le P C H nid o vs = Le P C H' nid o vs:=by
  unfold Le
  split <;> try rfl
  · exact H9 _ _ _ _ fun o ho=>h.one o ho
  · next t x a _ =>
    have key:∀ a,(∀ q∈a.refs,H.get q = H'.get q)→sx P H t a = sx P H' t a:=by
      intro a h
      unfold sx
      cases a with
      | ptr q k i j=>simp only [h q (by simp [V.refs])]
      | _=>rfl
    unfold Pk
    split
    · next f q k i j kk ix kn n=>simp only [h.one q (by simp [V.refss,V.refs])]
    · exact key _ fun q hq=>h.one q (by simp [V.refss,hq])
  · next t x y a b _ =>
    have key:∀ a,(∀ q∈a.refs,H.get q = H'.get q)→vZ P H t a b = vZ P H' t a b:=by
      intro a h
      unfold vZ
      cases a with
      | ptr q k i j=>simp only [h q (by simp [V.refs])]
      | _=>rfl
    unfold L0
    split
    · next f q k i j kk ix kn n=>simp only [h.one q (by simp [V.refss,V.refs])]
    · exact key _ fun q hq=>h.one q (by simp [V.refss,hq])
  · next a b x d _ =>
    have hx:jW H d = jW H' d:=by
      unfold jW
      cases d with
      | row q k off n=>simp only [h.one q (by simp [V.refss,V.refs])]
      | c d=>cases d <;> rfl
      | _=>rfl
    unfold Mq
    rw [hx]
  · next t x y a b _ =>
    have key:∀ u:Option TypeDesc,P.underlying t = u→o5 P H t a b = o5 P H' t a b:=by
      intro u hu
      unfold o5
      rw [hu]
      by_cases hb:∃ kk i,b = .c (.lit (.int kk i))
      · obtain ⟨kk,i,rfl⟩:=hb
        cases u with
        | none=>rfl
        | some d =>
          cases a with
          | ptr q k i j =>
            have hq:=h.one q (by simp [V.refss,V.refs])
            cases d <;> first | rfl | simp only [hq]
          | c a=>cases a <;> cases d <;> rfl
          | _=>cases d <;> rfl
      · split <;> first | rfl | exact (hb ⟨_,_,rfl⟩).elim | (split <;> first | rfl | exact (hb ⟨_,_,rfl⟩).elim)
    exact key _ rfl
  · next x a _ =>
    unfold Pb
    cases a with
    | ptr q k i j=>simp only [h.one q (by simp [V.refss,V.refs])]
    | _=>rfl
  · next args ats x _ =>
    have hc:∀ t,wG P H t x = wG P H' t x:=by
      intro t
      have key:∀ u:Option TypeDesc,P.underlying t = u→wG P H t x = wG P H' t x:=by
        intro u hu
        unfold wG
        rw [hu]
        cases u with
        | none=>rfl
        | some d =>
          cases x with
          | row q k off n =>
            have hq:=h.one q (by simp [V.refss,V.refs])
            cases d <;> first | rfl | simp only [hq]
          | _=>cases d <;> rfl
      exact key _ rfl
    simp only [hc]
  · next args ats s x _ =>
    have hx:jW H x = jW H' x:=by
      unfold jW
      cases x with
      | row q k off n=>simp only [h.one q (by simp [V.refss,V.refs])]
      | c d=>cases d <;> rfl
      | _=>rfl
    have ha:∀ t,yl P H nid t s x = yl P H' nid t s x:=by
      intro t
      unfold yl
      rw [hx]
      cases s with
      | row q k off n=>simp only [h.one q (by simp [V.refss,V.refs])]
      | c d=>cases d <;> rfl
      | _=>rfl
    simp only [ha]
  · next f args ats g caps ds _ =>
    unfold Pj
    have hag:ll H H' (V.refss (ds++caps)):=by
      refine h.sub fun q hq=>?_
      have:∀ (l1 l2:List V),q∈V.refss (l1++l2)→q∈V.refss l1∨q∈V.refss l2:=by
        intro l1 l2
        induction l1 with
        | nil=>intro h; exact .inr h
        | cons x l ih =>
          intro h
          simp only [List.cons_append,V.refss,List.mem_append] at h ⊢
          rcases h with h | h
          · exact .inl (.inl h)
          · exact (ih h).imp .inr id
      simp only [V.refss,V.refs,List.mem_append]
      exact (this _ _ hq).symm
    have hr:eI (dB H (ds++caps)) H = eI (dB H' (ds++caps)) H':=by
      rw [← qg hag]
      refine Bz _ fun o ho=>?_
      rcases List.mem_append.1 ho with ho | ho
      · exact hag.one o ho
      · obtain ⟨q,hq,ho⟩:=List.mem_flatMap.1 ho
        cases hg:H.get q with
        | none=>rw [hg] at ho; simp at ho
        | some b =>
          cases b with
          | box cs=>rw [hg] at ho; exact hag.two q hq cs hg o ho
          | row t k n el=>rw [hg] at ho; simp at ho
          | raw x=>rw [hg] at ho; simp at ho
    rw [views_agree _ hag,hr]
end
end Go.Ax
namespace Go.Ax
open Go.RowKit
section
variable {P:Program} {N:Nat} {B:j5} {σ σ':St} {E:br} {a:Act} {w:World} {C:FuncId→Option CC} {all:List Oper}
def fT:List Nat→Option Ob→Option Ob
  | [],b=>b
  | o :: r,b=>fT r (wL o b)
theorem HJ:∀ (kl:List Nat) (H:ap) (q:Nat),ap.get (gO kl H) q = fT kl (ap.get H q)
  | [],H,q=>rfl
  | o :: r,H,q=>by
    have h1:=ir o H q
    rw [gO,HJ r,fT]
    simp only [gO] at h1
    rw [h1]
theorem EW:∀ (A H:ap) (q:Nat),ap.get (A++H) q = if q∈gV A then ap.get A q else ap.get H q
  | [],H,q=>by simp [gV]
  | (p,b) :: A,H,q=>by
    rw [List.cons_append,ap.get_cons,ap.get_cons,EW A H q]
    by_cases h:p = q
    · subst h; simp [gV]
    · simp only [if_neg h,gV,List.map_cons,List.mem_cons]
      have:¬ q = p:=fun e=>h e.symm
      simp only [this,false_or]
      rfl
theorem kG (r:fm) (q:Nat):ap.get (after σ r).hp q = if q∈gV r.res.eff then ap.get r.res.eff q else fT r.res.kill (ap.get σ.hp q):=by
  rw [after,EW,HJ]
def tL (dst:Option Nat) (s:bA):bA:=match dst with | some d=>bif s.ch.any (fun y=>Nat.beq y.1 d) then ⟨[], .c .unk⟩ else s | none=>s
theorem kF (r:fm) (t:Nat):bv (after σ r).tm t = if r.dst = some t then some ⟨r.ch,r.res.val⟩ else (bv σ.tm t).map fun s=>tL r.dst ⟨s.ch,s.v.killAll r.res.kill⟩:=by
  unfold after tL
  cases hd:r.dst with
  | none=>simp only [reduceCtorEq,if_false]; rw [oX]
  | some d =>
    simp only [Option.some.injEq]
    rw [oK]
    split
    · rfl
    · rw [yX,oX]
      cases bv σ.tm t <;> rfl
theorem Ed {d:Option Nat} {t:Nat}:t∈pO d↔d = some t:=by
  cases d with
  | none=>simp [pO]
  | some x=>simp [pO,eq_comm]
theorem X6 {r:fm} {t:Nat} {s:bA} (h:bv (after σ r).tm t = some s) (ht:t ∉ pO r.dst) (hn:s.v.noUnk = true):bv σ.tm t = some s:=by
  rw [kF,if_neg (fun e=>ht (Ed.2 e))] at h
  cases hx:bv σ.tm t with
  | none=>rw [hx] at h; cases h
  | some y =>
    rw [hx] at h
    simp only [Option.map_some,Option.some.injEq] at h
    have:tL r.dst ⟨y.ch,y.v.killAll r.res.kill⟩ = ⟨y.ch,y.v.killAll r.res.kill⟩:=by
      unfold tL
      cases hd:r.dst with
      | none=>rfl
      | some d =>
        simp only
        cases hc:y.ch.any (fun z=>Nat.beq z.1 d) with
        | false=>rfl
        | true =>
          simp only [tL,hd,hc,cond_true] at h
          subst h
          simp [V.noUnk] at hn
    rw [this] at h
    subst h
    have:=w9 _ _ hn
    obtain ⟨ych,yv⟩:=y
    simp only at this ⊢
    rw [this]
theorem Ux {r:fm} {t:Nat} {s:bA} (h:bv σ.tm t = some s) (ht:t ∉ pO r.dst) (hk:∀ q∈s.v.refs,q ∉ r.res.kill) (hc:∀ x∈s.ch,x.1 ∉ pO r.dst):bv (after σ r).tm t = some s:=by
  rw [kF,if_neg (fun e=>ht (Ed.2 e)),h]
  simp only [Option.map_some,Option.some.injEq]
  have e1:s.v.killAll r.res.kill = s.v:=oy _ _ hk
  rw [e1]
  unfold tL
  cases hd:r.dst with
  | none=>rfl
  | some d =>
    simp only
    have:s.ch.any (fun z=>Nat.beq z.1 d) = false:=by
      refine List.any_eq_false.2 fun x hx=>?_
      have:=hc x hx
      rw [hd] at this
      intro hb
      exact this (by simp [pO,Nat.eq_of_beq_eq_true hb])
    rw [this]
    rfl
theorem mh:∀ {xs:List Operand} {t:Nat},t∈p8 xs↔Operand.tmp t∈xs
  | [],t=>by simp [p8]
  | .tmp q :: r,t=>by simp [p8,mh (xs:=r)]
  | .const v :: r,t=>by simp [p8,mh (xs:=r)]
  | .global g :: r,t=>by simp [p8,mh (xs:=r)]
  | .func f :: r,t=>by simp [p8,mh (xs:=r)]
theorem wd {c ch:cQ} (h:xV c ch = true):∀ x∈c,x.1∈ch.map (·.1):=by
  intro x hx
  have:=List.all_eq_true.1 h x hx
  unfold Yn at this
  obtain ⟨y,hy,hyx⟩:=List.any_eq_true.1 this
  simp only [Bool.and_eq_true,Nat.beq_eq] at hyx
  rw [hyx.1]
  exact List.mem_map.2 ⟨y,hy,rfl⟩
theorem KW:∀ {vs:List V} {v:V},V.noUnks vs = true→v∈vs→v.noUnk = true
  | x :: r,v,h,hv=>by
    simp only [V.noUnks,Bool.and_eq_true] at h
    rcases List.mem_cons.1 hv with rfl | hv
    · exact h.1
    · exact KW h.2 hv
theorem A8 {ch:cQ} {t:Nat} {v:V} (h:fY σ ch (.tmp t) = some v):∃ s,bv σ.tm t = some s∧xV s.ch ch = true∧s.v = v:=by
  unfold fY at h
  cases hl:Nat.blt t 1000000 with
  | false=>simp [hl] at h
  | true =>
    simp only [hl,cond_true] at h
    split at h
    · next s hg =>
      cases hc:xV s.ch ch with
      | false=>simp [hc] at h
      | true=>simp only [hc,cond_true,Option.some.injEq] at h; exact ⟨s,hg,hc,h⟩
    · cases h
theorem LR {ch:cQ}:∀ {xs:List Operand} {vs:List V},sK σ ch xs = some vs→∀ x∈xs, ∃ v∈vs,fY σ ch x = some v
  | [],vs,h,x,hx=>by simp at hx
  | y :: xs,vs,h,x,hx=>by
    unfold sK at h
    rw [List.mapM_cons] at h
    simp only [Option.bind_eq_bind,Option.pure_def,Option.bind_eq_some_iff,Option.some.injEq] at h
    obtain ⟨d,hd,ds,hds,rfl⟩:=h
    rcases List.mem_cons.1 hx with rfl | hx
    · exact ⟨d,by simp,hd⟩
    · obtain ⟨v,hv,h⟩:=LR (xs:=xs) hds x hx
      exact ⟨v,by simp [hv],h⟩
theorem RW {ch:cQ} {c x y:Operand} {v:V} (h:vD σ ch c x y = some v) :
    ∃ b p q:Bool,fY σ ch c = some (bl b)∧fY σ (EG c true ch) x = some (bl p)∧fY σ (EG c false ch) y = some (bl q)∧v = bl (bif b then p else q):=by
  unfold vD at h
  split at h
  · next b hc =>
    split at h
    · next p q hx hy=>cases h; exact ⟨b,p,q,hc,hx,hy,rfl⟩
    · cases h
  · cases h
theorem NT {c:Operand} {wt:Bool} {ch:cQ} {i:Nat} (h:i∈(EG c wt ch).map (·.1)):i∈ch.map (·.1)∨c = .tmp i:=by
  unfold EG at h
  split at h
  · simp only [List.map_cons,List.mem_cons] at h
    rcases h with rfl | h
    · exact .inr rfl
    · exact .inl h
  · exact .inl h
theorem NQ {nid:Nat} {o:Oper} {rc:fm} (h:recOf P C N all σ nid o = some rc) (hn:V.noUnks rc.vs = true) {t:Nat} (ht:t∈rc.rds) :
    ∃ s,bv σ.tm t = some s∧s.v.noUnk = true∧(∀ x∈s.ch,x.1∈rc.rds)∧∀ q∈s.v.refs,q∈V.refss rc.vs:=by
  obtain ⟨hd,hch,hb,hr,hc,e1,e2,e3,e4,e5⟩:=je h
  have hids:∀ i,i∈rc.ch.map (·.1)→i∈rc.rds:=fun i hi=>by rw [e3]; exact List.mem_append_right _ hi
  have hbool:∀ {s:bA} {b:Bool},s.v = bl b→s.v.noUnk = true∧∀ q∈s.v.refs,q∈V.refss rc.vs:=by
    intro s b e; rw [e]; exact ⟨rfl,fun q hq=>by simp [V.refs] at hq⟩
  rw [e3,List.mem_append] at ht
  rcases ht with ht | ht
  · have hto:=mh.1 ht
    unfold BT at hr
    split at hr
    · next c x y ho =>
      cases hv:vD σ rc.ch c x y with
      | none=>simp [hv] at hr
      | some v =>
        obtain ⟨b,p,q,h1,h2,h3,_⟩:=RW hv
        have hcr:∀ i,c = .tmp i→i∈rc.rds:=fun i hi=>by rw [e3,ho]; exact List.mem_append_left _ (mh.2 (by simp [jc,Op.operands,hi]))
        rw [ho] at hto
        have hto':Operand.tmp t = c∨Operand.tmp t = x∨Operand.tmp t = y:=by simpa [jc,Op.operands] using hto
        rcases hto' with rfl | rfl | rfl
        · obtain ⟨s,g1,g2,g3⟩:=A8 h1
          exact ⟨s,g1,(hbool g3).1,fun z hz=>hids _ (wd g2 z hz),(hbool g3).2⟩
        · obtain ⟨s,g1,g2,g3⟩:=A8 h2
          exact ⟨s,g1,(hbool g3).1,fun z hz=>(NT (wd g2 z hz)).elim (hids _) (hcr _),(hbool g3).2⟩
        · obtain ⟨s,g1,g2,g3⟩:=A8 h3
          exact ⟨s,g1,(hbool g3).1,fun z hz=>(NT (wd g2 z hz)).elim (hids _) (hcr _),(hbool g3).2⟩
    · next op hnp =>
      split at hr
      · next vs hvs =>
        cases hov:Le P C σ.hp nid o vs with
        | none=>simp [hov] at hr
        | some r =>
          simp only [hov,Option.map_some,Option.some.injEq,Prod.mk.injEq] at hr
          obtain ⟨rfl,_⟩:=hr
          obtain ⟨v,hv,hov'⟩:=LR hvs _ hto
          obtain ⟨s,g1,g2,rfl⟩:=A8 hov'
          refine ⟨s,g1,KW hn hv,fun z hz=>hids _ (wd g2 z hz),fun q hq=>?_⟩
          obtain ⟨i,hi⟩:=List.getElem?_of_mem hv
          exact dw hi hq
      · cases hr
  · obtain ⟨x,hx,rfl⟩:=List.mem_map.1 ht
    have hg:=List.all_eq_true.1 hb x hx
    unfold lN at hg
    split at hg
    · next s hs =>
      simp only [Bool.and_eq_true] at hg
      have:∃ b,s.v = bl b:=by
        have:=hg.1
        unfold V.isBool at this
        split at this
        · next b e=>exact ⟨b,e⟩
        · cases this
      obtain ⟨b,hbv⟩:=this
      exact ⟨s,hs,(hbool hbv).1,fun z hz=>hids _ (wd hg.2 z hz),(hbool hbv).2⟩
    · cases hg
theorem BM {nid:Nat} {o:Oper} {rc:fm} (h:recOf P C N all σ nid o = some rc) (hA:∀ t∈rc.rds,bv σ'.tm t = bv σ.tm t) (hB:ll σ.hp σ'.hp (V.refss rc.vs)) :
    recOf P C N all σ' nid o = some rc∧holds σ'.tm rc.ch = holds σ.tm rc.ch:=by
  obtain ⟨hd,hch,hb,hr,hc,e1,e2,e3,e4,e5⟩:=je h
  have hid:∀ x∈rc.ch,bv σ'.tm x.1 = bv σ.tm x.1:=fun x hx=>hA _ (by rw [e3]; exact List.mem_append_right _ (List.mem_map.2 ⟨x,hx,rfl⟩))
  have hop:∀ (x:Operand),x∈jc o.op→∀ ch,fY σ' ch x = fY σ ch x:=by
    intro x hx ch
    cases x with
    | tmp t=>unfold fY; simp only [hA t (by rw [e3]; exact List.mem_append_left _ (mh.2 hx))]
    | _=>rfl
  have g1:js all σ'.tm o.guard = some rc.ch:=by
    have hch':=hch
    unfold js at hch ⊢
    split at hch
    · exact hch
    · next j wt _ =>
      split at hch
      · next oj hj =>
        split at hch
        · next t ht =>
          cases hl:Nat.blt t 1000000 with
          | false=>simp [hl] at hch
          | true =>
            simp only [hl,cond_true] at hch ⊢
            split at hch
            · next ch' b hg =>
              simp only [Option.some.injEq] at hch
              have:=hid (t,wt) (by rw [← hch]; simp)
              rw [this,hg]
              simp only [hch]
            · cases hch
        · cases hch
      · cases hch
  have g2:rc.ch.all (fun x=>lN σ'.tm rc.ch x.1) = true:=by
    refine List.all_eq_true.2 fun x hx=>?_
    have:=List.all_eq_true.1 hb x hx
    unfold lN at this ⊢
    rw [hid x hx]
    exact this
  have g3:BT P C σ' nid rc.ch o = some (rc.vs,rc.res):=by
    rw [← hr]
    unfold BT at hr ⊢
    split
    · next c x y ho =>
      rw [ho] at hop
      have:vD σ' rc.ch c x y = vD σ rc.ch c x y:=by
        unfold vD
        rw [hop c (by simp [jc,Op.operands]),hop x (by simp [jc,Op.operands]),hop y (by simp [jc,Op.operands])]
      rw [this]
    · next op hnp =>
      have:∀ (xs:List Operand),(∀ x∈xs,x∈jc o.op)→sK σ' rc.ch xs = sK σ rc.ch xs:=by
        intro xs
        induction xs with
        | nil=>intro _; rfl
        | cons x l ih =>
          intro hx
          unfold sK at ih ⊢
          rw [List.mapM_cons,List.mapM_cons,hop x (hx x (by simp)),ih fun z hz=>hx z (by simp [hz])]
      rw [this _ fun x hx=>hx]
      split at hr
      · next c x y ho=>exact (hnp c x y ho).elim
      · split at hr
        · next vs hvs =>
          cases hov:Le P C σ.hp nid o vs with
          | none=>simp [hov] at hr
          | some r =>
            simp only [hov,Option.map_some,Option.some.injEq,Prod.mk.injEq] at hr
            obtain ⟨rfl,_⟩:=hr
            rw [← VI hB,hov]
        · cases hr
  have hreach:dB σ'.hp rc.vs = rc.reach:=by rw [e4]; exact (qg hB).symm
  have hrows:yh σ'.hp rc.vs = rc.rws:=by rw [e5]; exact (OM hB).symm
  refine ⟨?_,nk _ fun x hx=>by rw [hid x hx]⟩
  unfold recOf
  rw [hd,cond_true,g1]
  simp only
  rw [g2,cond_true,g3]
  simp only
  rw [hc,cond_true,hreach,hrows]
  rw [← e1, ← e2, ← e3]
end
end Go.Ax
