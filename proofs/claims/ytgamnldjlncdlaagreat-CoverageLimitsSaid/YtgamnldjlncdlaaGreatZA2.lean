import Derived.Test.YtgamnldjlncdlaaGreatZA1
import Derived.Laws.BytesString
import Derived.Laws.RangeString
set_option linter.all false
/- Walks over strings, bytes as strings, parts that are cleared. -/
namespace Go.Ax
open Go.RowKit
section
variable {P:Program} {ρ:Operand→Value} {E:br} {w w':World} {o:Oper} {r:cM} {H:am} {nid:Nat}
def amf (ok:Nat→Prop):br:=⟨fun _=>none,fun _=>0,fun _=>0,fun _=>False,ok⟩
theorem aaU (hH:bG E w H) (hf:¬ E.live nid) (x:Obj) (he:r.eff = [(nid,some (.raw x))]) (hk:r.kill = []) {v':Value}
    (hv:∀ (E':br) (w':World),E'.live nid→E'.conc nid = some w.heap.size→E'.len nid = 1→aK E' w' v' r.val) :
    gn E w H nid r (E.next nid (some w.heap.size) 0 1 E.ok) (w.alloc x) v':=by
  have hb:Below w.heap.size w (w.alloc x):=(Below.refl _ _).alloc (Nat.le_refl _) _
  have hcc:∀ b,some w.heap.size = some b→w.heap.size≤b∧b < (w.alloc x).heap.size∧¬ E.ok b:=by
    intro b e; cases e
    exact ⟨Nat.le_refl _,by simp,fun h=>by have:=hH.oklt _ h; omega⟩
  have hS:gz E w [] (E.next nid (some w.heap.size) 0 1 E.ok) (w.alloc x):=gL hf _ 0 1 E.ok hb (fun b h=>(hcc b h).1) (fun _ h=>h) (fun _ h=>.inl h)
  have hN:=iJ (cap:=0) (len:=1) hf hH hb hcc (fun _ h=>h) (fun _ h=>.inl h) (fun b h=>by have:=hH.oklt b h; simp; omega)
  have e1:(E.next nid (some w.heap.size) 0 1 E.ok).conc nid = some w.heap.size:=by simp [br.next]
  have e3:(E.next nid (some w.heap.size) 0 1 E.ok).len nid = 1:=by simp [br.next]
  refine ⟨by rw [hk]; exact hS, ?_,hv _ _ (.inl rfl) e1 e3,eM⟩
  rw [he,hk]
  exact vw hN (.inl rfl) ⟨e3,_,e1,heap_alloc_new w _⟩
def j6 (w:World) (b:Nat) (x:Obj):World:={ w with heap:=w.heap.setIfInBounds b x }
theorem M5 {w:World} {b:Nat} (x:Obj) (h:b < w.heap.size):(j6 w b x).heap[b]? = some x:=by
  simp [j6,h]
theorem KC {w:World} {b b':Nat} (x:Obj) (h:b≠b'):(j6 w b x).heap[b']? = w.heap[b']?:=by
  simp [j6,Array.getElem?_setIfInBounds,h]
theorem P0 (hH:bG E w H) (hf:¬ E.live nid) {q b:Nat} (hq:E.live q) (hb:E.conc q = some b) (x:Obj) {ob:Ob} (he:r.eff = [(q,some ob)]) (hk:r.kill = [])
    (hob:∀ (E':br),E'.conc q = some b→E'.cap q = E.cap q→E'.len q = E.len q→(∀ v d,aK E w v d→aK E' (j6 w b x) v d)→(∀ v d,cx E.ok w v d→cx E'.ok (j6 w b x) v d)→ly E' (j6 w b x) q ob)
    {v':Value} (hv:∀ (E':br) (w':World),aK E' w' v' r.val):gn E w H nid r (E.next nid none 0 0 E.ok) (j6 w b x) v':=by
  have hS:gz E w [] (E.next nid none 0 0 E.ok) (j6 w b x):=by
    refine ⟨rfl,rfl,rfl,by simp [j6],fun _ h=>.inr h,fun b' hlt hno=>KC x (fun e=>hno q hq (by rw [hb,e])),fun _ h=>h,fun _ h=>.inl h,fun q hq _=>iF hf hq,fun q b' hq h'=>?_⟩
    rcases iH hq h' with ⟨_,h1,h2⟩ | ⟨_,h2⟩
    · exact .inl ⟨_,h1,h2⟩
    · cases h2
  have hr:∀ v d,aK E w v d→aK (E.next nid none 0 0 E.ok) (j6 w b x) v d:=fun v d h=>kJ hH hS h
  have hd:∀ v d,cx E.ok w v d→cx (E.next nid none 0 0 E.ok).ok (j6 w b x) v d:=fun v d h=>rG hH hS h
  have hcase:∀ q b,(E.next nid none 0 0 E.ok).live q→(E.next nid none 0 0 E.ok).conc q = some b→E.live q∧E.conc q = some b:=by
    intro q b hq h
    rcases iH hq h with ⟨_,h1,h2⟩ | ⟨_,h2⟩
    · exact ⟨h1,h2⟩
    · cases h2
  refine ⟨by rw [hk]; exact hS, ?_,hv _ _,eM⟩
  rw [he,hk]
  refine ⟨fun q' y hq'=>?_,fun q' q2 b' h1 h2 h h'=>?_,fun q' b' h1 h=>?_,fun q' b' h1 h=>?_,fun b' h=>by simp [j6]; exact hH.oklt b' h⟩
  · rw [List.cons_append,List.nil_append,am.get_cons] at hq'
    split at hq'
    · next e =>
      subst e; cases hq'
      obtain ⟨c1,c2,c3⟩:=iF (c:=none) (cap:=0) (len:=0) (ok':=E.ok) hf hq
      exact ⟨.inr hq,hob _ (c1.trans hb) c2 c3 hr hd⟩
    · next hne =>
      obtain ⟨h1,h2⟩:=hH.at_ q' y hq'
      refine ⟨.inr h1,rm h2 (iF hf h1) (fun b' hb'=>KC x fun e=>?_) hr hd⟩
      subst e
      exact hne (hH.inj _ _ _ hq h1 hb hb')
  · obtain ⟨a1,a2⟩:=hcase q' b' h1 h
    obtain ⟨b1,b2⟩:=hcase q2 b' h2 h'
    exact hH.inj q' q2 b' a1 b1 a2 b2
  · obtain ⟨a1,a2⟩:=hcase q' b' h1 h
    exact hH.sep q' b' a1 a2
  · obtain ⟨a1,a2⟩:=hcase q' b' h1 h
    simp [j6]; exact hH.lt q' b' a1 a2
theorem TT (hH:bG E w H) (hf:¬ E.live nid) {t:TypeId} {x:Operand} (ho:o.op = .range t x) {vx:V} (hx:aK E w (ρ x) vx) (h:O8 P nid t vx = some r) :
    ∃ E' w' v',(execOp ρ o).run P w = .ok (.value v') w'∧gn E w H nid r E' w' v':=by
  unfold O8 at h
  split at h
  · next s hu =>
    cases h
    have ex:=hx.lit_inv
    refine ⟨_,w.alloc (.stringIter s 0), .pointer (some ⟨w.heap.size,0,none⟩), ?_,aaU hH hf (.stringIter s 0) rfl rfl fun E' w' h1 h2 h3=>?_⟩
    · have:=run_range_string (P:=P) w t s hu
      simp only [execOp,ho,ex,Sem.run_bind,this,Result.andThen_ok]
      rfl
    · have:=aK.ptr (E:=E') (w:=w') nid 1 0 0 w.heap.size h1 h2 (by omega)
      simpa using this
  · cases h
theorem Ur (hH:bG E w H) (hf:¬ E.live nid) {x:Operand} (ho:o.op = .next x true) {vx:V} (hx:aK E w (ρ x) vx) (h:N4 H vx = some r) :
    ∃ E' w' v',(execOp ρ o).run P w = .ok (.value v') w'∧gn E w H nid r E' w' v':=by
  unfold N4 at h
  split at h
  · next q k i j =>
    split at h
    · next s pos hg =>
      cases hb0:Nat.beq (i*k+j) 0 with
      | false=>simp [hb0] at h
      | true =>
        simp only [hb0,cond_true,Option.some.injEq] at h
        have h0:=Nat.eq_of_beq_eq_true hb0
        obtain ⟨hl,hlen,b,hb,hh⟩:=hH.at_ _ _ hg
        have ex:ρ x = .pointer (some ⟨b,0,none⟩):=by
          generalize ρ x = v at hx
          cases hx with
          | ptr _ _ _ _ b' g1 g2 g3=>rw [hb] at g2; cases g2; rw [h0]
        subst h
        have hlt:=lu hh
        refine ⟨_,j6 w b (.stringIter s (bif Nat.blt pos s.size then pos+JU s pos else pos)),JI (Nat.blt pos s.size) [.int .i64 pos, .int .i32 (JJ s pos)], ?_,
          P0 hH hf hl hb _ (ob:=.raw (.stringIter s (bif Nat.blt pos s.size then pos+JU s pos else pos))) rfl rfl (fun E' h1 h2 h3 _ _=>⟨h3.trans hlen,b,h1,M5 _ hlt⟩) fun E' w'=>.c _ _ (.opt _ _)⟩
        by_cases hp:pos < s.size
        · have hp':Nat.blt pos s.size = true:=by simpa using hp
          have:(Instr.next (.pointer (some ⟨b,0,none⟩)) true o.type).run P w = .ok (.tuple #[.bool true, .int .i64 pos, .int .i32 (JJ s pos)]) (j6 w b (.stringIter s (pos+JU s pos))):=by
            simp [Instr.next,getObj,setObj,Sem.run,hh,hp,goInt,JJ,JU,j6]
          rw [hp']
          simp only [execOp,ho,ex,Sem.run_bind,this,Result.andThen_ok]
          rfl
        · have hp':Nat.blt pos s.size = false:=by
            cases hc:Nat.blt pos s.size with
            | false=>rfl
            | true=>rw [Nat.blt_eq] at hc; exact (hp hc).elim
          have hw:j6 w b (.stringIter s pos) = w:=by
            unfold j6
            congr 1
            apply Array.ext_getElem?
            intro i
            by_cases e:b = i
            · subst e; rw [Array.getElem?_setIfInBounds,if_pos rfl,if_pos hlt,hh]
            · rw [Array.getElem?_setIfInBounds,if_neg e]
          have:(Instr.next (.pointer (some ⟨b,0,none⟩)) true o.type).run P w = .ok (.tuple #[.bool false]) w:=by
            simp [Instr.next,getObj,Sem.run,hh,hp]
          rw [hp']
          simp only [execOp,ho,ex,Sem.run_bind,this,Result.andThen_ok,cond_false,hw]
          rfl
    · cases h
  · cases h
theorem H1:∀ (ns:List Int) (s:ByteArray),ns.foldl (fun r n=>r.push (UInt8.ofNat n.toNat)) s = ⟨s.data++(ns.map fun x=>UInt8.ofNat x.toNat).toArray⟩
  | [],s=>by simp
  | n :: ns,s=>by
    rw [List.foldl_cons,H1 ns]
    congr 1
    simp [ByteArray.push]
theorem Qx (hH:bG E w H) {s d e:TypeId} (hs:P.underlying s = some (.slice e)) (hd:P.underlying d = some .string) (he:P.underlying e = some (.int .u8)) {x:Operand} (ho:o.op = .convert s d x) {vx:V} (hx:aK E w (ρ x) vx)
    (h:K9 H vx = some r) (hp:∀ p∈r.pre,p):m8 P ρ o E w r:=by
  unfold K9 at h
  split at h
  · next k n el ha =>
    cases h
    have p1:0 < n→k = 1:=hp _ (by simp)
    have p2:∀ i,i < n→el i = lS (nH (el i)):=hp _ (by simp)
    obtain ⟨news,hsrc⟩:=Gl hH hx ha
    obtain ⟨a,c,ev,hc,hm,hcell⟩:=hsrc.form
    refine ⟨rfl,rfl,_, ?_, .lit _⟩
    have key:(Conv.bytesToString (ρ x)).run P w = .ok (.string (oy (lst nH n el))) w:=by
      rw [ev]
      cases n with
      | zero =>
        have hl:lst nH 0 el = []:=rfl
        rw [hl]
        cases a with
        | none=>rfl
        | some ad =>
          have:=run_bytesToString (P:=P) w ad 0 c [] (by have:=run_loadCells (P:=P) w ad 0 (fun _=>undef) (fun j hj=>by omega); simpa using this)
          rw [this]; rfl
      | succ n =>
        obtain ⟨ad,rfl,hcl⟩:=hcell (by omega)
        have hk:=p1 (by omega)
        subst hk
        have hlen:=hsrc.len
        have hnews:news = (lst nH (n+1) el).map (Value.int .u8):=by
          refine List.ext_getElem? fun i=>?_
          by_cases hi:i < n+1
          · have h1:i < news.length:=by rw [hlen]; omega
            have hr:=hsrc.rep i 0 (.lit (.int .u8 (nH (el i)))) (news[i]) hi (by rw [p2 i hi]; rfl) (by rw [Nat.mul_one,Nat.add_zero]; exact List.getElem?_eq_getElem h1)
            rw [List.getElem?_eq_getElem h1,List.getElem?_map]
            unfold lst
            rw [List.getElem?_map,List.getElem?_range hi]
            simp only [Option.map_some,Option.some.injEq]
            generalize news[i] = z at hr
            generalize nH (el i) = y at hr
            cases hr with
            | lit=>rfl
          · rw [List.getElem?_eq_none (by rw [hlen]; omega),List.getElem?_eq_none (by simp [lst]; omega)]
        have hload:(loadCells ad (n+1)).run P w = .ok ((lst nH (n+1) el).map (Value.int .u8)).toArray w:=by
          have:=run_loadCells_list (P:=P) w ad news (fun j v hv=>hcl j v hv)
          rw [hlen,Nat.mul_one] at this
          rw [this,hnews]
        rw [run_bytesToString w ad (n+1) c _ hload,H1]
        simp [oy]
    rw [ev] at key
    simp [execOp,ho,ev,convert,run_underlying hs,run_underlying hd,run_underlying he,key]
  · cases h
theorem Q5 {e:TypeId} {z:List D} (h:um P e = some z):∃ (i:TypeInfo) (v:Value),P.info? e = some i∧i.zero = some v∧v.cells.size = z.length∧(∀ u∈v.cells.toList,u.oneCell' = true) ∧
    ∀ (ok:Nat→Prop) (w:World) (j:Nat) (d:D) (u:Value),z[j]? = some d→v.cells[j]? = some u→cx ok w u d:=by
  have h0:=h
  unfold um at h0
  split at h0
  · next zv hzv =>
    obtain ⟨i,v,h1,h2,h3,h4⟩:=qI hzv
    obtain ⟨i',v',g1,g2,g3,g4,g5⟩:=Mt h
    rw [h1] at g1; cases g1
    rw [h2] at g2; cases g2
    refine ⟨i,v,h1,h2,g3,Pc v h3 h4 (zX h0),fun ok w j d u hd hu=>?_⟩
    have:=(em (E:=amf ok) (w:=w) v h4).2 j u (.c d) (by rw [Array.getElem?_toList]; exact hu) (g4 j d hd)
    cases this with
    | c _ _ h=>exact h
  · cases h0
theorem Ss (hH:bG E w H) (hf:¬ E.live nid) {c:Call} (ho:o.op = .call c) (hcal:c.callee = .builtin .clear) {x:Operand} (hargs:c.args = #[x]) {t:TypeId} (hat:c.argTypes[0]? = some t) {vx:V} (hx:aK E w (ρ x) vx)
    (h:vt P H t vx = some r):∃ E' w' v',(execOp ρ o).run P w = .ok (.value v') w'∧gn E w H nid r E' w' v':=by
  have run:∀ w',(Builtin.clear_ c.argTypes o.type #[ρ x]).run P w = .ok (.tuple #[]) w'→(execOp ρ o).run P w = .ok (.value (.tuple #[])) w':=by
    intro w' hn
    simp [execOp,ho,resolve,hcal,hargs,invoke,builtin,hn]
  unfold vt at h
  split at h
  · next e q k off n hu =>
    split at h
    · next e' k' m el z hg hz =>
      cases hs:(Nat.beq e' e&&Nat.beq k' k&&Nat.beq k (sz P e)&&Nat.beq z.length k&&Nat.blt 0 k&&kA P e) with
      | false=>simp [hs] at h
      | true =>
        simp only [hs,cond_true,Option.some.injEq] at h
        simp only [Bool.and_eq_true,Nat.beq_eq,Nat.blt_eq] at hs
        obtain ⟨⟨⟨⟨⟨rfl,rfl⟩,hk1⟩,hk2⟩,hk0⟩,hkn⟩:=hs
        obtain ⟨hl,hob⟩:=hH.at_ _ _ hg
        obtain ⟨i,zv,z1,z2,z3,z4,z5⟩:=Q5 hz
        subst h
        generalize hv:ρ x = v at hx run
        cases hx with
        | row _ _ _ _ a cp hn hc hm hle ha h0 =>
        have hlen:off+n≤m:=by rw [← hob.1]; exact hle
        by_cases hn0:n = 0
        · subst hn0
          have hel:(fun q=>bif Nat.ble off q&&Nat.blt q (off+0) then z else el q) = el:=by
            funext q
            have:(Nat.ble off q&&Nat.blt q (off+0)) = false:=by
              cases hc:(Nat.ble off q&&Nat.blt q (off+0)) with
              | false=>rfl
              | true=>rw [Bool.and_eq_true,Nat.ble_eq,Nat.blt_eq] at hc; omega
            rw [this]; rfl
          rw [hel]
          have hS:gz E w [] (E.next nid none 0 0 E.ok) w:=gL hf none 0 0 E.ok (.refl _ _) (by simp) (fun _ h=>h) (fun _ h=>.inl h)
          have hN:bG (E.next nid none 0 0 E.ok) w H:=iJ hf hH (.refl _ _) (by simp) (fun _ h=>h) (fun _ h=>.inl h) hH.oklt
          refine ⟨_,w, .tuple #[],run w ?_,hS, ?_, .c _ _ (.unk _),eM⟩
          · cases a <;> simp [Builtin.clear_,hat,run_underlying hu]
          · exact vw hN (hN.at_ _ _ hg).1 (hN.at_ _ _ hg).2
        · obtain ⟨b,hb,rfl⟩:=ha (by omega)
          obtain ⟨hlen2,hrow⟩:=hob
          obtain ⟨b',C,c1,c2,c3,c4,c5,c6,c7,c8⟩:=hrow.resolve_left (fun h=>by rw [hb] at h; cases h.1)
          rw [hb] at c1; cases c1
          have hfit:off*k'+n*k'≤C.size:=by
            rw [c3, ← Nat.add_mul]
            exact Nat.mul_le_mul_right _ (by omega)
          have hzl:(Builtin.zeroCells zv.cells n).toList.length = n*k':=by simp [Builtin.zeroCells,z3,hk2]
          have hzu:∀ q u,(Builtin.zeroCells zv.cells n).toList[q]? = some u→q < n*k'∧zv.cells[q % k']? = some u:=by
            intro q u hq
            have hlt:=(List.getElem?_eq_some_iff.1 hq).1
            rw [hzl] at hlt
            refine ⟨hlt, ?_⟩
            have hm:q % k' < zv.cells.size:=by rw [z3,hk2]; exact Nat.mod_lt _ hk0
            rw [Array.getElem?_toList] at hq
            unfold Builtin.zeroCells at hq
            rw [Array.getElem?_map,z3,hk2,Array.getElem?_range,if_pos hlt] at hq
            simp only [Option.map_some,Option.some.injEq] at hq
            rw [getElem!_pos zv.cells _ hm] at hq
            rw [Array.getElem?_eq_getElem hm,hq]
          have hone:∀ u∈(Builtin.zeroCells zv.cells n).toList,u.oneCell' = true:=by
            intro u hu'
            obtain ⟨q,hq⟩:=List.getElem?_of_mem hu'
            obtain ⟨_,h2⟩:=hzu q u hq
            exact z4 u (List.mem_of_getElem? (by rw [Array.getElem?_toList]; exact h2))
          have hst:=run_storeCells_at P b (off*k') e' (Builtin.zeroCells zv.cells n).toList 0 C w c2 (by rw [hzl]; exact hfit) hone
          rw [Nat.add_zero] at hst
          rw [hzl] at hst
          generalize hC':(C.toList.take (off*k')++(Builtin.zeroCells zv.cells n).toList++C.toList.drop (off*k'+n*k')).toArray = C' at hst
          have hrow':w.setRow b C' = j6 w b (.cells C' e' (0,0)):=by
            have hlt:=lu c2
            have h1:=setRow_heap w b C C' e' (0,0) c2
            unfold World.setRow j6
            unfold World.setRow at h1
            congr 1
            apply Array.ext_getElem?
            intro j
            by_cases e:b = j
            · subst e
              rw [Array.getElem?_setIfInBounds,if_pos rfl,if_pos hlt]
              exact h1
            · rw [Array.getElem?_setIfInBounds,if_neg e,Array.getElem?_modify,if_neg e]
          have hget:∀ q,C'[q]? = if off*k'≤q∧q < off*k'+n*k' then (Builtin.zeroCells zv.cells n).toList[q - off*k']? else C[q]?:=by
            intro q
            rw [← hC',List.getElem?_toArray]
            have ht:(C.toList.take (off*k')).length = off*k':=by rw [List.length_take,Array.length_toList]; omega
            by_cases h1:q < off*k'
            · rw [if_neg (by omega),List.append_assoc,List.getElem?_append_left (by omega),List.getElem?_take_of_lt h1,Array.getElem?_toList]
            · by_cases h2:q < off*k'+n*k'
              · rw [if_pos ⟨by omega,h2⟩,List.append_assoc,List.getElem?_append_right (by omega),ht,List.getElem?_append_left (by omega)]
              · rw [if_neg (by omega),List.getElem?_append_right (by rw [List.length_append]; omega),List.length_append,ht,hzl,List.getElem?_drop,Array.getElem?_toList]
                congr 1; omega
          have hsz:C'.size = C.size:=by
            rw [← hC']
            simp [hzl]
            omega
          refine ⟨_,j6 w b (.cells C' e' (0,0)), .tuple #[],run _ ?_,P0 hH hf hl hb _ (ob:=.row e' k' m fun q=>bif Nat.ble off q&&Nat.blt q (off+n) then z else el q) rfl rfl (fun E' h1 h2 h3 hr hd=>⟨h3.trans hlen2, .inr ⟨b,C',h1,M5 _ (lu c2),by rw [hsz,h2]; exact c3,by rw [h2]; exact c4,by rw [h2]; exact c5, ?_, ?_, ?_⟩⟩) fun E' w'=>.c _ _ (.unk _)⟩
          · obtain ⟨n',rfl⟩:∃ n',n = n'+1:=⟨n - 1,by omega⟩
            have hzv:=lD (P:=P) (w:=w) z1 z2
            simp [Builtin.clear_,hat,run_underlying hu,hzv,hst,hrow']
          · intro q hq
            simp only
            cases hc:(Nat.ble off q&&Nat.blt q (off+n)) with
            | true=>exact hk2
            | false=>exact c6 q hq
          · intro q j u hq hj hu'
            rw [hget] at hu'
            split at hu'
            · exact hone u (List.mem_of_getElem? hu')
            · exact c7 q j u hq hj hu'
          · intro q j d u hq hd' hu'
            rw [hget] at hu'
            simp only at hd'
            cases hc:(Nat.ble off q&&Nat.blt q (off+n)) with
            | true =>
              rw [hc,cond_true] at hd'
              rw [Bool.and_eq_true,Nat.ble_eq,Nat.blt_eq] at hc
              have hj:j < k':=by rw [← hk2]; exact (List.getElem?_eq_some_iff.1 hd').1
              have a1:off*k'≤q*k':=Nat.mul_le_mul_right _ hc.1
              have a2:(q+1)*k'≤(off+n)*k':=Nat.mul_le_mul_right _ hc.2
              rw [Nat.add_mul,Nat.one_mul,Nat.add_mul] at a2
              rw [if_pos ⟨by omega,by omega⟩] at hu'
              obtain ⟨_,h2⟩:=hzu _ _ hu'
              have:(q*k'+j - off*k') % k' = j:=by
                obtain ⟨p,rfl⟩:∃ p,q = off+p:=⟨q - off,by omega⟩
                rw [Nat.add_mul,show off*k'+p*k'+j - off*k' = j+p*k' by omega,Nat.add_mul_mod_self_right,Nat.mod_eq_of_lt hj]
              rw [this] at h2
              exact z5 _ _ j d u hd' h2
            | false =>
              rw [hc,cond_false] at hd'
              have hj:j < k':=by rw [← c6 q hq]; exact (List.getElem?_eq_some_iff.1 hd').1
              have hno:¬ (off*k'≤q*k'+j∧q*k'+j < off*k'+n*k'):=by
                rintro ⟨g1,g2⟩
                have g3:¬ (off≤q∧q < off+n):=by
                  rintro ⟨h1,h2⟩
                  have:(Nat.ble off q&&Nat.blt q (off+n)) = true:=by rw [Bool.and_eq_true,Nat.ble_eq,Nat.blt_eq]; exact ⟨h1,h2⟩
                  rw [this] at hc; cases hc
                by_cases h1:off≤q
                · have h2:off+n≤q:=by omega
                  have:=Nat.mul_le_mul_right k' h2
                  rw [Nat.add_mul] at this
                  omega
                · have:(q+1)*k'≤off*k':=Nat.mul_le_mul_right _ (by omega)
                  rw [Nat.add_mul,Nat.one_mul] at this
                  omega
              rw [if_neg hno] at hu'
              exact hd _ _ (c8 q j d u hq hd' hu')
    · cases h
  · cases h
end
end Go.Ax
namespace Go.Ax
open Go.RowKit
def m6 (ok:Nat→Prop):br:=⟨fun _=>none,fun _=>0,fun _=>0,fun _=>False,ok⟩
def N9 (ok:Nat→Prop) (w w':World) (v:Value):bK→Prop
  | .data d=>aK (m6 fun b=>ok b∨(w.heap.size≤b∧b < w'.heap.size)) w' v d
  | .new d=>aK (m6 fun b=>w.heap.size≤b∧b < w'.heap.size) w' v d
  | .own fr t k n el=>∃ xs,w'.ownsRow w.heap.size t k v n xs∧(∀ i,i < n→(el i).length = k)∧(∀ i j u,i < n→j < k→xs[i*k+j]? = some u→u.oneCell' = true) ∧
      ∀ i j d u,i < n→(el i)[j]? = some d→xs[i*k+j]? = some u→cx (fun b=>(fr = false∧ok b)∨(w.heap.size≤b∧b < w'.heap.size∧v.ownBlock≠some b)) w' u d
def wx (P:Program) (f:FuncId) (args:Array Value) (w:World) (R:Value→World→Prop):Prop :=
  ((callFunc f args).run P w = .ok (.enter f args) w∧Calls P f args w fun e w'=>∃ v,e = .returned v∧R v w')∨∃ v w',(callFunc f args).run P w = .ok (.value v) w'∧R v w'
theorem wx.mono {P:Program} {f:FuncId} {args:Array Value} {w:World} {R R':Value→World→Prop} (h:wx P f args w R) (hr:∀ v w',R v w'→R' v w'):wx P f args w R':=by
  rcases h with ⟨h1,h2⟩ | ⟨v,w',h1,h2⟩
  · refine .inl ⟨h1,h2.mono ?_⟩
    rintro e w' ⟨v,rfl,h⟩
    exact ⟨v,rfl,hr v w' h⟩
  · exact .inr ⟨v,w',h1,hr v w' h2⟩
def bc (P:Program) (f:FuncId) (con:bU):Prop :=
  ∀ (ok:Nat→Prop) (w:World) (xs:List Value) (vs:List V) (p:List Prop) (out:bK),cq (m6 ok) w xs vs→(∀ b,ok b→b < w.heap.size)→con vs = some (p,out)→(∀ q∈p,q) →
    wx P f xs.toArray w fun v w'=>Below w.heap.size w w'∧N9 ok w w' v out
def bR (P:Program) (f:FuncId):CC→Prop
  | .pure c=>bc P f c
  | .mut m=>∀ (E:br) (w:World) (H:am) (nid:Nat) (xs:List Value) (args:List V) (r:cM),bG E w H→¬ E.live nid→cq E w xs args→m (eH (dE H args) H) nid args = some r→(∀ p∈r.pre,p) →
    wx P f xs.toArray w fun v w'=>∃ E',gn E w H nid r E' w' v
section
variable {P:Program} {ρ:Operand→Value} {E:br} {w w':World} {o:Oper} {r:cM} {H:am} {nid:Nat}
theorem jI (H:am):∀ vs:List V,(V.views H vs).length = vs.length
  | []=>rfl
  | _ :: r=>by simp [V.views,jI H r]
theorem ol (H:am):∀ (vs:List V) (i:Nat),(V.views H vs)[i]? = (vs[i]?).map (V.view H)
  | [],i=>by simp [V.views]
  | v :: r,0=>by simp [V.views]
  | v :: r,i+1=>by simp [V.views,ol H r i]
theorem LW {ok':Nat→Prop} (hok:∀ b,E.ok b→ok' b) (hown:∀ q b,E.live q→E.conc q = some b→ok' b) {v:Value} {k n:Nat} {el:Nat→List D} {news:List Value} (h:Zi E w v k n el news):cx ok' w v (.sl k n el):=by
  obtain ⟨a,c,rfl,hc,hm,hcell⟩:=h.form
  have hlt:∀ i j,i < n→j < k→i*k+j < news.length:=by
    intro i j hi hj
    rw [h.len]
    have:(i+1)*k≤n*k:=Nat.mul_le_mul_right _ hi
    rw [Nat.add_mul,Nat.one_mul] at this
    omega
  refine .sl a n c k el (fun i j=>news.getD (i*k+j) undef) hc hm (fun hn=>?_) (fun i j hi hj=>?_) h.els (fun i j d hi hd=>?_)
  · obtain ⟨ad,rfl,hq⟩:=hcell hn
    refine ⟨ad,rfl, ?_,fun i j hi hj=>hq _ _ ?_⟩
    · rcases h.blk ad n c rfl hn with h | ⟨q,h1,h2⟩
      · exact hok _ h
      · exact hown q _ h1 h2
    · rw [List.getD_eq_getElem?_getD,List.getElem?_eq_getElem (hlt i j hi hj)]; rfl
  · refine h.one _ ?_
    show news.getD (i*k+j) undef∈news
    rw [List.getD_eq_getElem?_getD,List.getElem?_eq_getElem (hlt i j hi hj)]
    exact List.getElem_mem _
  · have hj:j < k:=by rw [← h.els i hi]; exact (List.getElem?_eq_some_iff.1 hd).1
    refine (h.rep i j d (news.getD (i*k+j) undef) hi hd ?_).mono hok (fun _ _=>rfl)
    rw [List.getD_eq_getElem?_getD,List.getElem?_eq_getElem (hlt i j hi hj)]
    rfl
theorem PN {ok':Nat→Prop} (hH:bG E w H) (hok:∀ b,E.ok b→ok' b) (hown:∀ q b,E.live q→E.conc q = some b→ok' b) {v:Value} {o' k off n:Nat} (h:aK E w v (.row o' k off n)) :
    ∃ d,Gv H o' k off n = .c d∧cx ok' w v d:=by
  unfold Gv
  split
  · next e k' m el hg =>
    cases hs:Nat.beq k' k with
    | false=>exact ⟨.unk,rfl, .unk _⟩
    | true =>
      have hkk:k' = k:=Nat.eq_of_beq_eq_true hs
      subst hkk
      have ha:jX H (.row o' k' off n) = some (k',n,fun i=>el (off+i)):=by simp [jX,hg]
      obtain ⟨news,hsrc⟩:=Gl hH h ha
      exact ⟨_,rfl,LW hok hown hsrc⟩
  · exact ⟨.unk,rfl, .unk _⟩
theorem UF {ok':Nat→Prop} (hH:bG E w H) (hok:∀ b,E.ok b→ok' b) (hown:∀ q b,E.live q→E.conc q = some b→ok' b) {v:Value} {d:V} (h:aK E w v d):cx ok' w v (xv H d):=by
  unfold xv
  split
  · cases h with | c _ _ h=>exact h.mono hok fun _ _=>rfl
  · next o' k off n =>
    obtain ⟨d,hd,hr⟩:=PN hH hok hown h
    rw [hd]
    exact hr
  · exact .unk _
theorem yy {ok':Nat→Prop} (hH:bG E w H) (hok:∀ b,E.ok b→ok' b) {v:Value} {d:V} (h:aK E w v d) :
    ((∀ q b,E.live q→E.conc q = some b→ok' b)∨d.refs = [])→aK (m6 ok') w v (d.view H):=by
  induction h with
  | c v d h =>
    intro _
    have h':cx ok' w v d:=h.mono hok fun _ _=>rfl
    cases d with
    | nil =>
      cases h
      exact .c _ _ (.sl none 0 0 0 _ (fun _ _=>undef) (Nat.le_refl _) (by simp [maxLen]) (fun h=>by omega) (fun i j h=>by omega) (fun i h=>by omega) (fun i j d h=>by omega))
    | unk=>exact .c _ _ h'
    | lit u=>exact .c _ _ h'
    | opt b us=>exact .c _ _ h'
    | any=>exact .c _ _ h'
    | sl k n el=>exact .c _ _ h'
  | agg vs ds hl h ih =>
    intro hd
    rw [V.view]
    refine .agg _ _ (by rw [jI,hl]) fun i v d hv hd'=>?_
    rw [ol] at hd'
    cases hx:ds[i]? with
    | none=>rw [hx] at hd'; cases hd'
    | some x =>
      rw [hx] at hd'; cases hd'
      exact ih i v x hv hx (hd.imp id fun hr=>refs_nil hr hx)
  | tup vs ds hl h ih =>
    intro hd
    rw [V.view]
    refine .tup _ _ (by rw [jI,hl]) fun i v d hv hd'=>?_
    rw [ol] at hd'
    cases hx:ds[i]? with
    | none=>rw [hx] at hd'; cases hd'
    | some x =>
      rw [hx] at hd'; cases hd'
      exact ih i v x hv hx (hd.imp id fun hr=>refs_nil hr hx)
  | ptr o' k i j b hn hb hi =>
    intro hd
    have hown:∀ q b,E.live q→E.conc q = some b→ok' b:=hd.resolve_right (by simp [V.refs])
    rw [V.view]
    unfold Qp
    split
    · next e k' m el hg =>
      cases hs:Nat.beq k' k with
      | false=>exact .unk _
      | true =>
        have hkk:k' = k:=Nat.eq_of_beq_eq_true hs
        subst hkk
        simp only [cond_true]
        obtain ⟨C,h2,h3,h4,h6,h7,h8⟩:=xZ hH hg hb
        obtain ⟨_,hlen,_⟩:=hH.at_ _ _ hg
        have him:i < m:=by omega
        have hik:(i+1)*k'≤E.cap o'*k':=Nat.mul_le_mul_right _ (by omega)
        rw [Nat.add_mul,Nat.one_mul] at hik
        have hq:∀ q,q < k'→C[i*k'+q]? = some (C.getD (i*k'+q) undef):=by
          intro q hq
          have:i*k'+q < C.size:=by omega
          simp [Array.getD,this]
        have:=aK.dptr (E:=m6 ok') (w:=w) k' (el i) j ⟨b,i*k',none⟩ (fun q=>C.getD (i*k'+q) undef) (hown o' b hn hb)
          (fun q hq'=>by rw [dS,cell_of_row w b _ C e (0,0) h2]; exact hq q hq') (h6 i him)
          (fun q d hd'=>by
            have hqk:q < k':=by rw [← h6 i him]; exact (List.getElem?_eq_some_iff.1 hd').1
            exact (h8 i q d _ him hd' (hq q hqk)).mono hok fun _ _=>rfl)
        rwa [dS] at this
    · next cs hg =>
      cases hs:Nat.beq cs.length k with
      | false=>exact .unk _
      | true =>
        have hkk:cs.length = k:=Nat.eq_of_beq_eq_true hs
        simp only [cond_true]
        obtain ⟨_,hlen,b',C,te,h1,h2,h3⟩:=hH.at_ _ _ hg
        rw [h1] at hb; cases hb
        have hi0:i = 0:=by omega
        subst hi0
        have hq:∀ q,q < k→C[q]? = some (C.getD q undef):=by
          intro q hq
          have:q < C.size:=by have:=h3.1; simp at this; omega
          simp [Array.getD,this]
        have:=aK.dptr (E:=m6 ok') (w:=w) k (cs.map (xv H)) j ⟨b,0,none⟩ (fun q=>C.getD q undef) (hown o' b hn h1)
          (fun q hq'=>by rw [dS,Nat.zero_add,cell_of_row w b _ C te (0,0) h2]; exact hq q hq') (by simpa using hkk)
          (fun q d hd'=>by
            rw [List.getElem?_map] at hd'
            cases hx:cs[q]? with
            | none=>rw [hx] at hd'; cases hd'
            | some x =>
              rw [hx] at hd'; cases hd'
              have hqk:q < k:=by rw [← hkk]; exact (List.getElem?_eq_some_iff.1 hx).1
              exact UF hH hok hown (h3.2 q _ x (by rw [Array.getElem?_toList]; exact hq q hqk) hx))
        rw [dS,Nat.zero_add] at this
        simpa using this
    · exact .c _ _ (.unk _)
    · exact .c _ _ (.unk _)
  | row o' k off n a c hn hc hm hl ha h0 =>
    intro hd
    have hown:∀ q b,E.live q→E.conc q = some b→ok' b:=hd.resolve_right (by simp [V.refs])
    rw [V.view]
    obtain ⟨d,hd',hr⟩:=PN hH hok hown (.row o' k off n a c hn hc hm hl ha h0)
    rw [hd']
    exact .c _ _ hr
  | dptr k cs j ad u hok' hcell hl hu =>
    intro _
    rw [V.view]
    exact .dptr k cs j ad u (hok _ hok') hcell hl fun i d hd=>(hu i d hd).mono hok fun _ _=>rfl
  | fn f vs ds hl h ih =>
    intro hd
    rw [V.view]
    refine .fn _ _ _ (by rw [jI,hl]) fun i v d hv hd'=>?_
    rw [ol] at hd'
    cases hx:ds[i]? with
    | none=>rw [hx] at hd'; cases hd'
    | some x =>
      rw [hx] at hd'; cases hd'
      exact ih i v x hv hx (hd.imp id fun hr=>refs_nil hr hx)
where
  refs_nil {ds:List V} {i:Nat} {x:V} (h:V.refss ds = []) (hx:ds[i]? = some x):x.refs = []:=by
    cases hr:x.refs with
    | nil=>rfl
    | cons a l =>
      have:a∈V.refss ds:=dx hx (by rw [hr]; simp)
      rw [h] at this
      simp at this
theorem Pn {vs:List V} (h:o8 vs = false):V.refss vs = []:=by
  unfold o8 at h
  split at h
  · assumption
  · cases h
mutual
theorem scalar_rep {ok:Nat→Prop} {w w':World} {E':br}:∀ (d:V) {v:Value},d.scalar = true→aK (m6 ok) w v d→aK E' w' v d
  | .c d,v,hs,h=>by
    cases h with
    | c _ _ h =>
      cases h with
      | unk=>exact .unk _
      | nil=>exact .c _ _ .nil
      | lit=>exact .lit _
      | opt=>simp [V.scalar] at hs
      | any v h1=>exact .c _ _ (.any v h1)
      | sl=>simp [V.scalar] at hs
  | .agg ds,v,hs,h=>by
    cases h with
    | agg vs _ hl h=>exact .agg _ _ hl fun i v d hv hd=>scalars_rep ds (by simpa [V.scalar] using hs) i d v hd (h i v d hv hd)
  | .tup ds,v,hs,h=>by
    cases h with
    | tup vs _ hl h=>exact .tup _ _ hl fun i v d hv hd=>scalars_rep ds (by simpa [V.scalar] using hs) i d v hd (h i v d hv hd)
  | .ptr ..,v,hs,h=>by simp [V.scalar] at hs
  | .row ..,v,hs,h=>by simp [V.scalar] at hs
  | .dptr ..,v,hs,h=>by simp [V.scalar] at hs
  | .fn ..,v,hs,h=>by simp [V.scalar] at hs
theorem scalars_rep {ok:Nat→Prop} {w w':World} {E':br}:∀ (ds:List V),V.scalars ds = true→∀ (i:Nat) (d:V) (v:Value),ds[i]? = some d→aK (m6 ok) w v d→aK E' w' v d
  | [],hs,i,d,v,hd,h=>by simp at hd
  | x :: r,hs,0,d,v,hd,h=>by
    simp only [V.scalars,Bool.and_eq_true] at hs
    simp at hd; subst hd
    exact scalar_rep x hs.1 h
  | x :: r,hs,i+1,d,v,hd,h=>by
    simp only [V.scalars,Bool.and_eq_true] at hs
    exact scalars_rep r hs.2 i d v (by simpa using hd) h
end
theorem Af {ok:Nat→Prop} {E':br} (hok:∀ b,ok b→E'.ok b) {v:Value} {d:V} (h:aK (m6 ok) w v d):aK E' w v d :=
  h.mono (E:=m6 ok) (kl:=[]) hok (fun _ _=>rfl) (fun o (ho:False)=>ho.elim) (fun o (ho:False)=>ho.elim) (MR d)
theorem Va (hH:bG E w H) (hf:¬ E.live nid) {C:FuncId→Option CC} (hC:∀ f con,C f = some con→bR P f con) {f:FuncId} {args:List V} {xs:List Value} (hx:cq E w xs args)
    (h:N1 C H nid f args = some r) (hp:∀ p∈r.pre,p) :
    wx P f xs.toArray w fun v w'=>∃ E',gn E w H nid r E' w' v:=by
  unfold N1 at h
  split at h
  · cases h
  · next m hm=>exact hC f (.mut m) hm E w H nid xs args r hH hf hx h hp
  · next con hcon =>
    have hmeet:bc P f con:=hC f (.pure con) hcon
    have view:∀ ok':Nat→Prop,(∀ b,E.ok b→ok' b)→((∀ q b,E.live q→E.conc q = some b→ok' b)∨o8 args = false)→cq (m6 ok') w xs (V.views H args):=by
      intro ok' h1 h2
      refine ⟨by rw [jI]; exact hx.1,fun i v d hv hd=>?_⟩
      rw [ol] at hd
      cases hy:args[i]? with
      | none=>rw [hy] at hd; cases hd
      | some y =>
        rw [hy] at hd; cases hd
        exact yy hH h1 (hx.2 i v y hv hy) (h2.imp id fun h=>yy.refs_nil (Pn h) hy)
    have dat:∀ (w':World),Below w.heap.size w w'→gz E w [] (E.next nid none 0 0 fun b=>E.ok b∨(w.heap.size≤b∧b < w'.heap.size)) w'∧bG (E.next nid none 0 0 fun b=>E.ok b∨(w.heap.size≤b∧b < w'.heap.size)) w' H:=by
      intro w' hb
      refine ⟨gL hf none 0 0 _ hb (by simp) (fun _ h=>.inl h) (fun b h=>h.imp id (·.1)),iJ hf hH hb (by simp) (fun _ h=>.inl h) (fun b h=>h.imp id (·.1)) fun b h=>?_⟩
      rcases h with h | h
      · have:=hH.oklt b h; have:=hb.size; omega
      · exact h.2
    have full:∀ q b,E.live q→E.conc q = some b→(fun b=>E.ok b∨∃ q,E.live q∧E.conc q = some b) b:=fun q b hq hb=>.inr ⟨q,hq,hb⟩
    have fulllt:∀ b,(fun b=>E.ok b∨∃ q,E.live q∧E.conc q = some b) b→b < w.heap.size:=by
      rintro b (h | ⟨q,h1,h2⟩)
      · exact hH.oklt b h
      · exact hH.lt q b h1 h2
    split at h
    · cases h
    · next p v hcv =>
      cases hs:((!o8 args)||v.scalar) with
      | false=>simp [hs] at h
      | true =>
        simp only [hs,cond_true,Option.some.injEq] at h
        subst h
        have hpp:∀ q∈p,q:=hp
        cases ha:o8 args with
        | false =>
          refine (hmeet E.ok w xs _ p _ (view E.ok (fun _ h=>h) (.inr ha)) hH.oklt hcv hpp).mono ?_
          rintro u w' ⟨hb,hout⟩
          obtain ⟨hS,hN⟩:=dat w' hb
          exact ⟨_,hS,hN,Af (fun _ h=>h) hout,eM⟩
        | true =>
          have hsc:v.scalar = true:=by simpa [ha] using hs
          refine (hmeet _ w xs _ p _ (view _ (fun _ h=>.inl h) (.inl full)) fulllt hcv hpp).mono ?_
          rintro u w' ⟨hb,hout⟩
          obtain ⟨hS,hN⟩:=dat w' hb
          exact ⟨_,hS,hN,scalar_rep v hsc hout,eM⟩
    · next p v hcv =>
      cases h
      have hpp:∀ q∈p,q:=hp
      refine (hmeet _ w xs _ p _ (view _ (fun _ h=>.inl h) (.inl full)) fulllt hcv hpp).mono ?_
      rintro u w' ⟨hb,hout⟩
      obtain ⟨hS,hN⟩:=dat w' hb
      exact ⟨_,hS,hN,Af (E':=E.next nid none 0 0 fun b=>E.ok b∨(w.heap.size≤b∧b < w'.heap.size)) (fun _ h=>Or.inr h) hout,eM⟩
    · next p fr t k n el hcv =>
      cases hs:((!o8 args)||fr) with
      | false=>simp [hs] at h
      | true =>
        simp only [hs,cond_true,Option.some.injEq] at h
        subst h
        have hpp:∀ q∈p,q:=hp
        have fin:∀ (ok:Nat→Prop) (w':World) (u:Value),(fr = false→∀ b,ok b→E.ok b)→Below w.heap.size w w'→N9 ok w w' u (.own fr t k n el) →
            ∃ E',gn E w H nid { pre:=p,val:=.row nid k 0 n,eff:=[(nid,some (.row t k n el))] } E' w' u:=by
          rintro ok w' u hfr hb ⟨ys,hown,h6,h7,h8⟩
          have hlt:=hown.lt
          have hown0:w'.ownsRow 0 t k u n ys:=⟨hown.1,hown.2.imp id fun ⟨g,cap,cur,a,_,c⟩=>⟨g,cap,cur,a,Nat.zero_le _,c⟩⟩
          let ok':Nat→Prop:=fun b=>E.ok b∨(w.heap.size≤b∧b < w'.heap.size∧u.ownBlock≠some b)
          have h1:∀ b,u.ownBlock = some b→w.heap.size≤b∧b < w'.heap.size∧¬ ok' b:=by
            intro b hb'
            obtain ⟨a1,a2⟩:=hlt b hb'
            refine ⟨a1,a2, ?_⟩
            rintro (h | ⟨_,_,h⟩)
            · have:=hH.oklt b h; omega
            · exact h hb'
          have h2:∀ b,ok' b→E.ok b∨w.heap.size≤b:=fun b h=>h.imp id (·.1)
          have h3:∀ b,ok' b→b < w'.heap.size:=by
            rintro b (h | h)
            · have:=hH.oklt b h; have:=hb.size; omega
            · exact h.2.1
          have hS:gz E w [] (E.next nid u.ownBlock (u5 u) n ok') w':=gL hf _ _ _ ok' hb (fun b h=>(h1 b h).1) (fun _ h=>.inl h) h2
          have hN:=iJ (cap:=u5 u) (len:=n) hf hH hb h1 (fun _ h=>.inl h) h2 h3
          have hob:=DZ (E':=E.next nid u.ownBlock (u5 u) n ok') (q:=nid) (el:=el) hown0 (by simp [br.next]) (by simp [br.next]) (by intro a m c e; simp [br.next,e,u5]) h6 h7
            (fun i j d x hi hd hx=>(h8 i j d x hi hd hx).mono (fun b hb'=>by
              rcases hb' with ⟨h,h'⟩ | h
              · exact .inl (hfr h b h')
              · exact .inr h) fun _ _=>rfl)
          exact ⟨_,hS,vw hN (.inl rfl) hob.1,hob.2 (.inl rfl),eM⟩
        cases ha:o8 args with
        | false =>
          refine (hmeet E.ok w xs _ p _ (view E.ok (fun _ h=>h) (.inr ha)) hH.oklt hcv hpp).mono ?_
          rintro u w' ⟨hb,hout⟩
          obtain ⟨E',hP⟩:=fin _ w' u (fun _ _ h=>h) hb hout
          exact ⟨E',hP⟩
        | true =>
          have hfr:fr = true:=by simpa [ha] using hs
          refine (hmeet _ w xs _ p _ (view _ (fun _ h=>.inl h) (.inl full)) fulllt hcv hpp).mono ?_
          rintro u w' ⟨hb,hout⟩
          obtain ⟨E',hP⟩:=fin _ w' u (fun h=>by rw [hfr] at h; cases h) hb hout
          exact ⟨E',hP⟩
theorem cq.cons_inv {x:Value} {xs:List Value} {ds:List V} (h:cq E w (x :: xs) ds):∃ d ds',ds = d :: ds'∧aK E w x d∧cq E w xs ds':=by
  match ds with
  | []=>have:=h.1; simp at this
  | d :: ds'=>exact ⟨d,ds',rfl,h.2 0 _ _ rfl rfl,by have:=h.1; simpa using this,fun i v d a b=>h.2 (i+1) v d a b⟩
theorem cq.nil_inv {ds:List V} (h:cq E w [] ds):ds = []:=List.eq_nil_of_length_eq_zero h.1.symm
def br.fz (E:br) (o:Nat):br where
  conc q:=if q = o then none else E.conc q
  cap:=E.cap
  len q:=if q = o then 0 else E.len q
  live:=E.live
  ok b:=E.ok b∨E.conc o = some b
theorem mf (o:Nat) (el:Nat→List D) (kk:Nat):∀ vs:List V,(V.fzs o el kk vs).length = vs.length
  | []=>rfl
  | _ :: r=>by simp [V.fzs,mf o el kk r]
theorem tN (o:Nat) (el:Nat→List D) (kk:Nat):∀ (vs:List V) (i:Nat),(V.fzs o el kk vs)[i]? = (vs[i]?).map (V.fz o el kk)
  | [],i=>by simp [V.fzs]
  | v :: r,0=>by simp [V.fzs]
  | v :: r,i+1=>by simp [V.fzs,tN o el kk r i]
theorem Hx {q o:Nat} (h:q≠o):(E.fz o).conc q = E.conc q∧(E.fz o).cap q = E.cap q∧(E.fz o).len q = E.len q:=by simp [br.fz,h]
theorem rg {q o b:Nat} (h:(E.fz o).conc q = some b):q≠o∧E.conc q = some b:=by
  by_cases e:q = o
  · simp [br.fz,e] at h
  · exact ⟨e,by rwa [(Hx e).1] at h⟩
theorem Mn {o:Nat} (ho:E.live o):gz E w [o] (E.fz o) w :=
  ⟨rfl,rfl,rfl,Nat.le_refl _,fun _ h=>h,fun _ _ _=>rfl,fun _ h=>.inl h,fun b h=>h.elim .inl fun h=>.inr (.inr ⟨o,ho,h⟩),fun q _ hq=>Hx (by simpa using hq),fun q b hq h=>.inl ⟨q,hq,(rg h).2⟩⟩
theorem Ml {o:Nat} (hH:bG E w H) {e:TypeId} {k n:Nat} {el:Nat→List D} (hg:H.get o = some (.row e k n el)):bG (E.fz o) w ((o,some (.row e k 0 el)) :: gX [o] H):=by
  have ho:=(hH.at_ o _ hg).1
  have hrv:∀ v d,aK E w v d→aK (E.fz o) w v (d.kill o):=fun v d h=>aK.step (Mn ho) hH.sep hH.oklt h
  have hrd:∀ v d,cx E.ok w v d→cx (E.fz o).ok w v d:=fun v d h=>h.mono (fun _ h=>.inl h) fun _ _=>rfl
  refine ⟨fun q ob hq=>?_,fun q q' b hq hq' h h'=>hH.inj q q' b hq hq' (rg h).2 (rg h').2,fun q b hq h=>?_,fun q b hq h=>hH.lt q b hq (rg h).2,fun b h=>h.elim (hH.oklt b) (hH.lt o b ho)⟩
  · rw [am.get_cons] at hq
    split at hq
    · next e1 =>
      subst e1; cases hq
      exact ⟨ho,by simp [br.fz], .inl ⟨by simp [br.fz],rfl⟩⟩
    · next hne =>
      rw [iv] at hq
      obtain ⟨y,hy,hky⟩:=As hq
      obtain ⟨h1,h2⟩:=hH.at_ q y hy
      refine ⟨h1, ?_⟩
      obtain ⟨c1,c2,c3⟩:=Hx (E:=E) (fun e=>hne e.symm:q≠o)
      cases y with
      | box cs =>
        cases hky
        obtain ⟨hl,b,C,te,g1,g2,g3⟩:=h2
        refine ⟨c3.trans hl,b,C,te,c1.trans g1,g2,by rw [lv]; exact g3.1,fun i v d hv hd=>?_⟩
        rw [qX] at hd
        cases hx':cs[i]? with
        | none=>rw [hx'] at hd; cases hd
        | some y=>rw [hx'] at hd; cases hd; exact hrv _ _ (g3.2 i v y hv hx')
      | raw x =>
        cases hky
        obtain ⟨hl,b,g1,g2⟩:=h2
        exact ⟨c3.trans hl,b,c1.trans g1,g2⟩
      | row te kk nn ell =>
        cases hky
        obtain ⟨hl,hh⟩:=h2
        refine ⟨c3.trans hl, ?_⟩
        rcases hh with ⟨g1,g2⟩ | ⟨b,C,g1,g2,g3,g4,g5,g6,g7,g8⟩
        · exact .inl ⟨c1.trans g1,g2⟩
        · exact .inr ⟨b,C,c1.trans g1,g2,by rw [c2]; exact g3,by rw [c2]; exact g4,by rw [c2]; exact g5,g6,g7,fun i j d u a b c=>hrd _ _ (g8 i j d u a b c)⟩
  · obtain ⟨h1,h2⟩:=rg h
    rintro (h3 | h3)
    · exact hH.sep q b hq h2 h3
    · exact h1 (hH.inj q o b hq ho h2 h3)
theorem Jx {o:Nat} (hH:bG E w H) {e:TypeId} {k n:Nat} {el:Nat→List D} (hg:H.get o = some (.row e k n el)) {v:Value} {d:V} (h:aK E w v d):aK (E.fz o) w v (d.fz o el k):=by
  induction h with
  | c v d h=>exact .c v d (h.mono (fun _ h=>.inl h) fun _ _=>rfl)
  | agg vs ds hl h ih =>
    rw [V.fz]
    refine .agg _ _ (by rw [mf,hl]) fun i v d hv hd=>?_
    rw [tN] at hd
    cases hx:ds[i]? with
    | none=>rw [hx] at hd; cases hd
    | some x=>rw [hx] at hd; cases hd; exact ih i v x hv hx
  | tup vs ds hl h ih =>
    rw [V.fz]
    refine .tup _ _ (by rw [mf,hl]) fun i v d hv hd=>?_
    rw [tN] at hd
    cases hx:ds[i]? with
    | none=>rw [hx] at hd; cases hd
    | some x=>rw [hx] at hd; cases hd; exact ih i v x hv hx
  | ptr o' k i j b hn hb hi =>
    rw [V.fz]
    cases hq:Nat.beq o' o
    · have hne:o'≠o:=fun e=>by subst e; simp at hq
      obtain ⟨c1,c2,c3⟩:=Hx (E:=E) hne
      exact .ptr o' k i j b hn (c1.trans hb) (by rw [c3]; exact hi)
    · exact .c _ _ (.unk _)
  | row o' k' off n' a c hn hc hm hl ha h0 =>
    rw [V.fz]
    cases hq:Nat.beq o' o
    · have hne:o'≠o:=fun e=>by subst e; simp at hq
      obtain ⟨c1,c2,c3⟩:=Hx (E:=E) hne
      exact .row o' k' off n' a c hn hc hm (by rw [c3]; exact hl) (by rw [c1]; exact ha) (by rw [c1,c2]; exact h0)
    · have:=Nat.eq_of_beq_eq_true hq
      subst this
      rw [cond_true]
      cases hk:Nat.beq k k' with
      | false=>exact .c _ _ (.unk _)
      | true =>
        have:=Nat.eq_of_beq_eq_true hk
        subst this
        rw [cond_true]
        have hr:=aK.row o' k off n' a c hn hc hm hl ha h0 (w:=w)
        obtain ⟨news,hsrc⟩:=Gl hH hr (show jX H (.row o' k off n') = some (k,n',fun i=>el (off+i)) by simp [jX,hg])
        have hsrc':Zi { E with live:=fun q=>q = o' } w (.slice a n' c) k n' (fun i=>el (off+i)) news :=
          ⟨hsrc.form,fun ad n2 c2 he hn2=>by
            cases he
            obtain ⟨b,hb,hab⟩:=ha hn2
            cases hab
            exact .inr ⟨o',rfl,hb⟩,hsrc.len,hsrc.one,hsrc.els,hsrc.rep⟩
        exact .c _ _ (LW (E:={ E with live:=fun q=>q = o' }) (ok':=(E.fz o').ok) (fun _ h=>.inl h) (fun q b hq hb=>by
          have e1:q = o':=hq
          subst e1; exact .inr hb) hsrc')
  | dptr k' cs j ad u hok hcell hl hu=>exact .dptr k' cs j ad u (.inl hok) hcell hl fun i d hd=>(hu i d hd).mono (fun _ h=>.inl h) fun _ _=>rfl
  | fn f vs ds hl h ih =>
    rw [V.fz]
    refine .fn _ _ _ (by rw [mf,hl]) fun i v d hv hd=>?_
    rw [tN] at hd
    cases hx:ds[i]? with
    | none=>rw [hx] at hd; cases hd
    | some x=>rw [hx] at hd; cases hd; exact ih i v x hv hx
theorem gz.trans1 {E1 E2:br} {o:Nat} {kl:List Nat} {w1:World} (h:gz E w [o] E1 w) (h':gz E1 w kl E2 w1) (hl:∀ q,E1.live q→E.live q) (hc:∀ q b,E1.conc q = some b→E.conc q = some b):gz E w (o :: kl) E2 w1 :=
  ⟨h'.os,h'.tape,h'.output,h'.size,fun q hq=>h'.live q (h.live q hq),fun b hb hn=>h'.blk b hb fun q hq hcq=>hn q (hl q hq) (hc q b hcq),fun b hb=>h'.ok b (h.ok b hb),fun b hb=>by
    rcases h'.okold b hb with g | g | ⟨q,g1,g2⟩
    · exact h.okold b g
    · exact .inr (.inl g)
    · exact .inr (.inr ⟨q,hl q g1,hc q b g2⟩),fun q hq hn=>by
    have a1:=h.conc q hq (by simp at hn; simp [hn.1])
    have a2:=h'.conc q (h.live q hq) (by simp at hn; exact hn.2)
    exact ⟨a2.1.trans a1.1,a2.2.1.trans a1.2.1,a2.2.2.trans a1.2.2⟩,fun q b hq hb=>by
    rcases h'.concnew q b hq hb with ⟨q',g1,g2⟩ | g
    · exact .inl ⟨q',hl q' g1,hc q' b g2⟩
    · exact .inr g⟩
theorem CW (kl:List Nat) (o:Nat) (e k n:Nat) (el:Nat→List D):∀ H:am,gX kl ((o,some (.row e k n el)) :: H) = (o,some (.row e k n el)) :: gX kl H:=by
  induction kl with
  | nil=>intro H; rfl
  | cons x r ih=>intro H; rw [gX,List.map_cons,gX]; exact ih _
theorem H4 {o:Oper} {nid:Nat} {t:TypeId} {len:Nat} {parts:Array (Nat × Operand)} {ρ:Operand→Value} (ho:o.op = .buildSlice t len parts):∀ (fl:List Nat) (E:br) (H:am) (vs:List V) (r:cM),bG E w H→¬ E.live nid→cq E w (parts.toList.map fun p=>ρ p.2) vs →
    sL P nid t len (parts.toList.map (·.1)) fl H vs = some r→∃ E' w' v',(execOp ρ o).run P w = .ok (.value v') w'∧gn E w H nid r E' w' v'
  | [],E,H,vs,r,hH,hf,hv,h=>KF hH hf ho hv h
  | q :: fl,E,H,vs,r,hH,hf,hv,h=>by
    rw [sL] at h
    split at h
    · next e k n el hg =>
      have hq:=(hH.at_ q _ hg).1
      cases hb:sL P nid t len (parts.toList.map (·.1)) fl ((q,some (.row e k 0 el)) :: gX [q] H) (V.fzs q el k vs) with
      | none=>rw [hb] at h; cases h
      | some r0 =>
        rw [hb] at h; cases h
        obtain ⟨E',w',v',h1,h2⟩:=H4 ho fl (E.fz q) _ _ r0 (Ml hH hg) hf ⟨by rw [mf]; exact hv.1,fun i v d hi hd=>by
          rw [tN] at hd
          cases hx:vs[i]? with
          | none=>rw [hx] at hd; cases hd
          | some x=>rw [hx] at hd; cases hd; exact Jx hH hg (hv.2 i v x hi hx)⟩ hb
        refine ⟨E',w',v',h1,(Mn hq).trans1 h2.st (fun _ h=>h) (fun _ _ h=>(rg h).2), ?_,h2.val,h2.live⟩
        have:=h2.heap
        rw [CW] at this
        rw [List.append_assoc]
        exact this
    · cases h
theorem Xh (hH:bG E w H) (hf:¬ E.live nid) {C:FuncId→Option CC} (hC:∀ f con,C f = some con→bR P f con) {a:Act} {vs:List V} (hv:cq E w ((jf o.op).map a.eval) vs)
    (h:Ju P C H nid o vs = some r) (hp:∀ p∈r.pre,p) {K:Act→World→Prop} {Q:Exit→Act→World→Prop} (hK:∀ E' w' v',gn E w H nid r E' w' v'→K (a.put o.dst v') w'):o.wp P a w K Q:=by
  have fin:(∃ E' w' v',(execOp a.eval o).run P w = .ok (.value v') w'∧gn E w H nid r E' w' v')→o.wp P a w K Q:=by
    rintro ⟨E',w',v',h1,h2⟩
    unfold Oper.wp
    rw [h1]
    exact hK E' w' v' h2
  have finq:m8 P a.eval o E w r→o.wp P a w K Q:=fun hq=>by
    obtain ⟨v',h1,h2⟩:=S8 hH hf hq
    exact fin ⟨_,w,v',h1,h2⟩
  unfold Ju at h
  split at h
  · next x d ho =>
    rw [ho] at hv
    cases h
    exact finq ⟨rfl,rfl,SH ho (hv.2 0 _ _ rfl rfl)⟩
  · next x d ho =>
    rw [ho] at hv
    cases h
    exact finq ⟨rfl,rfl,O9 ho (hv.2 0 _ _ rfl rfl)⟩
  · next t ho =>
    split at h
    · next z hz=>exact fin (TS hH hf ho hz h)
    · cases h
  · next t x d ho =>
    rw [ho] at hv
    exact fin (YL hH hf ho (hv.2 0 _ _ rfl rfl) h)
  · next t parts vs ho =>
    rw [ho] at hv
    exact finq (QJ ho (by simpa [jf,Op.operands,List.map_map,Function.comp_def] using hv) h)
  · next t len parts vs ho =>
    rw [ho] at hv
    exact fin (H4 ho _ E H _ r hH hf (by simpa [jf,Op.operands,List.map_map,Function.comp_def] using hv) h)
  · next t x d ho =>
    rw [ho] at hv
    exact finq (QX hH ho (hv.2 0 _ _ rfl rfl) h hp)
  · next t x y d e ho =>
    rw [ho] at hv
    obtain ⟨E',w',h1,h2⟩:=Qw hH hf ho (hv.2 0 _ _ rfl rfl) (hv.2 1 _ _ rfl rfl) h hp
    unfold Oper.wp
    rw [h1]
    exact hK E' w' undef h2
  · next x d ho =>
    rw [ho] at hv
    exact finq (Le ho (hv.2 0 _ _ rfl rfl) h)
  · next op t x y ty d e ho =>
    rw [ho] at hv
    exact finq (VV ho (hv.2 0 _ _ rfl rfl) (hv.2 1 _ _ rfl rfl) h hp)
  · next op t x d ho =>
    rw [ho] at hv
    exact finq (XR ho (hv.2 0 _ _ rfl rfl) h)
  · next s t x d ho =>
    rw [ho] at hv
    split at h
    · next e hs hd =>
      split at h
      · next he=>exact finq (Qx hH hs hd he ho (hv.2 0 _ _ rfl rfl) h hp)
      · cases h
    · exact finq (Tp ho (hv.2 0 _ _ rfl rfl) h)
  · next t x f d ho =>
    rw [ho] at hv
    exact finq (Km ho (hv.2 0 _ _ rfl rfl) h)
  · next t x f d ho =>
    rw [ho] at hv
    exact finq (QH ho (hv.2 0 _ _ rfl rfl) h)
  · next t x y d e ho =>
    rw [ho] at hv
    exact finq (KR hH ho (hv.2 0 _ _ rfl rfl) (hv.2 1 _ _ rfl rfl) h hp)
  · next t x y d e ho =>
    rw [ho] at hv
    exact finq (QA ho (hv.2 0 _ _ rfl rfl) (hv.2 1 _ _ rfl rfl) h hp)
  · next t x d ho =>
    rw [ho] at hv
    exact finq (vg (dlo:=none) (dhi:=none) ho (hv.2 0 _ _ rfl rfl) (by simp) (by simp) (by simp) (by simp) h hp)
  · next t x l d e ho =>
    rw [ho] at hv
    exact finq (vg (dlo:=some e) (dhi:=none) ho (hv.2 0 _ _ rfl rfl) (fun y hy=>by cases hy; exact ⟨_,rfl,hv.2 1 _ _ rfl rfl⟩) (by simp) (by simp) (by simp) h hp)
  · next t x l d e ho =>
    rw [ho] at hv
    exact finq (vg (dlo:=none) (dhi:=some e) ho (hv.2 0 _ _ rfl rfl) (by simp) (by simp) (fun y hy=>by cases hy; exact ⟨_,rfl,hv.2 1 _ _ rfl rfl⟩) (by simp) h hp)
  · next t x l hh d e g ho =>
    rw [ho] at hv
    exact finq (vg (dlo:=some e) (dhi:=some g) ho (hv.2 0 _ _ rfl rfl) (fun y hy=>by cases hy; exact ⟨_,rfl,hv.2 1 _ _ rfl rfl⟩) (by simp) (fun y hy=>by cases hy; exact ⟨_,rfl,hv.2 2 _ _ rfl rfl⟩) (by simp) h hp)
  · next t l c d e ho =>
    rw [ho] at hv
    exact fin (Me hH hf ho (hv.2 0 _ _ rfl rfl) (hv.2 1 _ _ rfl rfl) h hp)
  · next vs f first caps ho =>
    rw [ho] at hv
    cases hf:(first.isEmpty&&Nat.blt f 1000000000) with
    | false=>rw [hf] at h; cases h
    | true =>
      rw [hf] at h
      simp only [cond_true,Option.some.injEq] at h
      subst h
      rw [Bool.and_eq_true] at hf
      have h0:first = #[]:=by simpa using hf.1
      subst h0
      exact finq ⟨rfl,rfl,Mc ho rfl hf.2 (by simpa [jf,Op.operands] using hv)⟩
  · next t x d ho =>
    rw [ho] at hv
    split at h
    · next e hu =>
      cases hc:V.isCell d with
      | false=>rw [hc] at h; cases h
      | true =>
        rw [hc] at h
        simp only [cond_true,Option.some.injEq] at h
        subst h
        exact finq ⟨rfl,rfl,Fw ho hu (hv.2 0 _ _ rfl rfl)⟩
    · cases h
  · next x ix d ho =>
    rw [ho] at hv
    exact finq (Nx ho (hv.2 0 _ _ rfl rfl) h hp)
  · next t x d ho =>
    rw [ho] at hv
    exact fin (TT hH hf ho (hv.2 0 _ _ rfl rfl) h)
  · next x d ho =>
    rw [ho] at hv
    exact fin (Ur hH hf ho (hv.2 0 _ _ rfl rfl) h)
  · next args argTypes d ho =>
    rw [ho] at hv
    obtain ⟨x,hx⟩:∃ x,args.toList = [x]:=by
      have h2:args.toList.length = 1:=by have:=hv.1; simpa [jf] using this
      match hl:args.toList,h2 with
      | [p],_=>exact ⟨p,rfl⟩
    have hargs:args = #[x]:=by rw [← Array.toArray_toList (xs:=args),hx]
    subst hargs
    split at h
    · next t ht =>
      cases hu:P.underlying t with
      | none=>simp [Sq,hu] at h
      | some dd=>exact finq (Wb ho rfl rfl ht hu (hv.2 0 _ _ rfl rfl) h)
    · cases h
  · next args argTypes d ho =>
    rw [ho] at hv
    obtain ⟨x,hx⟩:∃ x,args.toList = [x]:=by
      have h2:args.toList.length = 1:=by have:=hv.1; simpa [jf] using this
      match hl:args.toList,h2 with
      | [p],_=>exact ⟨p,rfl⟩
    have hargs:args = #[x]:=by rw [← Array.toArray_toList (xs:=args),hx]
    subst hargs
    split at h
    · next t ht=>exact fin (Ss hH hf ho rfl rfl ht (hv.2 0 _ _ rfl rfl) h)
    · cases h
  · next vs _ _ args argTypes ho =>
    rw [ho] at hv
    cases hm:Ue vs with
    | none=>simp [hm] at h
    | some m =>
      simp only [hm,Option.map_some,Option.some.injEq] at h
      subst h
      exact finq ⟨rfl,rfl,WJ ho rfl (by simpa [jf] using hv) hm⟩
  · next vs _ _ args argTypes ho =>
    rw [ho] at hv
    cases hm:Uc vs with
    | none=>simp [hm] at h
    | some m =>
      simp only [hm,Option.map_some,Option.some.injEq] at h
      subst h
      exact finq ⟨rfl,rfl,UY ho rfl (by simpa [jf] using hv) hm⟩
  · next args argTypes s x ho =>
    rw [ho] at hv
    obtain ⟨s',x',hsx⟩:∃ s' x',args.toList = [s',x']:=by
      have h2:args.toList.length = 2:=by have:=hv.1; simpa [jf] using this
      match hl:args.toList,h2 with
      | [p,q],_=>exact ⟨p,q,rfl⟩
    have hargs:args = #[s',x']:=by rw [← Array.toArray_toList (xs:=args),hsx]
    subst hargs
    split at h
    · next t t' ht =>
      cases hb:Nat.beq t t' with
      | false=>simp [hb] at h
      | true =>
        have htt:t = t':=Nat.eq_of_beq_eq_true hb
        subst htt
        simp only [hb,cond_true] at h
        have hat:argTypes = #[t,t]:=by rw [← Array.toArray_toList (xs:=argTypes),ht]
        exact fin (QB hH hf ho rfl rfl hat (hv.2 0 _ _ rfl rfl) (hv.2 1 _ _ rfl rfl) h hp)
    · cases h
  · next f args argTypes g caps ds ho =>
    rw [ho] at hv
    obtain ⟨_,_,e,hf,ha⟩:=cq.cons_inv hv
    cases e
    generalize hfv:a.eval f = fv at hf
    cases hglt:Nat.blt g 1000000000 with
    | false=>rw [hglt] at h; cases h
    | true =>
    rw [hglt] at h
    simp only [cond_true] at h
    cases hf with
    | fn _ cs _ hcl hch =>
      rw [yA hglt] at hfv
      have hall:cq E w (args.toList.map a.eval++cs) (ds++caps):=by
        refine ⟨by rw [List.length_append,List.length_append,ha.1,hcl],fun i v d hv' hd'=>?_⟩
        rw [List.getElem?_append] at hv' hd'
        rw [← ha.1] at hd'
        split at hv'
        · next hlt=>rw [if_pos hlt] at hd'; exact ha.2 i v d hv' hd'
        · next hge=>rw [if_neg hge] at hd'; exact hch _ v d hv' hd'
      have hcalls:=Va hH hf hC hall h hp
      have hargs:args.map a.eval++cs.toArray = (args.toList.map a.eval++cs).toArray:=by
        rw [← Array.toArray_toList (xs:=args.map a.eval++cs.toArray)]
        simp
      have hrun:(execOp a.eval o).run P w = (callFunc g (args.toList.map a.eval++cs).toArray).run P w:=by
        simp only [execOp,ho,resolve,hfv,Deferred.ofValue,invoke,Sem.run_bind,Sem.run_pure,Result.andThen_ok,Array.empty_append,hargs]
      unfold Oper.wp
      rw [hrun]
      rcases hcalls with ⟨h1,h2⟩ | ⟨v,w',h1,E',hP⟩
      · rw [h1]
        refine Calls.mono h2 ?_
        rintro e w' ⟨v,rfl,E',hP⟩
        exact hK E' w' v hP
      · rw [h1]
        exact hK E' w' v hP
  · cases h
end
end Go.Ax
namespace Go.Ax
open Go.RowKit
def pY (tm:List (Nat × bz)) (E:br) (w:World) (v:Value) (s:bz):Prop :=
  (holds tm s.ch = true→aK E w v s.v)∧(s.ch.all (fun x=>fk tm x.1) = true→holds tm s.ch = false→v = undef)
structure j5 where
  W:World
  ok:Nat→Prop
  mb:Nat→Prop
  gh:Nat→Value:=fun _=>undef
def kT (B:j5) (a:Act) (t:Nat):Value:=if t < 1000000 then a.tmps.getD t undef else B.gh t
theorem Ad {B:j5} {a:Act} {t:Nat} (h:t < 1000000):kT B a t = a.tmps.getD t undef:=if_pos h
structure Br (M:Nat→Prop) (n:Nat) (w w':World):Prop where
  os:w'.os = w.os
  tape:w'.tape = w.tape
  output:w'.output = w.output
  size:w.heap.size≤w'.heap.size
  block:∀ k,k < n→¬ M k→w'.heap[k]? = w.heap[k]?
theorem Br.refl (M:Nat→Prop) (n:Nat) (w:World):Br M n w w:=⟨rfl,rfl,rfl,Nat.le_refl _,fun _ _ _=>rfl⟩
theorem Br.below {n:Nat} {w w':World} (h:Br (fun _=>False) n w w'):Below n w w':=⟨h.os,h.tape,h.output,h.size,fun k hk=>h.block k hk (fun h=>h)⟩
structure dQ (N:Nat) (B:j5) (σ:St) (E:br) (a:Act) (w:World):Prop where
  size:a.tmps.size = N
  small:N≤1000000
  defers:a.defers = []
  live:∀ q,σ.nx≤q→¬ E.live q
  heap:bG E w σ.hp
  slots:∀ t s,bv σ.tm t = some s→pY σ.tm E w (kT B a t) s
  base:Br B.mb B.W.heap.size B.W w
  own:∀ o b,E.live o→E.conc o = some b→B.W.heap.size≤b∨B.mb b
  okold:∀ b,E.ok b→B.ok b∨B.W.heap.size≤b∨B.mb b
section
variable {P:Program} {N:Nat} {B:j5} {σ:St} {E:br} {a:Act} {w:World}
theorem sQ {a b:Nat} (h:a≠b):Nat.beq a b = false:=by
  cases hb:Nat.beq a b
  · rfl
  · exact (h (Nat.eq_of_beq_eq_true hb)).elim
theorem dw (t':Nat) (s:bz) (r:List (Nat × bz)) (t:Nat):bv ((t',s) :: r) t = if t' = t then some s else bv r t:=by
  rw [bv]
  by_cases h:t' = t
  · subst h; simp
  · rw [sQ h]; simp [h]
theorem ou:∀ (tm:List (Nat × bz)) (t:Nat) (s:bz) (t':Nat),bv (mi tm t s) t' = if t = t' then some s else bv tm t'
  | [],t,s,t'=>by rw [mi,dw]
  | (q,x) :: r,t,s,t'=>by
    rw [mi]
    by_cases h:q = t
    · subst h
      rw [show Nat.beq q q = true by simp,cond_true,dw,dw]
      split <;> rfl
    · rw [sQ h,cond_false]
      cases Nat.blt t q
      · rw [cond_false,dw,ou r,dw]
        by_cases h1:q = t'
        · rw [if_pos h1,if_pos h1,if_neg (by omega)]
        · rw [if_neg h1,if_neg h1]
      · rw [cond_true,dw]
theorem DN (f:bz→bz):∀ (tm:List (Nat × bz)) (t:Nat),bv (tm.map fun x=>(x.1,f x.2)) t = (bv tm t).map f
  | [],t=>rfl
  | (q,x) :: r,t=>by
    rw [List.map_cons,dw,dw,DN f r]
    split <;> rfl
theorem oP:∀ (kl:List Nat) (tm:List (Nat × bz)) (t:Nat),bv (xt kl tm) t = (bv tm t).map fun s=>{ ch:=s.ch,v:=s.v.killAll kl }
  | [],tm,t=>by simp [xt,V.killAll]
  | o :: r,tm,t=>by
    rw [xt,oP r,DN (fun s=>{ ch:=s.ch,v:=s.v.kill o })]
    cases bv tm t <;> simp [V.killAll]
def cQ:Option bz→Option Bool
  | some { v:=.c (.lit (.bool b)), .. }=>some b
  | _=>none
theorem pW {s:Option bz} {b:Bool} (h:cQ s = some b):∃ ch,s = some { ch,v:=.c (.lit (.bool b)) }:=by
  unfold cQ at h
  split at h
  · next ch b'=>cases h; exact ⟨ch,rfl⟩
  · cases h
theorem jk (tm:List (Nat × bz)) (t:Nat) (w:Bool) (r:cJ):holds tm ((t,w) :: r) = ((match cQ (bv tm t) with | some b=>(b == w) | none=>false)&&holds tm r):=by
  rw [holds]
  congr 1
  cases hb:cQ (bv tm t) with
  | some b =>
    obtain ⟨ch,e⟩:=pW hb
    rw [e]
    cases w <;> cases b <;> rfl
  | none =>
    split
    · next h=>rw [h] at hb; simp [cQ] at hb
    · rfl
theorem mT {tm tm':List (Nat × bz)}:∀ (ch:cJ),(∀ x∈ch,cQ (bv tm' x.1) = cQ (bv tm x.1))→holds tm' ch = holds tm ch
  | [],_=>rfl
  | (t,w) :: r,h=>by
    rw [jk,jk,h (t,w) (by simp),mT r fun x hx=>h x (by simp [hx])]
theorem F5:∀ (kl:List Nat) (b:Bool),(V.c (.lit (.bool b))).killAll kl = .c (.lit (.bool b))
  | [],_=>rfl
  | o :: r,b=>by rw [V.killAll,V.kill,F5 r]
theorem NG (o:Nat) (v:V) (b:Bool) (h:v.kill o = .c (.lit (.bool b))):v = .c (.lit (.bool b)):=by
  cases v with
  | c d=>simpa [V.kill] using h
  | agg vs=>simp [V.kill] at h
  | tup vs=>simp [V.kill] at h
  | ptr o' k i j=>rw [V.kill] at h; cases hb:Nat.beq o' o <;> simp [hb] at h
  | row o' k i j=>rw [V.kill] at h; cases hb:Nat.beq o' o <;> simp [hb] at h
  | dptr k cs j=>simp [V.kill] at h
  | fn f vs=>simp [V.kill] at h
theorem yE:∀ (kl:List Nat) (v:V) (b:Bool),v.killAll kl = .c (.lit (.bool b))→v = .c (.lit (.bool b))
  | [],v,b,h=>h
  | o :: r,v,b,h=>NG o v b (yE r _ b h)
theorem Il (kl:List Nat) (s:Option bz):cQ (s.map fun s=>{ ch:=s.ch,v:=s.v.killAll kl }) = cQ s:=by
  cases s with
  | none=>rfl
  | some s =>
    obtain ⟨ch,v⟩:=s
    by_cases h:∃ b,v = .c (.lit (.bool b))
    · obtain ⟨b,rfl⟩:=h
      simp [cQ,F5]
    · have h2:cQ (some { ch,v }) = none:=by
        cases hb:cQ (some { ch,v }) with
        | none=>rfl
        | some b=>obtain ⟨ch',e⟩:=pW hb; cases e; exact (h ⟨b,rfl⟩).elim
      rw [h2]
      cases hb:cQ (Option.map (fun s:bz=>{ ch:=s.ch,v:=s.v.killAll kl }) (some { ch,v })) with
      | none=>rfl
      | some b =>
        obtain ⟨ch',e⟩:=pW hb
        simp only [Option.map_some,Option.some.injEq,bz.mk.injEq] at e
        exact (h ⟨b,yE kl v b e.2⟩).elim
theorem Q1 (kl:List Nat) (tm:List (Nat × bz)) (ch:cJ):holds (xt kl tm) ch = holds tm ch :=
  mT ch fun x _=>by rw [oP,Il]
theorem M8 {tm:List (Nat × bz)} {ch':cJ} (h':holds tm ch' = true):∀ (ch:cJ),xf ch ch' = true→holds tm ch = true
  | [],_=>rfl
  | (t,w) :: r,h=>by
    simp only [xf,List.all_cons,Bool.and_eq_true] at h
    obtain ⟨h1,h2⟩:=h
    rw [jk,Bool.and_eq_true]
    refine ⟨?_,M8 h' r h2⟩
    unfold Xp at h1
    obtain ⟨y,hy,hyt⟩:=List.any_eq_true.1 h1
    simp only [Bool.and_eq_true,Nat.beq_eq,beq_iff_eq] at hyt
    obtain ⟨e1,e2⟩:=hyt
    have key:∀ (ch':cJ),y∈ch'→holds tm ch' = true→(match cQ (bv tm y.1) with | some b=>(b == y.2) | none=>false) = true:=by
      intro ch'
      induction ch' with
      | nil=>intro hy; simp at hy
      | cons z l ih =>
        intro hy hh
        obtain ⟨zt,zw⟩:=z
        rw [jk,Bool.and_eq_true] at hh
        rcases List.mem_cons.1 hy with rfl | hy
        · exact hh.1
        · exact ih hy hh.2
    have:=key ch' hy h'
    rw [← e1, ← e2] at this
    exact this
theorem YX (f:FuncId) (hlt:Nat.blt f 1000000000 = true):aK E w (.func (.func f) #[] #[]) (.fn f []):=by
  have e:qp f [] = .func (.func f) #[] #[]:=yA hlt []
  rw [← e]
  exact .fn f [] [] rfl fun i v d h=>by simp at h
theorem iE (hs:dQ N B σ E a w) {ch:cJ} (hh:holds σ.tm ch = true) {x:Operand} {v:V} (h:gj σ ch x = some v):aK E w (a.eval x) v:=by
  unfold gj at h
  split at h
  · next t =>
    cases hlow:Nat.blt t 1000000 with
    | false=>simp [hlow] at h
    | true =>
    rw [hlow,cond_true] at h
    split at h
    · next s hg =>
      cases hc:xf s.ch ch with
      | false=>simp [hc] at h
      | true =>
        simp only [hc,cond_true,Option.some.injEq] at h
        subst h
        have:=(hs.slots t s hg).1 (M8 hh _ hc)
        rw [Ad (by simpa using hlow)] at this
        exact this
    · cases h
  · cases h; exact In _
  · next f =>
    cases hlt:Nat.blt f 1000000000 with
    | false=>rw [hlt] at h; cases h
    | true=>rw [hlt] at h; cases h; exact YX _ hlt
  · cases h
theorem Ix (hs:dQ N B σ E a w) {ch:cJ} (hh:holds σ.tm ch = true):∀ {xs:List Operand} {vs:List V},sN σ ch xs = some vs→cq E w (xs.map a.eval) vs
  | [],vs,h=>by simp [sN] at h; subst h; exact .nil
  | x :: xs,vs,h=>by
    unfold sN at h
    rw [List.mapM_cons] at h
    simp only [Option.bind_eq_bind,Option.pure_def,Option.bind_eq_some_iff,Option.some.injEq] at h
    obtain ⟨d,hd,ds,hds,rfl⟩:=h
    have ih:=Ix hs hh (xs:=xs) hds
    refine ⟨by simp [ih.1],fun i v d' hv hd'=>?_⟩
    match i with
    | 0=>simp at hv hd'; subst hv; subst hd'; exact iE hs hh hd
    | i+1=>exact ih.2 i v d' (by simpa using hv) (by simpa using hd')
theorem Az {ops:Array Oper} (hs:dQ N B σ E a w) {o:Oper} {ch:cJ} (h:jx ops.toList σ.tm o.guard = some ch) (hb:ch.all (fun x=>fk σ.tm x.1) = true):Region.wanted o (yielded ops a.tmps) = holds σ.tm ch:=by
  unfold jx at h
  split at h
  · next hg=>cases h; simp [Region.wanted,hg,holds]
  · next j wt hg =>
    split at h
    · next oj hj =>
      split at h
      · next t ht =>
        cases hlow:Nat.blt t 1000000 with
        | false=>simp [hlow] at h
        | true =>
        rw [hlow,cond_true] at h
        split at h
        · next ch' b hgt =>
          cases h
          have hj':ops[j]? = some oj:=by rw [← Array.getElem?_toList]; exact hj
          rw [jk,hgt]
          simp only [cQ,Region.wanted,hg,yielded,hj',Option.bind_some,ht]
          have hsl:=hs.slots t _ hgt
          rw [Ad (by simpa using hlow)] at hsl
          cases hh:holds σ.tm ch' with
          | true =>
            have hr:=(hsl.1 hh).lit_inv
            have:a.tmps[t]? = some (.bool b):=by
              rw [Array.getD_eq_getD_getElem?] at hr
              cases hx:a.tmps[t]? with
              | none=>rw [hx] at hr; simp [undef] at hr
              | some x=>rw [hx] at hr; simpa using hr
            rw [this]
            cases b <;> cases wt <;> rfl
          | false =>
            have hr:=hsl.2 (by simp only [List.all_cons,Bool.and_eq_true] at hb; exact hb.2) hh
            rw [Bool.and_false]
            rw [Array.getD_eq_getD_getElem?] at hr
            cases hx:a.tmps[t]? with
            | none=>rfl
            | some x=>rw [hx] at hr; simp at hr; subst hr; rfl
        · cases h
      · cases h
    · cases h
theorem Tr (hs:dQ N B σ E a w) {ch:cJ} (hh:holds σ.tm ch = true) {c x y:Operand} {v:V} (h:uE σ ch c x y = some v) :
    ∃ b:Bool,a.eval c = .bool b∧aK E w (if b then a.eval x else a.eval y) v:=by
  unfold uE at h
  split at h
  · next b hc =>
    have hcb:=(iE hs hh hc).lit_inv
    refine ⟨b,hcb, ?_⟩
    split at h
    · next p q hx hy =>
      cases h
      have key:∀ (want:Bool),b = want→∀ (z:Operand) (u:V),gj σ (D2 c want ch) z = some u→aK E w (a.eval z) u:=by
        intro want hw z u hz
        cases c with
        | tmp t =>
          have:holds σ.tm ((t,want) :: ch) = true:=by
            rw [jk,hh,Bool.and_true]
            cases hg:bv σ.tm t with
            | none=>simp [gj,hg] at hc
            | some s =>
              cases hsc:xf s.ch ch with
              | false=>simp [gj,hg,hsc] at hc
              | true =>
                have hl:Nat.blt t 1000000 = true:=by
                  cases hl:Nat.blt t 1000000 with
                  | true=>rfl
                  | false=>simp [gj,hl] at hc
                simp only [gj,hg,hsc,hl,cond_true,Option.some.injEq] at hc
                have:cQ (some s) = some b:=by obtain ⟨sc,sv⟩:=s; simp only at hc; subst hc; rfl
                rw [this,hw]
                cases want <;> rfl
          exact iE hs this hz
        | const _=>exact iE hs hh hz
        | global _=>exact iE hs hh hz
        | func _=>exact iE hs hh hz
      cases hb:b with
      | true =>
        subst hb
        have:=key true rfl x _ hx
        simpa using this
      | false =>
        subst hb
        have:=key false rfl y _ hy
        simpa using this
    · cases h
  · cases h
theorem Xk {t t':Nat} {v:Value} (ht:t < a.tmps.size):(a.put (some t) v).tmps.getD t' undef = if t = t' then v else a.tmps.getD t' undef:=by
  simp only [Act.put,Array.getD_eq_getD_getElem?,Array.getElem?_setIfInBounds]
  by_cases h:t = t'
  · subst h; simp [ht]
  · simp [h]
theorem VS {t t':Nat} {v:Value} (ht:t < a.tmps.size) (hl:t < 1000000):kT B (a.put (some t) v) t' = if t = t' then v else kT B a t':=by
  unfold kT
  rw [Xk ht]
  by_cases h:t = t'
  · subst h; rw [if_pos hl,if_pos rfl,if_pos rfl]
  · simp only [if_neg h]
theorem yi (d:Nat) (tm:List (Nat × bz)) (t:Nat):bv (qY d tm) t = (bv tm t).map fun s=>bif s.ch.any (fun y=>Nat.beq y.1 d) then ⟨[], .c .unk⟩ else s :=
  DN (fun s=>bif s.ch.any (fun y=>Nat.beq y.1 d) then ⟨[], .c .unk⟩ else s) tm t
theorem aau {d:Nat} {ch:cJ} (h:ch.any (fun y=>Nat.beq y.1 d) = false):∀ x∈ch,x.1≠d:=by
  intro x hx e
  have:=List.any_eq_false.1 h x hx
  rw [e] at this
  simp at this
theorem OA {d:Nat} {ch:cJ} (h:uA (some d) ch = true):∀ x∈ch,x.1≠d:=by
  intro x hx e
  have:=List.all_eq_true.1 h x hx
  rw [e] at this
  simp at this
theorem p8 {tm:List (Nat × bz)} {t:Nat}:fk tm t = (cQ (bv tm t)).isSome:=by
  unfold fk
  cases h:bv tm t with
  | none=>rfl
  | some s =>
    obtain ⟨ch,v⟩:=s
    simp only
    unfold V.isBool cQ
    split <;> simp_all
theorem Iv {tm:List (Nat × bz)}:∀ (ch:cJ),holds tm ch = true→ch.all (fun x=>fk tm x.1) = true
  | [],_=>rfl
  | (t,w) :: r,h=>by
    rw [jk,Bool.and_eq_true] at h
    simp only [List.all_cons,Bool.and_eq_true]
    refine ⟨?_,Iv r h.2⟩
    rw [p8]
    cases hb:cQ (bv tm t) with
    | none=>rw [hb] at h; simp at h
    | some b=>rfl
theorem kH {tm tm':List (Nat × bz)} {E':br} {w':World} {v:Value} {s:bz} (h:pY tm E' w' v s) (hb:∀ x∈s.ch,fk tm' x.1 = true→cQ (bv tm' x.1) = cQ (bv tm x.1)):pY tm' E' w' v s:=by
  have key:s.ch.all (fun x=>fk tm' x.1) = true→holds tm' s.ch = holds tm s.ch∧s.ch.all (fun x=>fk tm x.1) = true:=by
    intro ha
    have h1:∀ x∈s.ch,cQ (bv tm' x.1) = cQ (bv tm x.1):=fun x hx=>hb x hx (List.all_eq_true.1 ha x hx)
    refine ⟨mT _ h1,List.all_eq_true.2 fun x hx=>?_⟩
    have:=List.all_eq_true.1 ha x hx
    rw [p8] at this ⊢
    rw [← h1 x hx]; exact this
  refine ⟨fun hh=>?_,fun ha hh=>?_⟩
  · have:=key (Iv _ hh)
    exact h.1 (by rw [← this.1]; exact hh)
  · have:=key ha
    exact h.2 this.2 (by rw [← this.1]; exact hh)
theorem OW {d:Nat} {tm:List (Nat × bz)} {t:Nat} (h:fk (qY d tm) t = true):cQ (bv (qY d tm) t) = cQ (bv tm t):=by
  rw [p8] at h
  rw [yi] at h ⊢
  cases hx:bv tm t with
  | none=>rfl
  | some s =>
    rw [hx] at h
    simp only [Option.map_some] at h ⊢
    cases hc:s.ch.any (fun y=>Nat.beq y.1 d) with
    | false=>rfl
    | true=>rw [hc] at h; simp [cQ] at h
theorem MZ {tm:List (Nat × bz)} {E':br} {w':World} {ch:cJ} {d:Nat} {v:V} {v':Value} (hlt:d < a.tmps.size) (hlow:d < 1000000) (hsl:∀ t s,bv tm t = some s→pY tm E' w' (kT B a t) s)
    (hcd:∀ x∈ch,x.1≠d) (hv:pY tm E' w' v' { ch,v }):∀ t s,bv (mi (qY d tm) d { ch,v }) t = some s→pY (mi (qY d tm) d { ch,v }) E' w' (kT B (a.put (some d) v') t) s:=by
  have hb:∀ c:cJ,(∀ x∈c,x.1≠d)→∀ x∈c,fk (mi (qY d tm) d { ch,v }) x.1 = true→cQ (bv (mi (qY d tm) d { ch,v }) x.1) = cQ (bv tm x.1):=by
    intro c hc x hx h
    rw [p8,ou,if_neg (fun e=>hc x hx e.symm)] at h
    rw [ou,if_neg (fun e=>hc x hx e.symm)]
    exact OW (by rw [p8]; exact h)
  intro t s hg
  rw [ou] at hg
  rw [VS hlt hlow]
  split at hg
  · next e =>
    subst e; cases hg
    rw [if_pos rfl]
    exact kH hv (hb ch hcd)
  · next e =>
    rw [if_neg e]
    rw [yi] at hg
    cases hx:bv tm t with
    | none=>rw [hx] at hg; cases hg
    | some y =>
      rw [hx] at hg
      simp only [Option.map_some,Option.some.injEq] at hg
      cases hc:y.ch.any (fun y=>Nat.beq y.1 d) with
      | true =>
        rw [hc,cond_true] at hg; subst hg
        exact ⟨fun _=>.unk _,fun _ h=>by simp [holds] at h⟩
      | false =>
        rw [hc,cond_false] at hg; subst hg
        exact kH (hsl t _ hx) (hb _ (aau hc))
theorem Tx {kl:List Nat} {tm:List (Nat × bz)} {E':br} {w':World} (hr:∀ v d,aK E w v d→aK E' w' v (d.killAll kl)) (hsl:∀ t s,bv tm t = some s→pY tm E w (kT B a t) s) :
    ∀ t s,bv (xt kl tm) t = some s→pY (xt kl tm) E' w' (kT B a t) s:=by
  intro t s hg
  rw [oP] at hg
  cases hx:bv tm t with
  | none=>rw [hx] at hg; cases hg
  | some y =>
    rw [hx] at hg; cases hg
    refine kH (tm:=tm) ⟨fun h=>hr _ _ ((hsl t y hx).1 h),(hsl t y hx).2⟩ fun x _ _=>?_
    rw [oP,Il]
theorem MM (hs:dQ N B σ E a w) {rc:fw} {E':br} {w':World} {v':Value} {M:Nat} (hM:σ.nx≤M) (hnid:rc.nid < M) (hP:gn E w σ.hp rc.nid rc.res E' w' v') (hh:holds σ.tm rc.ch = true)
    (hd:uZ N rc.dst = true) (hn:rc.ch.isEmpty = true∨uA rc.dst rc.ch = true):dQ N B { after σ rc with nx:=M } E' (a.put rc.dst v') w':=by
  have hlive:∀ q,M≤q→¬ E'.live q:=by
    intro q hq h
    rcases hP.live q h with h | h
    · exact hs.live q (by omega) h
    · omega
  have hown:∀ o b,E'.live o→E'.conc o = some b→B.W.heap.size≤b∨B.mb b:=by
    intro o b ho h
    rcases hP.st.concnew o b ho h with ⟨o,h1,h2⟩ | h
    · exact hs.own o b h1 h2
    · have:=hs.base.size; exact .inl (by omega)
  have hold:∀ b,E'.ok b→B.ok b∨B.W.heap.size≤b∨B.mb b:=by
    intro b hb
    rcases hP.st.okold b hb with h | h | ⟨o,h1,h2⟩
    · exact hs.okold b h
    · have:=hs.base.size; exact .inr (.inl (by omega))
    · exact .inr (hs.own o b h1 h2)
  have hbase:Br B.mb B.W.heap.size B.W w':=by
    refine ⟨hP.st.os.trans hs.base.os,hP.st.tape.trans hs.base.tape,hP.st.output.trans hs.base.output,Nat.le_trans hs.base.size hP.st.size,fun k hk hm=>?_⟩
    rw [hP.st.blk k (by have:=hs.base.size; omega) fun o ho h=>by
      rcases hs.own o k ho h with h | h
      · omega
      · exact hm h]
    exact hs.base.block k hk hm
  have hkill:=Tx (kl:=rc.res.kill) (E':=E') (w':=w') (fun v d h=>h.step hP.st hs.heap.sep hs.heap.oklt) hs.slots
  cases hdst:rc.dst with
  | none =>
    refine ⟨hs.size,hs.small,hs.defers,hlive,hP.heap,fun t s hg=>?_,hbase,hown,hold⟩
    simp only [after,hdst] at hg ⊢
    exact hkill t s hg
  | some d =>
    rw [hdst] at hd hn
    simp only [uZ,Nat.blt_eq] at hd
    have hlt:d < a.tmps.size:=by rw [hs.size]; exact hd
    have hcd:∀ x∈rc.ch,x.1≠d:=by
      rcases hn with hn | hn
      · intro x hx; rw [List.isEmpty_iff.1 hn] at hx; simp at hx
      · exact OA hn
    refine ⟨by simp [Act.put,hs.size],hs.small,hs.defers,hlive,hP.heap, ?_,hbase,hown,hold⟩
    simp only [after,hdst]
    refine MZ hlt (by have:=hs.small; omega) hkill hcd ⟨fun _=>hP.val,fun _ h=>?_⟩
    rw [Q1,hh] at h
    cases h
end
end Go.Ax
namespace Go.Ax
open Go.RowKit
section
variable {P:Program} {N:Nat} {B:j5} {σ σ':St} {E:br} {a:Act} {w:World} {C:FuncId→Option CC}
theorem Pu (hs:dQ N B σ E a w) {rc:fw} {M:Nat} (hf:¬ E.live rc.nid) (hM:σ.nx≤M) (hnid:rc.nid < M) (hh:holds σ.tm rc.ch = false) (he:rc.res.eff = []) (hk:rc.res.kill = []) (hn:uA rc.dst rc.ch = true)
    (hd:uZ N rc.dst = true):dQ N B { after σ rc with nx:=M } (E.next rc.nid none 0 0 E.ok) (a.put rc.dst undef) w:=by
  have hS:gz E w [] (E.next rc.nid none 0 0 E.ok) w:=gL hf none 0 0 E.ok (.refl _ _) (by simp) (fun _ h=>h) (fun _ h=>.inl h)
  have hN:bG (E.next rc.nid none 0 0 E.ok) w σ.hp:=iJ hf hs.heap (.refl _ _) (by simp) (fun _ h=>h) (fun _ h=>.inl h) hs.heap.oklt
  have hown:∀ o b,(E.next rc.nid none 0 0 E.ok).live o→(E.next rc.nid none 0 0 E.ok).conc o = some b→B.W.heap.size≤b∨B.mb b:=by
    intro o b ho h
    rcases hS.concnew o b ho h with ⟨o,h1,h2⟩ | h
    · exact hs.own o b h1 h2
    · have:=hs.base.size; exact .inl (by omega)
  have hlive:∀ q,M≤q→¬ (E.next rc.nid none 0 0 E.ok).live q:=by
    rintro q hq (h | h)
    · omega
    · exact hs.live q (by omega) h
  have hslot:∀ t s,bv σ.tm t = some s→pY σ.tm (E.next rc.nid none 0 0 E.ok) w (kT B a t) s:=fun t s hg =>
    ⟨fun h=>kJ hs.heap hS ((hs.slots t s hg).1 h),(hs.slots t s hg).2⟩
  have hkT:xt rc.res.kill σ.tm = σ.tm:=by rw [hk]; rfl
  have hkH:rc.res.eff++gX rc.res.kill σ.hp = σ.hp:=by rw [he,hk]; rfl
  cases hdst:rc.dst with
  | none =>
    refine ⟨hs.size,hs.small,hs.defers,hlive,by simp only [after]; rw [hkH]; exact hN,fun t s hg=>?_,hs.base,hown,hs.okold⟩
    simp only [after,hdst] at hg ⊢
    rw [hkT] at hg ⊢
    exact hslot t s hg
  | some d =>
    rw [hdst] at hd hn
    simp only [uZ,Nat.blt_eq] at hd
    have hlt:d < a.tmps.size:=by rw [hs.size]; exact hd
    refine ⟨by simp [Act.put,hs.size],hs.small,hs.defers,hlive,by simp only [after]; rw [hkH]; exact hN, ?_,hs.base,hown,hs.okold⟩
    simp only [after,hdst]
    rw [hkT]
    refine MZ hlt (by have:=hs.small; omega) hslot (OA hn) ⟨fun h=>?_,fun _ _=>rfl⟩
    have h':holds σ.tm rc.ch = true:=h
    rw [hh] at h'
    cases h'
theorem WM {tm:List (Nat × bz)} {ch:cJ} {ps:List Prop} (h:∀ p∈GT tm ch ps,p) (hh:holds tm ch = true):∀ p∈ps,p:=by
  intro p hp
  cases ch with
  | nil=>exact h p hp
  | cons x l=>exact h _ (List.mem_map.2 ⟨p,hp,rfl⟩) hh
theorem Fe {tm:List (Nat × bz)} {c ch:cJ} (h:ch.all (fun x=>lA tm c x.1) = true):ch.all (fun x=>fk tm x.1) = true:=by
  refine List.all_eq_true.2 fun x hx=>?_
  have:=List.all_eq_true.1 h x hx
  unfold lA at this
  unfold fk
  split at this
  · simp only [Bool.and_eq_true] at this; exact this.1
  · cases this
theorem ji {ops:List Oper} {nid:Nat} {o:Oper} {rc:fw} (h:recOf P C N ops σ nid o = some rc) :
    uZ N o.dst = true∧jx ops σ.tm o.guard = some rc.ch∧rc.ch.all (fun x=>lA σ.tm rc.ch x.1) = true∧B1 P C σ nid rc.ch o = some (rc.vs,rc.res) ∧
      (rc.ch.isEmpty||(rc.res.eff.isEmpty&&rc.res.kill.isEmpty&&uA o.dst rc.ch)) = true∧rc.dst = o.dst∧rc.nid = nid∧rc.rds = p7 (jf o.op)++rc.ch.map (·.1)∧rc.reach = dE σ.hp rc.vs∧rc.rws = xG σ.hp rc.vs:=by
  unfold recOf at h
  cases hd:uZ N o.dst with
  | false=>simp [hd] at h
  | true =>
    simp only [hd,cond_true] at h
    split at h
    · next ch hch =>
      cases hb:ch.all (fun x=>lA σ.tm ch x.1) with
      | false=>simp [hb] at h
      | true =>
        simp only [hb,cond_true] at h
        split at h
        · next vs r hr =>
          cases hc:(ch.isEmpty||(r.eff.isEmpty&&r.kill.isEmpty&&uA o.dst ch)) with
          | false=>simp [hc] at h
          | true =>
            simp only [hc,cond_true,Option.some.injEq] at h
            subst h
            exact ⟨rfl,hch,hb,hr,hc,rfl,rfl,rfl,rfl,rfl⟩
        · cases h
    · cases h
theorem Ll (hC:∀ f con,C f = some con→bR P f con) (hs:dQ N B σ E a w) {ops:Array Oper} {i:Nat} {o:Oper} (hi:ops[i]? = some o) {nid M:Nat} (hf:¬ E.live nid) (hM:σ.nx≤M) (hnid:nid < M)
    {rc:fw} (h:recOf P C N ops.toList σ nid o = some rc) (hp:∀ p∈GT σ.tm rc.ch rc.res.pre,p) {K:Act→World→Prop} {Q:Exit→Act→World→Prop}
    (hK:∀ E' a' w',dQ N B { after σ rc with nx:=M } E' a' w'→(∀ q,E'.live q→E.live q∨q = nid)→K a' w'):wpOp P ops Q i K a w:=by
  obtain ⟨hd,hch,hb,hr,hc,e1,e2,_,_⟩:=ji h
  rw [← e1] at hd hc
  rw [← e2] at hnid hf hK
  unfold wpOp
  rw [hi]
  simp only
  rw [Az hs hch (Fe hb), ← e1]
  cases hh:holds σ.tm rc.ch with
  | false =>
    rw [if_neg (by simp)]
    have hne:rc.ch.isEmpty = false:=by
      cases hx:rc.ch with
      | nil=>rw [hx] at hh; simp [holds] at hh
      | cons=>rfl
    rw [hne,Bool.false_or] at hc
    simp only [Bool.and_eq_true,List.isEmpty_iff] at hc
    exact hK _ _ _ (Pu hs hf hM hnid hh hc.1.1 hc.1.2 hc.2 hd) eM
  | true =>
    rw [if_pos rfl]
    left
    have hpp:=WM hp hh
    have hn:rc.ch.isEmpty = true∨uA rc.dst rc.ch = true:=by
      simp only [Bool.or_eq_true,Bool.and_eq_true] at hc
      exact hc.imp id (·.2)
    unfold B1 at hr
    split at hr
    · next c x y ho =>
      cases hv:uE σ rc.ch c x y with
      | none=>simp [hv] at hr
      | some v =>
        simp only [hv,Option.map_some,Option.some.injEq,Prod.mk.injEq] at hr
        obtain ⟨b,hb,hrep⟩:=Tr hs hh hv
        unfold Oper.wp
        have hrun:(execOp a.eval o).run P w = .ok (.value (if b then a.eval x else a.eval y)) w:=by
          simp [execOp,ho,hb,asBool]
        rw [hrun]
        have hP:gn E w σ.hp rc.nid rc.res (E.next rc.nid none 0 0 E.ok) w (if b then a.eval x else a.eval y):=by
          have hS:gz E w [] (E.next rc.nid none 0 0 E.ok) w:=gL hf none 0 0 E.ok (.refl _ _) (by simp) (fun _ h=>h) (fun _ h=>.inl h)
          rw [← hr.2]
          exact ⟨hS,iJ hf hs.heap (.refl _ _) (by simp) (fun _ h=>h) (fun _ h=>.inl h) hs.heap.oklt,kJ hs.heap hS hrep,eM⟩
        have hfin:=hK _ _ _ (MM hs hM hnid hP hh hd hn) hP.live
        rw [e1] at hfin
        exact hfin
    · next op hnp =>
      split at hr
      · next vs hvs =>
        cases hov:Ju P C σ.hp nid o vs with
        | none=>simp [hov] at hr
        | some r =>
          simp only [hov,Option.map_some,Option.some.injEq,Prod.mk.injEq] at hr
          obtain ⟨rfl,rfl⟩:=hr
          rw [← e2] at hov
          refine Xh hs.heap hf hC (Ix hs hh hvs) hov hpp fun E' w' v' hP=>?_
          have hfin:=hK _ _ _ (MM hs hM hnid hP hh hd hn) hP.live
          rw [e1] at hfin
          exact hfin
      · cases hr
theorem Qu (tm:List (Nat × bz)) (t:Nat):bv (CL tm) t = (bv tm t).map fun s=>bif s.ch.isEmpty then s else ⟨[], .c .unk⟩ :=
  DN (fun s=>bif s.ch.isEmpty then s else ⟨[], .c .unk⟩) tm t
theorem IP (hs:dQ N B σ E a w):dQ N B { σ with tm:=CL σ.tm } E a w:=by
  refine ⟨hs.size,hs.small,hs.defers,hs.live,hs.heap,fun t s hg=>?_,hs.base,hs.own,hs.okold⟩
  simp only at hg ⊢
  rw [Qu] at hg
  cases hx:bv σ.tm t with
  | none=>rw [hx] at hg; cases hg
  | some y =>
    rw [hx] at hg
    simp only [Option.map_some,Option.some.injEq] at hg
    cases hc:y.ch.isEmpty with
    | false =>
      rw [hc,cond_false] at hg; subst hg
      exact ⟨fun _=>.unk _,fun _ h=>by simp [holds] at h⟩
    | true =>
      rw [hc,cond_true] at hg; subst hg
      have hch:y.ch = []:=List.isEmpty_iff.1 hc
      have:=hs.slots t y hx
      exact ⟨fun _=>this.1 (by rw [hch]; rfl),fun _ h=>by rw [hch] at h; simp [holds] at h⟩
theorem PY (hC:∀ f con,C f = some con→bR P f con) {ops:Array Oper} {Q:Exit→Act→World→Prop}:∀ (rest:List Oper) (i:Nat) (σ σ':St) (ps:List Prop) (E:br) (a:Act) (w:World),
    ops.toList.drop i = rest→Hg P C N ops.toList rest σ = some (ps,σ')→(∀ p∈ps,p)→dQ N B σ E a w→(∀ E' a' w',dQ N B σ' E' a' w'→Q .normal a' w')→wpOps P ops Q (List.range' i rest.length) a w
  | [],i,σ,σ',ps,E,a,w,hd,hg,hp,hs,hQ=>by
    simp only [Hg,Option.some.injEq,Prod.mk.injEq] at hg
    obtain ⟨rfl,rfl⟩:=hg
    exact hQ _ _ _ (IP hs)
  | o :: rest,i,σ,σ',ps,E,a,w,hd,hg,hp,hs,hQ=>by
    rw [Hg] at hg
    split at hg
    · next rc h1 =>
      split at hg
      · next qs σ2 h2 =>
        simp only [Option.some.injEq,Prod.mk.injEq] at hg
        obtain ⟨rfl,rfl⟩:=hg
        have hi:ops[i]? = some o:=by
          have:=congrArg (·[0]?) hd
          simpa using this
        rw [List.length_cons,List.range'_succ,wpOps_cons]
        refine Ll (M:=σ.nx+1) hC hs hi (hs.live _ (Nat.le_refl _)) (Nat.le_succ _) (Nat.lt_succ_self _) h1 (fun p hp'=>hp p (List.mem_append_left _ hp')) fun E' a' w' hs' _=>?_
        refine PY hC rest (i+1) { after σ rc with nx:=σ.nx+1 } _ qs E' a' w' ?_ h2 (fun p hp'=>hp p (List.mem_append_right _ hp')) hs' hQ
        rw [← List.drop_drop,hd]
        rfl
      · cases hg
    · cases hg
theorem WI (hC:∀ f con,C f = some con→bR P f con) {id:Nat} {ops:Array Oper} {Q:Exit→Act→World→Prop} {ps:List Prop} (hg:Hg P C N ops.toList ops.toList σ = some (ps,σ')) (hp:∀ p∈ps,p)
    (hs:dQ N B σ E a w) (hQ:∀ E' a' w',dQ N B σ' E' a' w'→Q .normal a' w'):(Code.region id ops false).wp P Q a w:=by
  refine wp_region ?_
  have:=PY hC (Q:=Q) ops.toList 0 σ σ' ps E a w rfl hg hp hs hQ
  rw [List.range_eq_range']
  simpa using this
end
end Go.Ax
namespace Go.Ax
open Go.RowKit
section
variable {P:Program} {N:Nat} {B:j5} {σ σ':St} {E:br} {a:Act} {w:World} {C:FuncId→Option CC}
theorem JB:∀ {ps:List Prop} {Q:Prop},Aw ps Q→(∀ p∈ps,p)∧Q
  | [],_,h=>⟨fun p hp=>by simp at hp,h⟩
  | p :: ps,Q,h=>by
    obtain ⟨h1,h2⟩:=JB h.2
    refine ⟨fun q hq=>?_,h2⟩
    rcases List.mem_cons.1 hq with rfl | hq
    · exact h.1
    · exact h1 q hq
theorem allP_mono {ps:List Prop} {Q Q':Prop} (hq:Q→Q'):Aw ps Q→Aw ps Q':=by
  induction ps with
  | nil=>exact hq
  | cons p ps ih=>exact fun h=>⟨h.1,ih h.2⟩
theorem OK (hs:dQ N B σ E a w) {t:Nat} {s:bz} (hg:bv σ.tm t = some s):dQ N B { σ with tm:=mi σ.tm t s } E a w:=by
  have hx:∀ x,bv (mi σ.tm t s) x = bv σ.tm x:=by
    intro x
    rw [ou]
    split
    · next e=>subst e; exact hg.symm
    · rfl
  refine ⟨hs.size,hs.small,hs.defers,hs.live,hs.heap,fun q y hq=>?_,hs.base,hs.own,hs.okold⟩
  simp only at hq ⊢
  rw [hx] at hq
  exact kH (tm:=σ.tm) (hs.slots q y hq) fun z _ _=>by rw [hx]
theorem O6 (hC:∀ f con,C f = some con→bR P f con) (hs:dQ N B σ E a w) {ops:Array Oper} {i:Nat} {o:Oper} (hi:ops[i]? = some o) {ch:cJ} (hch:jx ops.toList σ.tm o.guard = some ch)
    (hb:ch.all (fun x=>fk σ.tm x.1) = true) (hh:holds σ.tm ch = true) {k:St→Prop} (h:zo P C N ops.toList σ o k) {K:Act→World→Prop} {Q:Exit→Act→World→Prop}
    (hK:∀ σ' E' a' w',k σ'→dQ N B σ' E' a' w'→K a' w'):wpOp P ops Q i K a w:=by
  unfold zo at h
  split at h
  · next rc hr =>
    obtain ⟨hp,hk⟩:=JB h
    have hr':recOf P C N (#[{ o with guard:=none }]:Array Oper).toList σ σ.nx { o with guard:=none } = some rc:=hr
    have hch0:rc.ch = []:=by
      obtain ⟨_,h1,_⟩:=ji hr
      have:jx ops.toList σ.tm none = some rc.ch:=h1
      simpa [jx] using this.symm
    have:=Ll (Q:=Q) (M:=σ.nx+1) hC hs (ops:=#[{ o with guard:=none }]) (i:=0) rfl (hs.live _ (Nat.le_refl _)) (Nat.le_succ _) (Nat.lt_succ_self _) hr' (by rw [hch0]; exact hp)
      (K:=K) fun E' a' w' hs' _=>hK _ E' a' w' hk hs'
    unfold wpOp at this ⊢
    rw [hi]
    simp only
    rw [Az hs hch hb,hh,if_pos rfl]
    have e:(#[{ o with guard:=none }]:Array Oper)[0]? = some { o with guard:=none }:=rfl
    rw [e] at this
    simp only [Region.wanted,if_true] at this
    exact this
  · exact h.elim
theorem LB (hs:dQ N B σ E a w) {ops:Array Oper} {i:Nat} {o:Oper} (hi:ops[i]? = some o) {ch:cJ} (hch:jx ops.toList σ.tm o.guard = some ch)
    (hb:ch.all (fun x=>fk σ.tm x.1) = true) (hh:holds σ.tm ch = false) {k:St→Prop} (h:zl N σ o ch k) {K:Act→World→Prop} {Q:Exit→Act→World→Prop}
    (hK:∀ σ' E' a' w',k σ'→dQ N B σ' E' a' w'→K a' w'):wpOp P ops Q i K a w:=by
  unfold zl at h
  cases hc:(uZ N o.dst&&uA o.dst ch) with
  | false=>rw [hc] at h; exact h.elim
  | true =>
    rw [hc,cond_true] at h
    rw [Bool.and_eq_true] at hc
    unfold wpOp
    rw [hi]
    simp only
    rw [Az hs hch hb,hh,if_neg (by simp)]
    exact hK _ _ _ _ h (Pu hs (rc:=RV o ch σ.nx) (hs.live _ (Nat.le_refl _)) (Nat.le_succ _) (Nat.lt_succ_self _) hh rfl rfl hc.2 hc.1)
theorem Vy (hC:∀ f con,C f = some con→bR P f con) {ops:Array Oper} {Q:Exit→Act→World→Prop}:∀ (rest:List Oper) (i:Nat) (σ:St) (K:St→Prop) (E:br) (a:Act) (w:World),
    ops.toList.drop i = rest→s7 P C N ops.toList rest σ K→dQ N B σ E a w→(∀ σ' E' a' w',K σ'→dQ N B σ' E' a' w'→Q .normal a' w')→wpOps P ops Q (List.range' i rest.length) a w
  | [],i,σ,K,E,a,w,hd,hg,hs,hQ=>by
    rw [s7] at hg
    exact hQ _ _ _ _ hg (IP hs)
  | o :: rest,i,σ,K,E,a,w,hd,hg,hs,hQ=>by
    have hi:ops[i]? = some o:=by
      have:=congrArg (·[0]?) hd
      simpa using this
    have hd':ops.toList.drop (i+1) = rest:=by
      rw [← List.drop_drop,hd]; rfl
    have next:∀ σ' E' a' w',s7 P C N ops.toList rest σ' K→dQ N B σ' E' a' w'→wpOps P ops Q (List.range' (i+1) rest.length) a' w' :=
      fun σ' E' a' w' h hs'=>Vy hC rest (i+1) σ' K E' a' w' hd' h hs' hQ
    rw [List.length_cons,List.range'_succ,wpOps_cons]
    rw [s7] at hg
    split at hg
    · next hgn=>exact O6 hC hs hi (ch:=[]) (by rw [hgn]; rfl) rfl rfl hg next
    · next g hgn =>
      split at hg
      · next t wt ch hch =>
        cases hb:((t,wt) :: ch).all (fun x=>lA σ.tm ((t,wt) :: ch) x.1) with
        | false=>rw [hb] at hg; exact hg.elim
        | true =>
          rw [hb,cond_true] at hg
          have hbs:=Fe hb
          rw [← hgn] at hch
          split at hg
          · next c0 b hgt =>
            cases hh:holds σ.tm ch with
            | false =>
              rw [hh,cond_false] at hg
              exact LB hs hi hch hbs (by rw [jk,hh,Bool.and_false]) hg next
            | true =>
              rw [hh,cond_true] at hg
              have hhold:holds σ.tm ((t,wt) :: ch) = (b == wt):=by rw [jk,hh,Bool.and_true,hgt]; rfl
              have hsame:∀ b',b = b'→(∀ x,bv (mi σ.tm t ⟨c0,bl b'⟩) x = bv σ.tm x):=by
                intro b' e x
                subst e
                rw [ou]
                split
                · next e=>subst e; exact hgt.symm
                · rfl
              have hgc:∀ b',b = b'→jx ops.toList (mi σ.tm t ⟨c0,bl b'⟩) o.guard = some ((t,wt) :: ch):=by
                intro b' e
                rw [← hch]
                unfold jx
                split
                · rfl
                · split
                  · split
                    · rw [hsame b' e]
                    · rfl
                  · rfl
              have hbc:∀ b',b = b'→((t,wt) :: ch).all (fun x=>fk (mi σ.tm t ⟨c0,bl b'⟩) x.1) = true:=by
                intro b' e
                rw [← hbs]
                congr 1
                funext x
                unfold fk
                rw [hsame b' e]
              have hho:∀ b',b = b'→holds (mi σ.tm t ⟨c0,bl b'⟩) ((t,wt) :: ch) = (b' == wt):=by
                intro b' e
                rw [mT (tm:=σ.tm) _ fun x _=>by rw [hsame b' e],hhold,e]
              cases hbv:b with
              | true =>
                rw [hbv,cond_true] at hg
                have hs':=OK hs hgt
                rw [hbv] at hs'
                cases wt with
                | true=>rw [cond_true] at hg; exact O6 hC hs' hi (hgc true hbv) (hbc true hbv) (hho true hbv) hg next
                | false=>rw [cond_false] at hg; exact LB hs' hi (hgc true hbv) (hbc true hbv) (hho true hbv) hg next
              | false =>
                rw [hbv,cond_false] at hg
                have hs':=OK hs hgt
                rw [hbv] at hs'
                cases wt with
                | true=>rw [cond_true] at hg; exact LB hs' hi (hgc false hbv) (hbc false hbv) (hho false hbv) hg next
                | false=>rw [cond_false] at hg; exact O6 hC hs' hi (hgc false hbv) (hbc false hbv) (hho false hbv) hg next
          · exact hg.elim
      · exact hg.elim
theorem TK (hC:∀ f con,C f = some con→bR P f con) {id:Nat} {ops:Array Oper} {Q:Exit→Act→World→Prop} {K:St→Prop} (hg:s7 P C N ops.toList ops.toList σ K)
    (hs:dQ N B σ E a w) (hQ:∀ σ' E' a' w',K σ'→dQ N B σ' E' a' w'→Q .normal a' w'):(Code.region id ops false).wp P Q a w:=by
  refine wp_region ?_
  have:=Vy hC (Q:=Q) ops.toList 0 σ K E a w rfl hg hs hQ
  rw [List.range_eq_range']
  simpa using this
theorem D6 {all:List Oper} {o:Oper} {k k':St→Prop} (hk:∀ σ,k σ→k' σ) (h:zo P C N all σ o k):zo P C N all σ o k':=by
  unfold zo at h ⊢
  split at h
  · next rc hr=>exact allP_mono (hk _) h
  · exact h.elim
theorem Di {o:Oper} {ch:cJ} {k k':St→Prop} (hk:∀ σ,k σ→k' σ) (h:zl N σ o ch k):zl N σ o ch k':=by
  unfold zl at h ⊢
  cases hc:(uZ N o.dst&&uA o.dst ch) with
  | false=>rw [hc] at h; exact h.elim
  | true=>rw [hc,cond_true] at h; rw [cond_true]; exact hk _ h
theorem P3 {all:List Oper} {K K':St→Prop} (hk:∀ σ,K σ→K' σ):∀ (rest:List Oper) (σ:St),s7 P C N all rest σ K→s7 P C N all rest σ K'
  | [],σ,h=>by rw [s7] at h ⊢; exact hk _ h
  | o :: r,σ,h=>by
    have ih:∀ σ,s7 P C N all r σ K→s7 P C N all r σ K':=P3 hk r
    rw [s7] at h ⊢
    split
    · next hg=>rw [hg] at h; exact D6 ih h
    · next g hg =>
      rw [hg] at h
      simp only at h
      split
      · next t w ch hch =>
        rw [hch] at h
        simp only at h
        cases hb:((t,w) :: ch).all (fun x=>lA σ.tm ((t,w) :: ch) x.1) with
        | false=>rw [hb] at h; exact h.elim
        | true =>
          rw [hb,cond_true] at h
          rw [cond_true]
          split
          · next c0 b hgt =>
            rw [hgt] at h
            simp only at h
            cases hh:holds σ.tm ch with
            | false=>rw [hh,cond_false] at h; rw [cond_false]; exact Di ih h
            | true =>
              rw [hh,cond_true] at h
              rw [cond_true]
              cases b with
              | true =>
                cases w with
                | true=>exact D6 ih h
                | false=>exact Di ih h
              | false =>
                cases w with
                | true=>exact Di ih h
                | false=>exact D6 ih h
          · next hgt =>
            split at h
            · next c0 b hgt'=>exact (hgt c0 b hgt').elim
            · exact h.elim
      · next hch =>
        split at h
        · next t w ch hch'=>exact (hch t w ch hch').elim
        · exact h.elim
end
end Go.Ax
namespace Go.Ax
open Go.RowKit
section
variable {P:Program} {N:Nat} {B:j5} {σ σ':St} {E:br} {a:Act} {w:World} {C:FuncId→Option CC}
mutual
theorem kill_noUnk (o:Nat):∀ v:V,(v.kill o).noUnk = true→v.kill o = v
  | .c _,_=>rfl
  | .agg vs,h=>by simp only [V.kill,V.noUnk] at h ⊢; rw [kills_noUnk o vs h]
  | .tup vs,h=>by simp only [V.kill,V.noUnk] at h ⊢; rw [kills_noUnk o vs h]
  | .ptr o' k i j,h=>by
    rw [V.kill] at h ⊢
    cases hb:Nat.beq o' o
    · rfl
    · rw [hb] at h; simp [V.noUnk] at h
  | .row o' k i j,h=>by
    rw [V.kill] at h ⊢
    cases hb:Nat.beq o' o
    · rfl
    · rw [hb] at h; simp [V.noUnk] at h
  | .dptr ..,_=>rfl
  | .fn _ vs,h=>by simp only [V.kill,V.noUnk] at h ⊢; rw [kills_noUnk o vs h]
theorem kills_noUnk (o:Nat):∀ vs:List V,V.noUnks (V.kills o vs) = true→V.kills o vs = vs
  | [],_=>rfl
  | v :: r,h=>by
    simp only [V.kills,V.noUnks,Bool.and_eq_true] at h ⊢
    rw [kill_noUnk o v h.1,kills_noUnk o r h.2]
end
theorem wu:∀ (kl:List Nat) (v:V),(v.killAll kl).noUnk = true→v.killAll kl = v
  | [],_,_=>rfl
  | o :: r,v,h=>by
    rw [V.killAll] at h ⊢
    have h1:=wu r _ h
    rw [h1] at h ⊢
    exact kill_noUnk o v h
mutual
theorem kill_norefs (o:Nat):∀ v:V,v.refs = []→v.kill o = v
  | .c _,_=>rfl
  | .agg vs,h=>by simp only [V.kill]; rw [kills_norefs o vs h]
  | .tup vs,h=>by simp only [V.kill]; rw [kills_norefs o vs h]
  | .ptr o' k i j,h=>by simp [V.refs] at h
  | .row o' k i j,h=>by simp [V.refs] at h
  | .dptr ..,_=>rfl
  | .fn _ vs,h=>by simp only [V.kill]; rw [kills_norefs o vs h]
theorem kills_norefs (o:Nat):∀ vs:List V,V.refss vs = []→V.kills o vs = vs
  | [],_=>rfl
  | v :: r,h=>by
    simp only [V.refss,List.append_eq_nil_iff] at h
    simp only [V.kills]
    rw [kill_norefs o v h.1,kills_norefs o r h.2]
end
mutual
theorem kill_disj (o:Nat):∀ (v:V),o ∉ v.refs→v.kill o = v
  | .c _,_=>rfl
  | .agg vs,h=>by rw [V.kill,kills_disj o vs (by rw [V.refs] at h; exact h)]
  | .tup vs,h=>by rw [V.kill,kills_disj o vs (by rw [V.refs] at h; exact h)]
  | .ptr o' k i j,h=>by
    rw [V.kill]
    cases hb:Nat.beq o' o with
    | false=>rfl
    | true=>exact (h (by rw [V.refs,Nat.eq_of_beq_eq_true hb]; simp)).elim
  | .row o' k i j,h=>by
    rw [V.kill]
    cases hb:Nat.beq o' o with
    | false=>rfl
    | true=>exact (h (by rw [V.refs,Nat.eq_of_beq_eq_true hb]; simp)).elim
  | .dptr ..,_=>rfl
  | .fn f vs,h=>by rw [V.kill,kills_disj o vs (by rw [V.refs] at h; exact h)]
theorem kills_disj (o:Nat):∀ (vs:List V),o ∉ V.refss vs→V.kills o vs = vs
  | [],_=>rfl
  | v :: r,h=>by
    rw [V.refss,List.mem_append] at h
    rw [V.kills,kill_disj o v (fun e=>h (.inl e)),kills_disj o r (fun e=>h (.inr e))]
end
theorem oh:∀ (kl:List Nat) (v:V),(∀ q∈v.refs,q ∉ kl)→v.killAll kl = v
  | [],_,_=>rfl
  | o :: r,v,h=>by
    rw [V.killAll,kill_disj o v (fun ho=>h o ho (by simp)),oh r v fun q hq hr=>h q hq (by simp [hr])]
theorem rn {a b:List Nat} (h:SY a b = true):∀ x∈a,x ∉ b:=by
  intro x hx hb
  have:=List.all_eq_true.1 h x hx
  simp only [Bool.not_eq_true'] at this
  have:=List.any_eq_false.1 this x hb
  simp at this
theorem Ky {H H':am} {o k off n:Nat} (h:H.get o = H'.get o):Gv H o k off n = Gv H' o k off n:=by unfold Gv; rw [h]
theorem Nd {H:am} {vs:List V} {o:Nat} {cs:List V} (ho:o∈V.refss vs) (hb:H.get o = some (.box cs)) {q:Nat} (hq:q∈V.refss cs):q∈dE H vs :=
  List.mem_append_right _ (List.mem_flatMap.2 ⟨o,ho,by rw [hb]; exact hq⟩)
theorem MC {H:am} {vs:List V} {o:Nat} (ho:o∈V.refss vs):o∈dE H vs:=List.mem_append_left _ ho
theorem AF {H H':am}:∀ (os:List Nat),(∀ o∈os,H.get o = H'.get o)→eH os H = eH os H'
  | [],_=>rfl
  | o :: r,h=>by
    unfold eH
    rw [h o (by simp),AF r fun o ho=>h o (by simp [ho])]
structure kS (H H':am) (os:List Nat):Prop where
  one:∀ o∈os,H.get o = H'.get o
  two:∀ o∈os, ∀ cs,H.get o = some (.box cs)→∀ q∈V.refss cs,H.get q = H'.get q
theorem kS.sub {H H':am} {os os':List Nat} (h:kS H H' os) (hs:∀ o∈os',o∈os):kS H H' os':=⟨fun o ho=>h.one o (hs o ho),fun o ho=>h.two o (hs o ho)⟩
theorem AJ {H H':am} {vs:List V} (h:∀ o∈dE H vs,H.get o = H'.get o):kS H H' (V.refss vs) :=
  ⟨fun o ho=>h o (MC ho),fun o ho cs hb q hq=>h q (Nd ho hb hq)⟩
theorem pM {H H':am} {vs:List V} (h:kS H H' (V.refss vs)):dE H vs = dE H' vs:=by
  unfold dE
  congr 1
  have:∀ (l:List Nat),(∀ o∈l,H.get o = H'.get o)→l.flatMap (fun o=>match H.get o with | some (.box cs)=>V.refss cs | _=>[]) = l.flatMap (fun o=>match H'.get o with | some (.box cs)=>V.refss cs | _=>[]):=by
    intro l
    induction l with
    | nil=>intro _; rfl
    | cons x l ih =>
      intro hl
      rw [List.flatMap_cons,List.flatMap_cons,hl x (by simp),ih fun o ho=>hl o (by simp [ho])]
  exact this _ h.one
theorem M3 {H H':am} {vs:List V} (h:kS H H' (V.refss vs)) {o:Nat} (ho:o∈dE H vs):H.get o = H'.get o:=by
  unfold dE at ho
  rcases List.mem_append.1 ho with ho | ho
  · exact h.one o ho
  · obtain ⟨q,hq,ho⟩:=List.mem_flatMap.1 ho
    cases hg:H.get q with
    | none=>rw [hg] at ho; simp at ho
    | some b =>
      rw [hg] at ho
      cases b with
      | box cs=>exact h.two q hq cs hg o ho
      | row t k n el=>simp at ho
      | raw x=>simp at ho
theorem Ng {H H':am} {vs:List V} (h:kS H H' (V.refss vs)):xG H vs = xG H' vs:=by
  unfold xG
  rw [← pM h]
  have key:∀ l:List Nat,(∀ o∈l,H.get o = H'.get o)→(l.all fun o=>Oa (H.get o)) = (l.all fun o=>Oa (H'.get o))∧(l.flatMap fun o=>tL (H.get o)) = l.flatMap fun o=>tL (H'.get o):=by
    intro l
    induction l with
    | nil=>intro _; exact ⟨rfl,rfl⟩
    | cons x l ih =>
      intro h
      obtain ⟨i1,i2⟩:=ih fun o ho=>h o (by simp [ho])
      rw [List.all_cons,List.all_cons,List.flatMap_cons,List.flatMap_cons,h x (by simp),i1,i2]
      exact ⟨rfl,rfl⟩
  obtain ⟨k1,k2⟩:=key _ fun o ho=>M3 h ho
  rw [k1,k2]
theorem QO {H H':am} {v:V} (h:∀ o∈v.refs,H.get o = H'.get o):xv H v = xv H' v:=by
  cases v with
  | row o k off n=>simp only [xv,Ky (h o (by simp [V.refs]))]
  | _=>rfl
theorem TP {H H':am} {o k i j:Nat} (h:kS H H' [o]):Qp H o k i j = Qp H' o k i j:=by
  unfold Qp
  have h1:=h.one o (by simp)
  cases hg:H.get o with
  | none=>rw [← h1,hg]
  | some ob =>
    cases ob with
    | row t k' n el=>rw [← h1,hg]
    | raw x=>rw [← h1,hg]
    | box cs =>
      have:cs.map (xv H) = cs.map (xv H'):=List.map_congr_left fun v hv=>QO fun q hq=>by
        obtain ⟨i,hi⟩:=List.getElem?_of_mem hv
        exact h.two o (by simp) cs hg q (dx hi hq)
      rw [← h1,hg]
      simp only [this]
mutual
theorem view_agree {H H':am}:∀ (v:V),kS H H' v.refs→v.view H = v.view H'
  | .c .nil,_=>rfl
  | .c .unk,_=>rfl
  | .c (.lit _),_=>rfl
  | .c (.opt ..),_=>rfl
  | .c .any,_=>rfl
  | .c (.sl ..),_=>rfl
  | .agg vs,h=>by rw [V.view,V.view,views_agree vs h]
  | .tup vs,h=>by rw [V.view,V.view,views_agree vs h]
  | .ptr o k i j,h=>by rw [V.view,V.view]; exact TP h
  | .row o k off n,h=>by rw [V.view,V.view]; exact Ky (h.one o (by simp [V.refs]))
  | .dptr ..,_=>by rw [V.view,V.view]
  | .fn f vs,h=>by rw [V.view,V.view,views_agree vs h]
theorem views_agree {H H':am}:∀ (vs:List V),kS H H' (V.refss vs)→V.views H vs = V.views H' vs
  | [],_=>rfl
  | v :: r,h=>by
    rw [V.views,V.views,view_agree v (h.sub fun o ho=>by simp [V.refss,ho]),views_agree r (h.sub fun o ho=>by simp [V.refss,ho])]
end
theorem GV {nid:Nat} {t:TypeId} {len:Nat} {ps:List Nat}:∀ (fl:List Nat) (H H':am) (vs:List V),(∀ o∈fl,H.get o = H'.get o)→sL P nid t len ps fl H vs = sL P nid t len ps fl H' vs
  | [],_,_,_,_=>rfl
  | q :: fl,H,H',vs,h=>by
    rw [sL,sL, ← h q (by simp)]
    split
    · exact congrArg _ (GV fl _ _ _ fun o ho=>by simp only [am.get_cons,iv,h o (by simp [ho])])
    · rfl
theorem VJ {H H':am} {nid:Nat} {o:Oper} {vs:List V} (h:kS H H' (V.refss vs)):Ju P C H nid o vs = Ju P C H' nid o vs:=by
  unfold Ju
  split <;> try rfl
  · exact GV _ _ _ _ fun o ho=>h.one o ho
  · next t x a _ =>
    have key:∀ a,(∀ q∈a.refs,H.get q = H'.get q)→rZ P H t a = rZ P H' t a:=by
      intro a h
      unfold rZ
      cases a with
      | ptr q k i j=>simp only [h q (by simp [V.refs])]
      | _=>rfl
    unfold N5
    split
    · next f q k i j kk ix kn n=>simp only [h.one q (by simp [V.refss,V.refs])]
    · exact key _ fun q hq=>h.one q (by simp [V.refss,hq])
  · next t x y a b _ =>
    have key:∀ a,(∀ q∈a.refs,H.get q = H'.get q)→vS P H t a b = vS P H' t a b:=by
      intro a h
      unfold vS
      cases a with
      | ptr q k i j=>simp only [h q (by simp [V.refs])]
      | _=>rfl
    unfold KV
    split
    · next f q k i j kk ix kn n=>simp only [h.one q (by simp [V.refss,V.refs])]
    · exact key _ fun q hq=>h.one q (by simp [V.refss,hq])
  · next a b x d _ =>
    have hx:jX H d = jX H' d:=by
      unfold jX
      cases d with
      | row q k off n=>simp only [h.one q (by simp [V.refss,V.refs])]
      | c d=>cases d <;> rfl
      | _=>rfl
    unfold K9
    rw [hx]
  · next t x y a b _ =>
    have key:∀ u:Option TypeDesc,P.underlying t = u→pi P H t a b = pi P H' t a b:=by
      intro u hu
      unfold pi
      rw [hu]
      by_cases hb:∃ kk i,b = .c (.lit (.int kk i))
      · obtain ⟨kk,i,rfl⟩:=hb
        cases u with
        | none=>rfl
        | some d =>
          cases a with
          | ptr q k i j =>
            have hq:=h.one q (by simp [V.refss,V.refs])
            cases d <;> first | rfl | simp only [hq]
          | c a=>cases a <;> cases d <;> rfl
          | _=>cases d <;> rfl
      · split <;> first | rfl | exact (hb ⟨_,_,rfl⟩).elim | (split <;> first | rfl | exact (hb ⟨_,_,rfl⟩).elim)
    exact key _ rfl
  · next x a _ =>
    unfold N4
    cases a with
    | ptr q k i j=>simp only [h.one q (by simp [V.refss,V.refs])]
    | _=>rfl
  · next args ats x _ =>
    have hc:∀ t,vt P H t x = vt P H' t x:=by
      intro t
      have key:∀ u:Option TypeDesc,P.underlying t = u→vt P H t x = vt P H' t x:=by
        intro u hu
        unfold vt
        rw [hu]
        cases u with
        | none=>rfl
        | some d =>
          cases x with
          | row q k off n =>
            have hq:=h.one q (by simp [V.refss,V.refs])
            cases d <;> first | rfl | simp only [hq]
          | _=>cases d <;> rfl
      exact key _ rfl
    simp only [hc]
  · next args ats s x _ =>
    have hx:jX H x = jX H' x:=by
      unfold jX
      cases x with
      | row q k off n=>simp only [h.one q (by simp [V.refss,V.refs])]
      | c d=>cases d <;> rfl
      | _=>rfl
    have ha:∀ t,xJ P H nid t s x = xJ P H' nid t s x:=by
      intro t
      unfold xJ
      rw [hx]
      cases s with
      | row q k off n=>simp only [h.one q (by simp [V.refss,V.refs])]
      | c d=>cases d <;> rfl
      | _=>rfl
    simp only [ha]
  · next f args ats g caps ds _ =>
    unfold N1
    have hag:kS H H' (V.refss (ds++caps)):=by
      refine h.sub fun q hq=>?_
      have:∀ (l1 l2:List V),q∈V.refss (l1++l2)→q∈V.refss l1∨q∈V.refss l2:=by
        intro l1 l2
        induction l1 with
        | nil=>intro h; exact .inr h
        | cons x l ih =>
          intro h
          simp only [List.cons_append,V.refss,List.mem_append] at h ⊢
          rcases h with h | h
          · exact .inl (.inl h)
          · exact (ih h).imp .inr id
      simp only [V.refss,V.refs,List.mem_append]
      exact (this _ _ hq).symm
    have hr:eH (dE H (ds++caps)) H = eH (dE H' (ds++caps)) H':=by
      rw [← pM hag]
      refine AF _ fun o ho=>?_
      rcases List.mem_append.1 ho with ho | ho
      · exact hag.one o ho
      · obtain ⟨q,hq,ho⟩:=List.mem_flatMap.1 ho
        cases hg:H.get q with
        | none=>rw [hg] at ho; simp at ho
        | some b =>
          cases b with
          | box cs=>rw [hg] at ho; exact hag.two q hq cs hg o ho
          | row t k n el=>rw [hg] at ho; simp at ho
          | raw x=>rw [hg] at ho; simp at ho
    rw [views_agree _ hag,hr]
end
end Go.Ax
namespace Go.Ax
open Go.RowKit
section
variable {P:Program} {N:Nat} {B:j5} {σ σ':St} {E:br} {a:Act} {w:World} {C:FuncId→Option CC} {all:List Oper}
def fY:List Nat→Option Ob→Option Ob
  | [],b=>b
  | o :: r,b=>fY r (vv o b)
theorem GB:∀ (kl:List Nat) (H:am) (q:Nat),am.get (gX kl H) q = fY kl (am.get H q)
  | [],H,q=>rfl
  | o :: r,H,q=>by
    have h1:=iv o H q
    rw [gX,GB r,fY]
    simp only [gX] at h1
    rw [h1]
theorem DK:∀ (A H:am) (q:Nat),am.get (A++H) q = if q∈hT A then am.get A q else am.get H q
  | [],H,q=>by simp [hT]
  | (p,b) :: A,H,q=>by
    rw [List.cons_append,am.get_cons,am.get_cons,DK A H q]
    by_cases h:p = q
    · subst h; simp [hT]
    · simp only [if_neg h,hT,List.map_cons,List.mem_cons]
      have:¬ q = p:=fun e=>h e.symm
      simp only [this,false_or]
      rfl
theorem kh (r:fw) (q:Nat):am.get (after σ r).hp q = if q∈hT r.res.eff then am.get r.res.eff q else fY r.res.kill (am.get σ.hp q):=by
  rw [after,DK,GB]
def ta (dst:Option Nat) (s:bz):bz:=match dst with | some d=>bif s.ch.any (fun y=>Nat.beq y.1 d) then ⟨[], .c .unk⟩ else s | none=>s
theorem kw (r:fw) (t:Nat):bv (after σ r).tm t = if r.dst = some t then some ⟨r.ch,r.res.val⟩ else (bv σ.tm t).map fun s=>ta r.dst ⟨s.ch,s.v.killAll r.res.kill⟩:=by
  unfold after ta
  cases hd:r.dst with
  | none=>simp only [reduceCtorEq,if_false]; rw [oP]
  | some d =>
    simp only [Option.some.injEq]
    rw [ou]
    split
    · rfl
    · rw [yi,oP]
      cases bv σ.tm t <;> rfl
theorem D5 {d:Option Nat} {t:Nat}:t∈pI d↔d = some t:=by
  cases d with
  | none=>simp [pI]
  | some x=>simp [pI,eq_comm]
theorem Vs {r:fw} {t:Nat} {s:bz} (h:bv (after σ r).tm t = some s) (ht:t ∉ pI r.dst) (hn:s.v.noUnk = true):bv σ.tm t = some s:=by
  rw [kw,if_neg (fun e=>ht (D5.2 e))] at h
  cases hx:bv σ.tm t with
  | none=>rw [hx] at h; cases h
  | some y =>
    rw [hx] at h
    simp only [Option.map_some,Option.some.injEq] at h
    have:ta r.dst ⟨y.ch,y.v.killAll r.res.kill⟩ = ⟨y.ch,y.v.killAll r.res.kill⟩:=by
      unfold ta
      cases hd:r.dst with
      | none=>rfl
      | some d =>
        simp only
        cases hc:y.ch.any (fun z=>Nat.beq z.1 d) with
        | false=>rfl
        | true =>
          simp only [ta,hd,hc,cond_true] at h
          subst h
          simp [V.noUnk] at hn
    rw [this] at h
    subst h
    have:=wu _ _ hn
    obtain ⟨ych,yv⟩:=y
    simp only at this ⊢
    rw [this]
theorem SI {r:fw} {t:Nat} {s:bz} (h:bv σ.tm t = some s) (ht:t ∉ pI r.dst) (hk:∀ q∈s.v.refs,q ∉ r.res.kill) (hc:∀ x∈s.ch,x.1 ∉ pI r.dst):bv (after σ r).tm t = some s:=by
  rw [kw,if_neg (fun e=>ht (D5.2 e)),h]
  simp only [Option.map_some,Option.some.injEq]
  have e1:s.v.killAll r.res.kill = s.v:=oh _ _ hk
  rw [e1]
  unfold ta
  cases hd:r.dst with
  | none=>rfl
  | some d =>
    simp only
    have:s.ch.any (fun z=>Nat.beq z.1 d) = false:=by
      refine List.any_eq_false.2 fun x hx=>?_
      have:=hc x hx
      rw [hd] at this
      intro hb
      exact this (by simp [pI,Nat.eq_of_beq_eq_true hb])
    rw [this]
    rfl
theorem me:∀ {xs:List Operand} {t:Nat},t∈p7 xs↔Operand.tmp t∈xs
  | [],t=>by simp [p7]
  | .tmp q :: r,t=>by simp [p7,me (xs:=r)]
  | .const v :: r,t=>by simp [p7,me (xs:=r)]
  | .global g :: r,t=>by simp [p7,me (xs:=r)]
  | .func f :: r,t=>by simp [p7,me (xs:=r)]
theorem vX {c ch:cJ} (h:xf c ch = true):∀ x∈c,x.1∈ch.map (·.1):=by
  intro x hx
  have:=List.all_eq_true.1 h x hx
  unfold Xp at this
  obtain ⟨y,hy,hyx⟩:=List.any_eq_true.1 this
  simp only [Bool.and_eq_true,Nat.beq_eq] at hyx
  rw [hyx.1]
  exact List.mem_map.2 ⟨y,hy,rfl⟩
theorem K7:∀ {vs:List V} {v:V},V.noUnks vs = true→v∈vs→v.noUnk = true
  | x :: r,v,h,hv=>by
    simp only [V.noUnks,Bool.and_eq_true] at h
    rcases List.mem_cons.1 hv with rfl | hv
    · exact h.1
    · exact K7 h.2 hv
theorem zz {ch:cJ} {t:Nat} {v:V} (h:gj σ ch (.tmp t) = some v):∃ s,bv σ.tm t = some s∧xf s.ch ch = true∧s.v = v:=by
  unfold gj at h
  cases hl:Nat.blt t 1000000 with
  | false=>simp [hl] at h
  | true =>
    simp only [hl,cond_true] at h
    split at h
    · next s hg =>
      cases hc:xf s.ch ch with
      | false=>simp [hc] at h
      | true=>simp only [hc,cond_true,Option.some.injEq] at h; exact ⟨s,hg,hc,h⟩
    · cases h
theorem KK {ch:cJ}:∀ {xs:List Operand} {vs:List V},sN σ ch xs = some vs→∀ x∈xs, ∃ v∈vs,gj σ ch x = some v
  | [],vs,h,x,hx=>by simp at hx
  | y :: xs,vs,h,x,hx=>by
    unfold sN at h
    rw [List.mapM_cons] at h
    simp only [Option.bind_eq_bind,Option.pure_def,Option.bind_eq_some_iff,Option.some.injEq] at h
    obtain ⟨d,hd,ds,hds,rfl⟩:=h
    rcases List.mem_cons.1 hx with rfl | hx
    · exact ⟨d,by simp,hd⟩
    · obtain ⟨v,hv,h⟩:=KK (xs:=xs) hds x hx
      exact ⟨v,by simp [hv],h⟩
theorem QU {ch:cJ} {c x y:Operand} {v:V} (h:uE σ ch c x y = some v) :
    ∃ b p q:Bool,gj σ ch c = some (bl b)∧gj σ (D2 c true ch) x = some (bl p)∧gj σ (D2 c false ch) y = some (bl q)∧v = bl (bif b then p else q):=by
  unfold uE at h
  split at h
  · next b hc =>
    split at h
    · next p q hx hy=>cases h; exact ⟨b,p,q,hc,hx,hy,rfl⟩
    · cases h
  · cases h
theorem ML {c:Operand} {wt:Bool} {ch:cJ} {i:Nat} (h:i∈(D2 c wt ch).map (·.1)):i∈ch.map (·.1)∨c = .tmp i:=by
  unfold D2 at h
  split at h
  · simp only [List.map_cons,List.mem_cons] at h
    rcases h with rfl | h
    · exact .inr rfl
    · exact .inl h
  · exact .inl h
theorem MP {nid:Nat} {o:Oper} {rc:fw} (h:recOf P C N all σ nid o = some rc) (hn:V.noUnks rc.vs = true) {t:Nat} (ht:t∈rc.rds) :
    ∃ s,bv σ.tm t = some s∧s.v.noUnk = true∧(∀ x∈s.ch,x.1∈rc.rds)∧∀ q∈s.v.refs,q∈V.refss rc.vs:=by
  obtain ⟨hd,hch,hb,hr,hc,e1,e2,e3,e4,e5⟩:=ji h
  have hids:∀ i,i∈rc.ch.map (·.1)→i∈rc.rds:=fun i hi=>by rw [e3]; exact List.mem_append_right _ hi
  have hbool:∀ {s:bz} {b:Bool},s.v = bl b→s.v.noUnk = true∧∀ q∈s.v.refs,q∈V.refss rc.vs:=by
    intro s b e; rw [e]; exact ⟨rfl,fun q hq=>by simp [V.refs] at hq⟩
  rw [e3,List.mem_append] at ht
  rcases ht with ht | ht
  · have hto:=me.1 ht
    unfold B1 at hr
    split at hr
    · next c x y ho =>
      cases hv:uE σ rc.ch c x y with
      | none=>simp [hv] at hr
      | some v =>
        obtain ⟨b,p,q,h1,h2,h3,_⟩:=QU hv
        have hcr:∀ i,c = .tmp i→i∈rc.rds:=fun i hi=>by rw [e3,ho]; exact List.mem_append_left _ (me.2 (by simp [jf,Op.operands,hi]))
        rw [ho] at hto
        have hto':Operand.tmp t = c∨Operand.tmp t = x∨Operand.tmp t = y:=by simpa [jf,Op.operands] using hto
        rcases hto' with rfl | rfl | rfl
        · obtain ⟨s,g1,g2,g3⟩:=zz h1
          exact ⟨s,g1,(hbool g3).1,fun z hz=>hids _ (vX g2 z hz),(hbool g3).2⟩
        · obtain ⟨s,g1,g2,g3⟩:=zz h2
          exact ⟨s,g1,(hbool g3).1,fun z hz=>(ML (vX g2 z hz)).elim (hids _) (hcr _),(hbool g3).2⟩
        · obtain ⟨s,g1,g2,g3⟩:=zz h3
          exact ⟨s,g1,(hbool g3).1,fun z hz=>(ML (vX g2 z hz)).elim (hids _) (hcr _),(hbool g3).2⟩
    · next op hnp =>
      split at hr
      · next vs hvs =>
        cases hov:Ju P C σ.hp nid o vs with
        | none=>simp [hov] at hr
        | some r =>
          simp only [hov,Option.map_some,Option.some.injEq,Prod.mk.injEq] at hr
          obtain ⟨rfl,_⟩:=hr
          obtain ⟨v,hv,hov'⟩:=KK hvs _ hto
          obtain ⟨s,g1,g2,rfl⟩:=zz hov'
          refine ⟨s,g1,K7 hn hv,fun z hz=>hids _ (vX g2 z hz),fun q hq=>?_⟩
          obtain ⟨i,hi⟩:=List.getElem?_of_mem hv
          exact dx hi hq
      · cases hr
  · obtain ⟨x,hx,rfl⟩:=List.mem_map.1 ht
    have hg:=List.all_eq_true.1 hb x hx
    unfold lA at hg
    split at hg
    · next s hs =>
      simp only [Bool.and_eq_true] at hg
      have:∃ b,s.v = bl b:=by
        have:=hg.1
        unfold V.isBool at this
        split at this
        · next b e=>exact ⟨b,e⟩
        · cases this
      obtain ⟨b,hbv⟩:=this
      exact ⟨s,hs,(hbool hbv).1,fun z hz=>hids _ (vX hg.2 z hz),(hbool hbv).2⟩
    · cases hg
theorem AE {nid:Nat} {o:Oper} {rc:fw} (h:recOf P C N all σ nid o = some rc) (hA:∀ t∈rc.rds,bv σ'.tm t = bv σ.tm t) (hB:kS σ.hp σ'.hp (V.refss rc.vs)) :
    recOf P C N all σ' nid o = some rc∧holds σ'.tm rc.ch = holds σ.tm rc.ch:=by
  obtain ⟨hd,hch,hb,hr,hc,e1,e2,e3,e4,e5⟩:=ji h
  have hid:∀ x∈rc.ch,bv σ'.tm x.1 = bv σ.tm x.1:=fun x hx=>hA _ (by rw [e3]; exact List.mem_append_right _ (List.mem_map.2 ⟨x,hx,rfl⟩))
  have hop:∀ (x:Operand),x∈jf o.op→∀ ch,gj σ' ch x = gj σ ch x:=by
    intro x hx ch
    cases x with
    | tmp t=>unfold gj; simp only [hA t (by rw [e3]; exact List.mem_append_left _ (me.2 hx))]
    | _=>rfl
  have g1:jx all σ'.tm o.guard = some rc.ch:=by
    have hch':=hch
    unfold jx at hch ⊢
    split at hch
    · exact hch
    · next j wt _ =>
      split at hch
      · next oj hj =>
        split at hch
        · next t ht =>
          cases hl:Nat.blt t 1000000 with
          | false=>simp [hl] at hch
          | true =>
            simp only [hl,cond_true] at hch ⊢
            split at hch
            · next ch' b hg =>
              simp only [Option.some.injEq] at hch
              have:=hid (t,wt) (by rw [← hch]; simp)
              rw [this,hg]
              simp only [hch]
            · cases hch
        · cases hch
      · cases hch
  have g2:rc.ch.all (fun x=>lA σ'.tm rc.ch x.1) = true:=by
    refine List.all_eq_true.2 fun x hx=>?_
    have:=List.all_eq_true.1 hb x hx
    unfold lA at this ⊢
    rw [hid x hx]
    exact this
  have g3:B1 P C σ' nid rc.ch o = some (rc.vs,rc.res):=by
    rw [← hr]
    unfold B1 at hr ⊢
    split
    · next c x y ho =>
      rw [ho] at hop
      have:uE σ' rc.ch c x y = uE σ rc.ch c x y:=by
        unfold uE
        rw [hop c (by simp [jf,Op.operands]),hop x (by simp [jf,Op.operands]),hop y (by simp [jf,Op.operands])]
      rw [this]
    · next op hnp =>
      have:∀ (xs:List Operand),(∀ x∈xs,x∈jf o.op)→sN σ' rc.ch xs = sN σ rc.ch xs:=by
        intro xs
        induction xs with
        | nil=>intro _; rfl
        | cons x l ih =>
          intro hx
          unfold sN at ih ⊢
          rw [List.mapM_cons,List.mapM_cons,hop x (hx x (by simp)),ih fun z hz=>hx z (by simp [hz])]
      rw [this _ fun x hx=>hx]
      split at hr
      · next c x y ho=>exact (hnp c x y ho).elim
      · split at hr
        · next vs hvs =>
          cases hov:Ju P C σ.hp nid o vs with
          | none=>simp [hov] at hr
          | some r =>
            simp only [hov,Option.map_some,Option.some.injEq,Prod.mk.injEq] at hr
            obtain ⟨rfl,_⟩:=hr
            rw [← VJ hB,hov]
        · cases hr
  have hreach:dE σ'.hp rc.vs = rc.reach:=by rw [e4]; exact (pM hB).symm
  have hrows:xG σ'.hp rc.vs = rc.rws:=by rw [e5]; exact (Ng hB).symm
  refine ⟨?_,mT _ fun x hx=>by rw [hid x hx]⟩
  unfold recOf
  rw [hd,cond_true,g1]
  simp only
  rw [g2,cond_true,g3]
  simp only
  rw [hc,cond_true,hreach,hrows]
  rw [← e1, ← e2, ← e3]
end
end Go.Ax
