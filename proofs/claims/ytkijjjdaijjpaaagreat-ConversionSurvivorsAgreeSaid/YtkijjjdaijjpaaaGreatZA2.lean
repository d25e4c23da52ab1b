import Derived.Test.YtkijjjdaijjpaaaGreatZA1
import Derived.Laws.BytesString
import Derived.Laws.RangeString
set_option linter.all false
/- Walks over strings, bytes as strings, parts that are cleared. -/
namespace Go.Ax
open Go.RowKit
section
variable {P : Program} {ρ : Operand → Value} {E : bm} {w w' : World} {o : Oper} {r : dE} {H : az} {nid : Nat}
def aj2 (ok : Nat → Prop) : bm := ⟨fun _ => none,fun _ => 0,fun _ => 0,fun _ => False,ok⟩
theorem aaI (hH : bC E w H) (hf : ¬ E.live nid) (x : Obj) (he : r.eff = [(nid,some (.raw x))]) (hk : r.kill = []) {v' : Value}
    (hv : ∀ (E' : bm) (w' : World),E'.live nid → E'.conc nid = some w.heap.size → E'.len nid = 1 → aJ E' w' v' r.val) :
    iB E w H nid r (E.next nid (some w.heap.size) 0 1 E.ok) (w.alloc x) v' := by
  have hb : Below w.heap.size w (w.alloc x) := (Below.refl _ _).alloc (Nat.le_refl _) _
  have hcc : ∀ b,some w.heap.size = some b → w.heap.size ≤ b ∧ b < (w.alloc x).heap.size ∧ ¬ E.ok b := by
    intro b e; cases e
    exact ⟨Nat.le_refl _,by simp,fun h => by have := hH.oklt _ h; omega⟩
  have hS : jz E w [] (E.next nid (some w.heap.size) 0 1 E.ok) (w.alloc x) := iv hf _ 0 1 E.ok hb (fun b h => (hcc b h).1) (fun _ h => h) (fun _ h => .inl h)
  have hN := iZ (cap := 0) (len := 1) hf hH hb hcc (fun _ h => h) (fun _ h => .inl h) (fun b h => by have := hH.oklt b h; simp; omega)
  have e1 : (E.next nid (some w.heap.size) 0 1 E.ok).conc nid = some w.heap.size := by simp [bm.next]
  have e3 : (E.next nid (some w.heap.size) 0 1 E.ok).len nid = 1 := by simp [bm.next]
  refine ⟨by rw [hk]; exact hS, ?_,hv _ _ (.inl rfl) e1 e3,eV⟩
  rw [he,hk]
  exact rR hN (.inl rfl) ⟨e3,_,e1,heap_alloc_new w _⟩
def lk (w : World) (b : Nat) (x : Obj) : World := { w with heap := w.heap.setIfInBounds b x }
theorem K6 {w : World} {b : Nat} (x : Obj) (h : b < w.heap.size) : (lk w b x).heap[b]? = some x := by
  simp [lk,h]
theorem Id {w : World} {b b' : Nat} (x : Obj) (h : b ≠ b') : (lk w b x).heap[b']? = w.heap[b']? := by
  simp [lk,Array.getElem?_setIfInBounds,h]
theorem MY (hH : bC E w H) (hf : ¬ E.live nid) {q b : Nat} (hq : E.live q) (hb : E.conc q = some b) (x : Obj) {ob : Ob} (he : r.eff = [(q,some ob)]) (hk : r.kill = [])
    (hob : ∀ (E' : bm),E'.conc q = some b → E'.cap q = E.cap q → E'.len q = E.len q → (∀ v d,aJ E w v d → aJ E' (lk w b x) v d) → (∀ v d,cl E.ok w v d → cl E'.ok (lk w b x) v d) → my E' (lk w b x) q ob)
    {v' : Value} (hv : ∀ (E' : bm) (w' : World),aJ E' w' v' r.val) : iB E w H nid r (E.next nid none 0 0 E.ok) (lk w b x) v' := by
  have hS : jz E w [] (E.next nid none 0 0 E.ok) (lk w b x) := by
    refine ⟨rfl,rfl,rfl,by simp [lk],fun _ h => .inr h,fun b' hlt hno => Id x (fun e => hno q hq (by rw [hb,e])),fun _ h => h,fun _ h => .inl h,fun q hq _ => jB hf hq,fun q b' hq h' => ?_⟩
    rcases jC hq h' with ⟨_,h1,h2⟩ | ⟨_,h2⟩
    · exact .inl ⟨_,h1,h2⟩
    · cases h2
  have hr : ∀ v d,aJ E w v d → aJ (E.next nid none 0 0 E.ok) (lk w b x) v d := fun v d h => lN hH hS h
  have hd : ∀ v d,cl E.ok w v d → cl (E.next nid none 0 0 E.ok).ok (lk w b x) v d := fun v d h => oQ hH hS h
  have hcase : ∀ q b,(E.next nid none 0 0 E.ok).live q → (E.next nid none 0 0 E.ok).conc q = some b → E.live q ∧ E.conc q = some b := by
    intro q b hq h
    rcases jC hq h with ⟨_,h1,h2⟩ | ⟨_,h2⟩
    · exact ⟨h1,h2⟩
    · cases h2
  refine ⟨by rw [hk]; exact hS, ?_,hv _ _,eV⟩
  rw [he,hk]
  refine ⟨fun q' y hq' => ?_,fun q' q2 b' h1 h2 h h' => ?_,fun q' b' h1 h => ?_,fun q' b' h1 h => ?_,fun b' h => by simp [lk]; exact hH.oklt b' h⟩
  · rw [List.cons_append,List.nil_append,az.get_cons] at hq'
    split at hq'
    · next e =>
      subst e; cases hq'
      obtain ⟨c1,c2,c3⟩ := jB (c := none) (cap := 0) (len := 0) (ok' := E.ok) hf hq
      exact ⟨.inr hq,hob _ (c1.trans hb) c2 c3 hr hd⟩
    · next hne =>
      obtain ⟨h1,h2⟩ := hH.at_ q' y hq'
      refine ⟨.inr h1,rW h2 (jB hf h1) (fun b' hb' => Id x fun e => ?_) hr hd⟩
      subst e
      exact hne (hH.inj _ _ _ hq h1 hb hb')
  · obtain ⟨a1,a2⟩ := hcase q' b' h1 h
    obtain ⟨b1,b2⟩ := hcase q2 b' h2 h'
    exact hH.inj q' q2 b' a1 b1 a2 b2
  · obtain ⟨a1,a2⟩ := hcase q' b' h1 h
    exact hH.sep q' b' a1 a2
  · obtain ⟨a1,a2⟩ := hcase q' b' h1 h
    simp [lk]; exact hH.lt q' b' a1 a2
theorem PS (hH : bC E w H) (hf : ¬ E.live nid) {t : TypeId} {x : Operand} (ho : o.op = .range t x) {vx : V} (hx : aJ E w (ρ x) vx) (h : N9 P nid t vx = some r) :
    ∃ E' w' v',(execOp ρ o).run P w = .ok (.value v') w' ∧ iB E w H nid r E' w' v' := by
  unfold N9 at h
  split at h
  · next s hu =>
    cases h
    have ex := hx.lit_inv
    refine ⟨_,w.alloc (.stringIter s 0), .pointer (some ⟨w.heap.size,0,none⟩), ?_,aaI hH hf (.stringIter s 0) rfl rfl fun E' w' h1 h2 h3 => ?_⟩
    · have := run_range_string (P := P) w t s hu
      simp only [execOp,ho,ex,Sem.run_bind,this,Result.andThen_ok]
      rfl
    · have := aJ.ptr (E := E') (w := w') nid 1 0 0 w.heap.size h1 h2 (by omega)
      simpa using this
  · cases h
theorem SL (hH : bC E w H) (hf : ¬ E.live nid) {x : Operand} (ho : o.op = .next x true) {vx : V} (hx : aJ E w (ρ x) vx) (h : Ml H vx = some r) :
    ∃ E' w' v',(execOp ρ o).run P w = .ok (.value v') w' ∧ iB E w H nid r E' w' v' := by
  unfold Ml at h
  split at h
  · next q k i j =>
    split at h
    · next s pos hg =>
      cases hb0 : Nat.beq (i * k + j) 0 with
      | false => simp [hb0] at h
      | true =>
        simp only [hb0,cond_true,Option.some.injEq] at h
        have h0 := Nat.eq_of_beq_eq_true hb0
        obtain ⟨hl,hlen,b,hb,hh⟩ := hH.at_ _ _ hg
        have ex : ρ x = .pointer (some ⟨b,0,none⟩) := by
          generalize ρ x = v at hx
          cases hx with
          | ptr _ _ _ _ b' g1 g2 g3 => rw [hb] at g2; cases g2; rw [h0]
        subst h
        have hlt := mB hh
        refine ⟨_,lk w b (.stringIter s (bif Nat.blt pos s.size then pos + lX s pos else pos)),IW (Nat.blt pos s.size) [.int .i64 pos, .int .i32 (lI s pos)], ?_,
          MY hH hf hl hb _ (ob := .raw (.stringIter s (bif Nat.blt pos s.size then pos + lX s pos else pos))) rfl rfl (fun E' h1 h2 h3 _ _ => ⟨h3.trans hlen,b,h1,K6 _ hlt⟩) fun E' w' => .c _ _ (.opt _ _)⟩
        by_cases hp : pos < s.size
        · have hp' : Nat.blt pos s.size = true := by simpa using hp
          have : (Instr.next (.pointer (some ⟨b,0,none⟩)) true o.type).run P w = .ok (.tuple #[.bool true, .int .i64 pos, .int .i32 (lI s pos)]) (lk w b (.stringIter s (pos + lX s pos))) := by
            simp [Instr.next,getObj,setObj,Sem.run,hh,hp,goInt,lI,lX,lk]
          rw [hp']
          simp only [execOp,ho,ex,Sem.run_bind,this,Result.andThen_ok]
          rfl
        · have hp' : Nat.blt pos s.size = false := by
            cases hc : Nat.blt pos s.size with
            | false => rfl
            | true => rw [Nat.blt_eq] at hc; exact (hp hc).elim
          have hw : lk w b (.stringIter s pos) = w := by
            unfold lk
            congr 1
            apply Array.ext_getElem?
            intro i
            by_cases e : b = i
            · subst e; rw [Array.getElem?_setIfInBounds,if_pos rfl,if_pos hlt,hh]
            · rw [Array.getElem?_setIfInBounds,if_neg e]
          have : (Instr.next (.pointer (some ⟨b,0,none⟩)) true o.type).run P w = .ok (.tuple #[.bool false]) w := by
            simp [Instr.next,getObj,Sem.run,hh,hp]
          rw [hp']
          simp only [execOp,ho,ex,Sem.run_bind,this,Result.andThen_ok,cond_false,hw]
          rfl
    · cases h
  · cases h
theorem GC : ∀ (ns : List Int) (s : ByteArray),ns.foldl (fun r n => r.push (UInt8.ofNat n.toNat)) s = ⟨s.data ++ (ns.map fun x => UInt8.ofNat x.toNat).toArray⟩
  | [],s => by simp
  | n :: ns,s => by
    rw [List.foldl_cons,GC ns]
    congr 1
    simp [ByteArray.push]
theorem OK (hH : bC E w H) {s d e : TypeId} (hs : P.underlying s = some (.slice e)) (hd : P.underlying d = some .string) (he : P.underlying e = some (.int .u8)) {x : Operand} (ho : o.op = .convert s d x) {vx : V} (hx : aJ E w (ρ x) vx)
    (h : I8 H vx = some r) (hp : ∀ p ∈ r.pre,p) : oq P ρ o E w r := by
  unfold I8 at h
  split at h
  · next k n el ha =>
    cases h
    have p1 : 0 < n → k = 1 := hp _ (by simp)
    have p2 : ∀ i,i < n → el i = fX (cQ (el i)) := hp _ (by simp)
    obtain ⟨news,hsrc⟩ := EX hH hx ha
    obtain ⟨a,c,ev,hc,hm,hcell⟩ := hsrc.form
    refine ⟨rfl,rfl,_, ?_, .lit _⟩
    have key : (Conv.bytesToString (ρ x)).run P w = .ok (.string (nH (lst cQ n el))) w := by
      rw [ev]
      cases n with
      | zero =>
        have hl : lst cQ 0 el = [] := rfl
        rw [hl]
        cases a with
        | none => rfl
        | some ad =>
          have := run_bytesToString (P := P) w ad 0 c [] (by have := run_loadCells (P := P) w ad 0 (fun _ => undef) (fun j hj => by omega); simpa using this)
          rw [this]; rfl
      | succ n =>
        obtain ⟨ad,rfl,hcl⟩ := hcell (by omega)
        have hk := p1 (by omega)
        subst hk
        have hlen := hsrc.len
        have hnews : news = (lst cQ (n + 1) el).map (Value.int .u8) := by
          refine List.ext_getElem? fun i => ?_
          by_cases hi : i < n + 1
          · have h1 : i < news.length := by rw [hlen]; omega
            have hr := hsrc.rep i 0 (.lit (.int .u8 (cQ (el i)))) (news[i]) hi (by rw [p2 i hi]; rfl) (by rw [Nat.mul_one,Nat.add_zero]; exact List.getElem?_eq_getElem h1)
            rw [List.getElem?_eq_getElem h1,List.getElem?_map]
            unfold lst
            rw [List.getElem?_map,List.getElem?_range hi]
            simp only [Option.map_some,Option.some.injEq]
            generalize news[i] = z at hr
            generalize cQ (el i) = y at hr
            cases hr with
            | lit => rfl
          · rw [List.getElem?_eq_none (by rw [hlen]; omega),List.getElem?_eq_none (by simp [lst]; omega)]
        have hload : (loadCells ad (n + 1)).run P w = .ok ((lst cQ (n + 1) el).map (Value.int .u8)).toArray w := by
          have := run_loadCells_list (P := P) w ad news (fun j v hv => hcl j v hv)
          rw [hlen,Nat.mul_one] at this
          rw [this,hnews]
        rw [run_bytesToString w ad (n + 1) c _ hload,GC]
        simp [nH]
    rw [ev] at key
    simp [execOp,ho,ev,convert,run_underlying hs,run_underlying hd,run_underlying he,key]
  · cases h
theorem OA {e : TypeId} {z : List D} (h : uP P e = some z) : ∃ (i : TypeInfo) (v : Value),P.info? e = some i ∧ i.zero = some v ∧ v.cells.size = z.length ∧ (∀ u ∈ v.cells.toList,u.oneCell' = true) ∧
    ∀ (ok : Nat → Prop) (w : World) (j : Nat) (d : D) (u : Value),z[j]? = some d → v.cells[j]? = some u → cl ok w u d := by
  have h0 := h
  unfold uP at h0
  split at h0
  · next zv hzv =>
    obtain ⟨i,v,h1,h2,h3,h4⟩ := rA hzv
    obtain ⟨i',v',g1,g2,g3,g4,g5⟩ := KY h
    rw [h1] at g1; cases g1
    rw [h2] at g2; cases g2
    refine ⟨i,v,h1,h2,g3,MR v h3 h4 (zl h0),fun ok w j d u hd hu => ?_⟩
    have := (eR (E := aj2 ok) (w := w) v h4).2 j u (.c d) (by rw [Array.getElem?_toList]; exact hu) (g4 j d hd)
    cases this with
    | c _ _ h => exact h
  · cases h0
theorem RF (hH : bC E w H) (hf : ¬ E.live nid) {c : Call} (ho : o.op = .call c) (hcal : c.callee = .builtin .clear) {x : Operand} (hargs : c.args = #[x]) {t : TypeId} (hat : c.argTypes[0]? = some t) {vx : V} (hx : aJ E w (ρ x) vx)
    (h : vw P H t vx = some r) : ∃ E' w' v',(execOp ρ o).run P w = .ok (.value v') w' ∧ iB E w H nid r E' w' v' := by
  have run : ∀ w',(Builtin.clear_ c.argTypes o.type #[ρ x]).run P w = .ok (.tuple #[]) w' → (execOp ρ o).run P w = .ok (.value (.tuple #[])) w' := by
    intro w' hn
    simp [execOp,ho,resolve,hcal,hargs,invoke,builtin,hn]
  unfold vw at h
  split at h
  · next e q k off n hu =>
    split at h
    · next e' k' m el z hg hz =>
      cases hs : (Nat.beq e' e && Nat.beq k' k && Nat.beq k (sz P e) && Nat.beq z.length k && Nat.blt 0 k && lB P e) with
      | false => simp [hs] at h
      | true =>
        simp only [hs,cond_true,Option.some.injEq] at h
        simp only [Bool.and_eq_true,Nat.beq_eq,Nat.blt_eq] at hs
        obtain ⟨⟨⟨⟨⟨rfl,rfl⟩,hk1⟩,hk2⟩,hk0⟩,hkn⟩ := hs
        obtain ⟨hl,hob⟩ := hH.at_ _ _ hg
        obtain ⟨i,zv,z1,z2,z3,z4,z5⟩ := OA hz
        subst h
        generalize hv : ρ x = v at hx run
        cases hx with
        | row _ _ _ _ a cp hn hc hm hle ha h0 =>
        have hlen : off + n ≤ m := by rw [← hob.1]; exact hle
        by_cases hn0 : n = 0
        · subst hn0
          have hel : (fun q => bif Nat.ble off q && Nat.blt q (off + 0) then z else el q) = el := by
            funext q
            have : (Nat.ble off q && Nat.blt q (off + 0)) = false := by
              cases hc : (Nat.ble off q && Nat.blt q (off + 0)) with
              | false => rfl
              | true => rw [Bool.and_eq_true,Nat.ble_eq,Nat.blt_eq] at hc; omega
            rw [this]; rfl
          rw [hel]
          have hS : jz E w [] (E.next nid none 0 0 E.ok) w := iv hf none 0 0 E.ok (.refl _ _) (by simp) (fun _ h => h) (fun _ h => .inl h)
          have hN : bC (E.next nid none 0 0 E.ok) w H := iZ hf hH (.refl _ _) (by simp) (fun _ h => h) (fun _ h => .inl h) hH.oklt
          refine ⟨_,w, .tuple #[],run w ?_,hS, ?_, .c _ _ (.unk _),eV⟩
          · cases a <;> simp [Builtin.clear_,hat,run_underlying hu]
          · exact rR hN (hN.at_ _ _ hg).1 (hN.at_ _ _ hg).2
        · obtain ⟨b,hb,rfl⟩ := ha (by omega)
          obtain ⟨hlen2,hrow⟩ := hob
          obtain ⟨b',C,c1,c2,c3,c4,c5,c6,c7,c8⟩ := hrow.resolve_left (fun h => by rw [hb] at h; cases h.1)
          rw [hb] at c1; cases c1
          have hfit : off * k' + n * k' ≤ C.size := by
            rw [c3, ← Nat.add_mul]
            exact Nat.mul_le_mul_right _ (by omega)
          have hzl : (Builtin.zeroCells zv.cells n).toList.length = n * k' := by simp [Builtin.zeroCells,z3,hk2]
          have hzu : ∀ q u,(Builtin.zeroCells zv.cells n).toList[q]? = some u → q < n * k' ∧ zv.cells[q % k']? = some u := by
            intro q u hq
            have hlt := (List.getElem?_eq_some_iff.1 hq).1
            rw [hzl] at hlt
            refine ⟨hlt, ?_⟩
            have hm : q % k' < zv.cells.size := by rw [z3,hk2]; exact Nat.mod_lt _ hk0
            rw [Array.getElem?_toList] at hq
            unfold Builtin.zeroCells at hq
            rw [Array.getElem?_map,z3,hk2,Array.getElem?_range,if_pos hlt] at hq
            simp only [Option.map_some,Option.some.injEq] at hq
            rw [getElem!_pos zv.cells _ hm] at hq
            rw [Array.getElem?_eq_getElem hm,hq]
          have hone : ∀ u ∈ (Builtin.zeroCells zv.cells n).toList,u.oneCell' = true := by
            intro u hu'
            obtain ⟨q,hq⟩ := List.getElem?_of_mem hu'
            obtain ⟨_,h2⟩ := hzu q u hq
            exact z4 u (List.mem_of_getElem? (by rw [Array.getElem?_toList]; exact h2))
          have hst := run_storeCells_at P b (off * k') e' (Builtin.zeroCells zv.cells n).toList 0 C w c2 (by rw [hzl]; exact hfit) hone
          rw [Nat.add_zero] at hst
          rw [hzl] at hst
          generalize hC' : (C.toList.take (off * k') ++ (Builtin.zeroCells zv.cells n).toList ++ C.toList.drop (off * k' + n * k')).toArray = C' at hst
          have hrow' : w.setRow b C' = lk w b (.cells C' e' (0,0)) := by
            have hlt := mB c2
            have h1 := setRow_heap w b C C' e' (0,0) c2
            unfold World.setRow lk
            unfold World.setRow at h1
            congr 1
            apply Array.ext_getElem?
            intro j
            by_cases e : b = j
            · subst e
              rw [Array.getElem?_setIfInBounds,if_pos rfl,if_pos hlt]
              exact h1
            · rw [Array.getElem?_setIfInBounds,if_neg e,Array.getElem?_modify,if_neg e]
          have hget : ∀ q,C'[q]? = if off * k' ≤ q ∧ q < off * k' + n * k' then (Builtin.zeroCells zv.cells n).toList[q - off * k']? else C[q]? := by
            intro q
            rw [← hC',List.getElem?_toArray]
            have ht : (C.toList.take (off * k')).length = off * k' := by rw [List.length_take,Array.length_toList]; omega
            by_cases h1 : q < off * k'
            · rw [if_neg (by omega),List.append_assoc,List.getElem?_append_left (by omega),List.getElem?_take_of_lt h1,Array.getElem?_toList]
            · by_cases h2 : q < off * k' + n * k'
              · rw [if_pos ⟨by omega,h2⟩,List.append_assoc,List.getElem?_append_right (by omega),ht,List.getElem?_append_left (by omega)]
              · rw [if_neg (by omega),List.getElem?_append_right (by rw [List.length_append]; omega),List.length_append,ht,hzl,List.getElem?_drop,Array.getElem?_toList]
                congr 1; omega
          have hsz : C'.size = C.size := by
            rw [← hC']
            simp [hzl]
            omega
          refine ⟨_,lk w b (.cells C' e' (0,0)), .tuple #[],run _ ?_,MY hH hf hl hb _ (ob := .row e' k' m fun q => bif Nat.ble off q && Nat.blt q (off + n) then z else el q) rfl rfl (fun E' h1 h2 h3 hr hd => ⟨h3.trans hlen2, .inr ⟨b,C',h1,K6 _ (mB c2),by rw [hsz,h2]; exact c3,by rw [h2]; exact c4,by rw [h2]; exact c5, ?_, ?_, ?_⟩⟩) fun E' w' => .c _ _ (.unk _)⟩
          · obtain ⟨n',rfl⟩ : ∃ n',n = n' + 1 := ⟨n - 1,by omega⟩
            have hzv := mL (P := P) (w := w) z1 z2
            simp [Builtin.clear_,hat,run_underlying hu,hzv,hst,hrow']
          · intro q hq
            simp only
            cases hc : (Nat.ble off q && Nat.blt q (off + n)) with
            | true => exact hk2
            | false => exact c6 q hq
          · intro q j u hq hj hu'
            rw [hget] at hu'
            split at hu'
            · exact hone u (List.mem_of_getElem? hu')
            · exact c7 q j u hq hj hu'
          · intro q j d u hq hd' hu'
            rw [hget] at hu'
            simp only at hd'
            cases hc : (Nat.ble off q && Nat.blt q (off + n)) with
            | true =>
              rw [hc,cond_true] at hd'
              rw [Bool.and_eq_true,Nat.ble_eq,Nat.blt_eq] at hc
              have hj : j < k' := by rw [← hk2]; exact (List.getElem?_eq_some_iff.1 hd').1
              have a1 : off * k' ≤ q * k' := Nat.mul_le_mul_right _ hc.1
              have a2 : (q + 1) * k' ≤ (off + n) * k' := Nat.mul_le_mul_right _ hc.2
              rw [Nat.add_mul,Nat.one_mul,Nat.add_mul] at a2
              rw [if_pos ⟨by omega,by omega⟩] at hu'
              obtain ⟨_,h2⟩ := hzu _ _ hu'
              have : (q * k' + j - off * k') % k' = j := by
                obtain ⟨p,rfl⟩ : ∃ p,q = off + p := ⟨q - off,by omega⟩
                rw [Nat.add_mul,show off * k' + p * k' + j - off * k' = j + p * k' by omega,Nat.add_mul_mod_self_right,Nat.mod_eq_of_lt hj]
              rw [this] at h2
              exact z5 _ _ j d u hd' h2
            | false =>
              rw [hc,cond_false] at hd'
              have hj : j < k' := by rw [← c6 q hq]; exact (List.getElem?_eq_some_iff.1 hd').1
              have hno : ¬ (off * k' ≤ q * k' + j ∧ q * k' + j < off * k' + n * k') := by
                rintro ⟨g1,g2⟩
                have g3 : ¬ (off ≤ q ∧ q < off + n) := by
                  rintro ⟨h1,h2⟩
                  have : (Nat.ble off q && Nat.blt q (off + n)) = true := by rw [Bool.and_eq_true,Nat.ble_eq,Nat.blt_eq]; exact ⟨h1,h2⟩
                  rw [this] at hc; cases hc
                by_cases h1 : off ≤ q
                · have h2 : off + n ≤ q := by omega
                  have := Nat.mul_le_mul_right k' h2
                  rw [Nat.add_mul] at this
                  omega
                · have : (q + 1) * k' ≤ off * k' := Nat.mul_le_mul_right _ (by omega)
                  rw [Nat.add_mul,Nat.one_mul] at this
                  omega
              rw [if_neg hno] at hu'
              exact hd _ _ (c8 q j d u hq hd' hu')
    · cases h
  · cases h
end
end Go.Ax
namespace Go.Ax
open Go.RowKit
def ot (ok : Nat → Prop) : bm := ⟨fun _ => none,fun _ => 0,fun _ => 0,fun _ => False,ok⟩
def Mj (ok : Nat → Prop) (w w' : World) (v : Value) : bS → Prop
  | .data d => aJ (ot fun b => ok b ∨ (w.heap.size ≤ b ∧ b < w'.heap.size)) w' v d
  | .new d => aJ (ot fun b => w.heap.size ≤ b ∧ b < w'.heap.size) w' v d
  | .own fr t k n el => ∃ xs,w'.ownsRow w.heap.size t k v n xs ∧ (∀ i,i < n → (el i).length = k) ∧ (∀ i j u,i < n → j < k → xs[i * k + j]? = some u → u.oneCell' = true) ∧
      ∀ i j d u,i < n → (el i)[j]? = some d → xs[i * k + j]? = some u → cl (fun b => (fr = false ∧ ok b) ∨ (w.heap.size ≤ b ∧ b < w'.heap.size ∧ v.ownBlock ≠ some b)) w' u d
def B6 (P : Program) (f : FuncId) (args : Array Value) (w : World) (R : Value → World → Prop) : Prop :=
  ((callFunc f args).run P w = .ok (.enter f args) w ∧ Calls P f args w fun e w' => ∃ v,e = .returned v ∧ R v w') ∨ ∃ v w',(callFunc f args).run P w = .ok (.value v) w' ∧ R v w'
theorem B6.mono {P : Program} {f : FuncId} {args : Array Value} {w : World} {R R' : Value → World → Prop} (h : B6 P f args w R) (hr : ∀ v w',R v w' → R' v w') : B6 P f args w R' := by
  rcases h with ⟨h1,h2⟩ | ⟨v,w',h1,h2⟩
  · refine .inl ⟨h1,h2.mono ?_⟩
    rintro e w' ⟨v,rfl,h⟩
    exact ⟨v,rfl,hr v w' h⟩
  · exact .inr ⟨v,w',h1,hr v w' h2⟩
def Meets (P : Program) (f : FuncId) (con : bW) : Prop :=
  ∀ (ok : Nat → Prop) (w : World) (xs : List Value) (vs : List V) (p : List Prop) (out : bS),cD (ot ok) w xs vs → (∀ b,ok b → b < w.heap.size) → con vs = some (p,out) → (∀ q ∈ p,q) →
    B6 P f xs.toArray w fun v w' => Below w.heap.size w w' ∧ Mj ok w w' v out
def dl (P : Program) (f : FuncId) : CC → Prop
  | .pure c => Meets P f c
  | .mut m => ∀ (E : bm) (w : World) (H : az) (nid : Nat) (xs : List Value) (args : List V) (r : dE),bC E w H → ¬ E.live nid → cD E w xs args → m (iK (dV H args) H) nid args = some r → (∀ p ∈ r.pre,p) →
    B6 P f xs.toArray w fun v w' => ∃ E',iB E w H nid r E' w' v
section
variable {P : Program} {ρ : Operand → Value} {E : bm} {w w' : World} {o : Oper} {r : dE} {H : az} {nid : Nat}
theorem kL (H : az) : ∀ vs : List V,(V.views H vs).length = vs.length
  | [] => rfl
  | _ :: r => by simp [V.views,kL H r]
theorem pb (H : az) : ∀ (vs : List V) (i : Nat),(V.views H vs)[i]? = (vs[i]?).map (V.view H)
  | [],i => by simp [V.views]
  | v :: r,0 => by simp [V.views]
  | v :: r,i + 1 => by simp [V.views,pb H r i]
theorem Pk {ok' : Nat → Prop} (hok : ∀ b,E.ok b → ok' b) (hown : ∀ q b,E.live q → E.conc q = some b → ok' b) {v : Value} {k n : Nat} {el : Nat → List D} {news : List Value} (h : Src E w v k n el news) : cl ok' w v (.sl k n el) := by
  obtain ⟨a,c,rfl,hc,hm,hcell⟩ := h.form
  have hlt : ∀ i j,i < n → j < k → i * k + j < news.length := by
    intro i j hi hj
    rw [h.len]
    have : (i + 1) * k ≤ n * k := Nat.mul_le_mul_right _ hi
    rw [Nat.add_mul,Nat.one_mul] at this
    omega
  refine .sl a n c k el (fun i j => news.getD (i * k + j) undef) hc hm (fun hn => ?_) (fun i j hi hj => ?_) h.els (fun i j d hi hd => ?_)
  · obtain ⟨ad,rfl,hq⟩ := hcell hn
    refine ⟨ad,rfl, ?_,fun i j hi hj => hq _ _ ?_⟩
    · rcases h.blk ad n c rfl hn with h | ⟨q,h1,h2⟩
      · exact hok _ h
      · exact hown q _ h1 h2
    · rw [List.getD_eq_getElem?_getD,List.getElem?_eq_getElem (hlt i j hi hj)]; rfl
  · refine h.one _ ?_
    show news.getD (i * k + j) undef ∈ news
    rw [List.getD_eq_getElem?_getD,List.getElem?_eq_getElem (hlt i j hi hj)]
    exact List.getElem_mem _
  · have hj : j < k := by rw [← h.els i hi]; exact (List.getElem?_eq_some_iff.1 hd).1
    refine (h.rep i j d (news.getD (i * k + j) undef) hi hd ?_).mono hok (fun _ _ => rfl)
    rw [List.getD_eq_getElem?_getD,List.getElem?_eq_getElem (hlt i j hi hj)]
    rfl
theorem Ng {ok' : Nat → Prop} (hH : bC E w H) (hok : ∀ b,E.ok b → ok' b) (hown : ∀ q b,E.live q → E.conc q = some b → ok' b) {v : Value} {o' k off n : Nat} (h : aJ E w v (.row o' k off n)) :
    ∃ d,zF H o' k off n = .c d ∧ cl ok' w v d := by
  unfold zF
  split
  · next e k' m el hg =>
    cases hs : Nat.beq k' k with
    | false => exact ⟨.unk,rfl, .unk _⟩
    | true =>
      have hkk : k' = k := Nat.eq_of_beq_eq_true hs
      subst hkk
      have ha : lj H (.row o' k' off n) = some (k',n,fun i => el (off + i)) := by simp [lj,hg]
      obtain ⟨news,hsrc⟩ := EX hH h ha
      exact ⟨_,rfl,Pk hok hown hsrc⟩
  · exact ⟨.unk,rfl, .unk _⟩
theorem RN {ok' : Nat → Prop} (hH : bC E w H) (hok : ∀ b,E.ok b → ok' b) (hown : ∀ q b,E.live q → E.conc q = some b → ok' b) {v : Value} {d : V} (h : aJ E w v d) : cl ok' w v (w5 H d) := by
  unfold w5
  split
  · cases h with | c _ _ h => exact h.mono hok fun _ _ => rfl
  · next o' k off n =>
    obtain ⟨d,hd,hr⟩ := Ng hH hok hown h
    rw [hd]
    exact hr
  · exact .unk _
theorem xE {ok' : Nat → Prop} (hH : bC E w H) (hok : ∀ b,E.ok b → ok' b) {v : Value} {d : V} (h : aJ E w v d) :
    ((∀ q b,E.live q → E.conc q = some b → ok' b) ∨ d.refs = []) → aJ (ot ok') w v (d.view H) := by
  induction h with
  | c v d h =>
    intro _
    have h' : cl ok' w v d := h.mono hok fun _ _ => rfl
    cases d with
    | nil =>
      cases h
      exact .c _ _ (.sl none 0 0 0 _ (fun _ _ => undef) (Nat.le_refl _) (by simp [maxLen]) (fun h => by omega) (fun i j h => by omega) (fun i h => by omega) (fun i j d h => by omega))
    | unk => exact .c _ _ h'
    | lit u => exact .c _ _ h'
    | opt b us => exact .c _ _ h'
    | sl k n el => exact .c _ _ h'
  | agg vs ds hl h ih =>
    intro hd
    rw [V.view]
    refine .agg _ _ (by rw [kL,hl]) fun i v d hv hd' => ?_
    rw [pb] at hd'
    cases hx : ds[i]? with
    | none => rw [hx] at hd'; cases hd'
    | some x =>
      rw [hx] at hd'; cases hd'
      exact ih i v x hv hx (hd.imp id fun hr => refs_nil hr hx)
  | tup vs ds hl h ih =>
    intro hd
    rw [V.view]
    refine .tup _ _ (by rw [kL,hl]) fun i v d hv hd' => ?_
    rw [pb] at hd'
    cases hx : ds[i]? with
    | none => rw [hx] at hd'; cases hd'
    | some x =>
      rw [hx] at hd'; cases hd'
      exact ih i v x hv hx (hd.imp id fun hr => refs_nil hr hx)
  | ptr o' k i j b hn hb hi =>
    intro hd
    have hown : ∀ q b,E.live q → E.conc q = some b → ok' b := hd.resolve_right (by simp [V.refs])
    rw [V.view]
    unfold Kh
    split
    · next e k' m el hg =>
      cases hs : Nat.beq k' k with
      | false => exact .unk _
      | true =>
        have hkk : k' = k := Nat.eq_of_beq_eq_true hs
        subst hkk
        simp only [cond_true]
        obtain ⟨C,h2,h3,h4,h6,h7,h8⟩ := rB hH hg hb
        obtain ⟨_,hlen,_⟩ := hH.at_ _ _ hg
        have him : i < m := by omega
        have hik : (i + 1) * k' ≤ E.cap o' * k' := Nat.mul_le_mul_right _ (by omega)
        rw [Nat.add_mul,Nat.one_mul] at hik
        have hq : ∀ q,q < k' → C[i * k' + q]? = some (C.getD (i * k' + q) undef) := by
          intro q hq
          have : i * k' + q < C.size := by omega
          simp [Array.getD,this]
        have := aJ.dptr (E := ot ok') (w := w) k' (el i) j ⟨b,i * k',none⟩ (fun q => C.getD (i * k' + q) undef) (hown o' b hn hb)
          (fun q hq' => by rw [ek,cell_of_row w b _ C e (0,0) h2]; exact hq q hq') (h6 i him)
          (fun q d hd' => by
            have hqk : q < k' := by rw [← h6 i him]; exact (List.getElem?_eq_some_iff.1 hd').1
            exact (h8 i q d _ him hd' (hq q hqk)).mono hok fun _ _ => rfl)
        rwa [ek] at this
    · next cs hg =>
      cases hs : Nat.beq cs.length k with
      | false => exact .unk _
      | true =>
        have hkk : cs.length = k := Nat.eq_of_beq_eq_true hs
        simp only [cond_true]
        obtain ⟨_,hlen,b',C,te,h1,h2,h3⟩ := hH.at_ _ _ hg
        rw [h1] at hb; cases hb
        have hi0 : i = 0 := by omega
        subst hi0
        have hq : ∀ q,q < k → C[q]? = some (C.getD q undef) := by
          intro q hq
          have : q < C.size := by have := h3.1; simp at this; omega
          simp [Array.getD,this]
        have := aJ.dptr (E := ot ok') (w := w) k (cs.map (w5 H)) j ⟨b,0,none⟩ (fun q => C.getD q undef) (hown o' b hn h1)
          (fun q hq' => by rw [ek,Nat.zero_add,cell_of_row w b _ C te (0,0) h2]; exact hq q hq') (by simpa using hkk)
          (fun q d hd' => by
            rw [List.getElem?_map] at hd'
            cases hx : cs[q]? with
            | none => rw [hx] at hd'; cases hd'
            | some x =>
              rw [hx] at hd'; cases hd'
              have hqk : q < k := by rw [← hkk]; exact (List.getElem?_eq_some_iff.1 hx).1
              exact RN hH hok hown (h3.2 q _ x (by rw [Array.getElem?_toList]; exact hq q hqk) hx))
        rw [ek,Nat.zero_add] at this
        simpa using this
    · exact .c _ _ (.unk _)
    · exact .c _ _ (.unk _)
  | row o' k off n a c hn hc hm hl ha h0 =>
    intro hd
    have hown : ∀ q b,E.live q → E.conc q = some b → ok' b := hd.resolve_right (by simp [V.refs])
    rw [V.view]
    obtain ⟨d,hd',hr⟩ := Ng hH hok hown (.row o' k off n a c hn hc hm hl ha h0)
    rw [hd']
    exact .c _ _ hr
  | dptr k cs j ad u hok' hcell hl hu =>
    intro _
    rw [V.view]
    exact .dptr k cs j ad u (hok _ hok') hcell hl fun i d hd => (hu i d hd).mono hok fun _ _ => rfl
  | fn f vs ds hl h ih =>
    intro hd
    rw [V.view]
    refine .fn _ _ _ (by rw [kL,hl]) fun i v d hv hd' => ?_
    rw [pb] at hd'
    cases hx : ds[i]? with
    | none => rw [hx] at hd'; cases hd'
    | some x =>
      rw [hx] at hd'; cases hd'
      exact ih i v x hv hx (hd.imp id fun hr => refs_nil hr hx)
where
  refs_nil {ds : List V} {i : Nat} {x : V} (h : V.refss ds = []) (hx : ds[i]? = some x) : x.refs = [] := by
    cases hr : x.refs with
    | nil => rfl
    | cons a l =>
      have : a ∈ V.refss ds := dY hx (by rw [hr]; simp)
      rw [h] at this
      simp at this
theorem MD {vs : List V} (h : px vs = false) : V.refss vs = [] := by
  unfold px at h
  split at h
  · assumption
  · cases h
mutual
theorem scalar_rep {ok : Nat → Prop} {w w' : World} {E' : bm} : ∀ (d : V) {v : Value},d.scalar = true → aJ (ot ok) w v d → aJ E' w' v d
  | .c d,v,hs,h => by
    cases h with
    | c _ _ h =>
      cases h with
      | unk => exact .unk _
      | nil => exact .c _ _ .nil
      | lit => exact .lit _
      | opt => simp [V.scalar] at hs
      | sl => simp [V.scalar] at hs
  | .agg ds,v,hs,h => by
    cases h with
    | agg vs _ hl h => exact .agg _ _ hl fun i v d hv hd => scalars_rep ds (by simpa [V.scalar] using hs) i d v hd (h i v d hv hd)
  | .tup ds,v,hs,h => by
    cases h with
    | tup vs _ hl h => exact .tup _ _ hl fun i v d hv hd => scalars_rep ds (by simpa [V.scalar] using hs) i d v hd (h i v d hv hd)
  | .ptr ..,v,hs,h => by simp [V.scalar] at hs
  | .row ..,v,hs,h => by simp [V.scalar] at hs
  | .dptr ..,v,hs,h => by simp [V.scalar] at hs
  | .fn ..,v,hs,h => by simp [V.scalar] at hs
theorem scalars_rep {ok : Nat → Prop} {w w' : World} {E' : bm} : ∀ (ds : List V),V.scalars ds = true → ∀ (i : Nat) (d : V) (v : Value),ds[i]? = some d → aJ (ot ok) w v d → aJ E' w' v d
  | [],hs,i,d,v,hd,h => by simp at hd
  | x :: r,hs,0,d,v,hd,h => by
    simp only [V.scalars,Bool.and_eq_true] at hs
    simp at hd; subst hd
    exact scalar_rep x hs.1 h
  | x :: r,hs,i + 1,d,v,hd,h => by
    simp only [V.scalars,Bool.and_eq_true] at hs
    exact scalars_rep r hs.2 i d v (by simpa using hd) h
end
theorem zA {ok : Nat → Prop} {E' : bm} (hok : ∀ b,ok b → E'.ok b) {v : Value} {d : V} (h : aJ (ot ok) w v d) : aJ E' w v d :=
  h.mono (E := ot ok) (kl := []) hok (fun _ _ => rfl) (fun o (ho : False) => ho.elim) (fun o (ho : False) => ho.elim) (Ln d)
theorem Tg (hH : bC E w H) (hf : ¬ E.live nid) {C : FuncId → Option CC} (hC : ∀ f con,C f = some con → dl P f con) {f : FuncId} {args : List V} {xs : List Value} (hx : cD E w xs args)
    (h : Mm C H nid f args = some r) (hp : ∀ p ∈ r.pre,p) :
    B6 P f xs.toArray w fun v w' => ∃ E',iB E w H nid r E' w' v := by
  unfold Mm at h
  split at h
  · cases h
  · next m hm => exact hC f (.mut m) hm E w H nid xs args r hH hf hx h hp
  · next con hcon =>
    have hmeet : Meets P f con := hC f (.pure con) hcon
    have view : ∀ ok' : Nat → Prop,(∀ b,E.ok b → ok' b) → ((∀ q b,E.live q → E.conc q = some b → ok' b) ∨ px args = false) → cD (ot ok') w xs (V.views H args) := by
      intro ok' h1 h2
      refine ⟨by rw [kL]; exact hx.1,fun i v d hv hd => ?_⟩
      rw [pb] at hd
      cases hy : args[i]? with
      | none => rw [hy] at hd; cases hd
      | some y =>
        rw [hy] at hd; cases hd
        exact xE hH h1 (hx.2 i v y hv hy) (h2.imp id fun h => xE.refs_nil (MD h) hy)
    have dat : ∀ (w' : World),Below w.heap.size w w' → jz E w [] (E.next nid none 0 0 fun b => E.ok b ∨ (w.heap.size ≤ b ∧ b < w'.heap.size)) w' ∧ bC (E.next nid none 0 0 fun b => E.ok b ∨ (w.heap.size ≤ b ∧ b < w'.heap.size)) w' H := by
      intro w' hb
      refine ⟨iv hf none 0 0 _ hb (by simp) (fun _ h => .inl h) (fun b h => h.imp id (·.1)),iZ hf hH hb (by simp) (fun _ h => .inl h) (fun b h => h.imp id (·.1)) fun b h => ?_⟩
      rcases h with h | h
      · have := hH.oklt b h; have := hb.size; omega
      · exact h.2
    have full : ∀ q b,E.live q → E.conc q = some b → (fun b => E.ok b ∨ ∃ q,E.live q ∧ E.conc q = some b) b := fun q b hq hb => .inr ⟨q,hq,hb⟩
    have fulllt : ∀ b,(fun b => E.ok b ∨ ∃ q,E.live q ∧ E.conc q = some b) b → b < w.heap.size := by
      rintro b (h | ⟨q,h1,h2⟩)
      · exact hH.oklt b h
      · exact hH.lt q b h1 h2
    split at h
    · cases h
    · next p v hcv =>
      cases hs : ((!px args) || v.scalar) with
      | false => simp [hs] at h
      | true =>
        simp only [hs,cond_true,Option.some.injEq] at h
        subst h
        have hpp : ∀ q ∈ p,q := hp
        cases ha : px args with
        | false =>
          refine (hmeet E.ok w xs _ p _ (view E.ok (fun _ h => h) (.inr ha)) hH.oklt hcv hpp).mono ?_
          rintro u w' ⟨hb,hout⟩
          obtain ⟨hS,hN⟩ := dat w' hb
          exact ⟨_,hS,hN,zA (fun _ h => h) hout,eV⟩
        | true =>
          have hsc : v.scalar = true := by simpa [ha] using hs
          refine (hmeet _ w xs _ p _ (view _ (fun _ h => .inl h) (.inl full)) fulllt hcv hpp).mono ?_
          rintro u w' ⟨hb,hout⟩
          obtain ⟨hS,hN⟩ := dat w' hb
          exact ⟨_,hS,hN,scalar_rep v hsc hout,eV⟩
    · next p v hcv =>
      cases h
      have hpp : ∀ q ∈ p,q := hp
      refine (hmeet _ w xs _ p _ (view _ (fun _ h => .inl h) (.inl full)) fulllt hcv hpp).mono ?_
      rintro u w' ⟨hb,hout⟩
      obtain ⟨hS,hN⟩ := dat w' hb
      exact ⟨_,hS,hN,zA (E' := E.next nid none 0 0 fun b => E.ok b ∨ (w.heap.size ≤ b ∧ b < w'.heap.size)) (fun _ h => Or.inr h) hout,eV⟩
    · next p fr t k n el hcv =>
      cases hs : ((!px args) || fr) with
      | false => simp [hs] at h
      | true =>
        simp only [hs,cond_true,Option.some.injEq] at h
        subst h
        have hpp : ∀ q ∈ p,q := hp
        have fin : ∀ (ok : Nat → Prop) (w' : World) (u : Value),(fr = false → ∀ b,ok b → E.ok b) → Below w.heap.size w w' → Mj ok w w' u (.own fr t k n el) →
            ∃ E',iB E w H nid { pre := p,val := .row nid k 0 n,eff := [(nid,some (.row t k n el))] } E' w' u := by
          rintro ok w' u hfr hb ⟨ys,hown,h6,h7,h8⟩
          have hlt := hown.lt
          have hown0 : w'.ownsRow 0 t k u n ys := ⟨hown.1,hown.2.imp id fun ⟨g,cap,cur,a,_,c⟩ => ⟨g,cap,cur,a,Nat.zero_le _,c⟩⟩
          let ok' : Nat → Prop := fun b => E.ok b ∨ (w.heap.size ≤ b ∧ b < w'.heap.size ∧ u.ownBlock ≠ some b)
          have h1 : ∀ b,u.ownBlock = some b → w.heap.size ≤ b ∧ b < w'.heap.size ∧ ¬ ok' b := by
            intro b hb'
            obtain ⟨a1,a2⟩ := hlt b hb'
            refine ⟨a1,a2, ?_⟩
            rintro (h | ⟨_,_,h⟩)
            · have := hH.oklt b h; omega
            · exact h hb'
          have h2 : ∀ b,ok' b → E.ok b ∨ w.heap.size ≤ b := fun b h => h.imp id (·.1)
          have h3 : ∀ b,ok' b → b < w'.heap.size := by
            rintro b (h | h)
            · have := hH.oklt b h; have := hb.size; omega
            · exact h.2.1
          have hS : jz E w [] (E.next nid u.ownBlock (lY u) n ok') w' := iv hf _ _ _ ok' hb (fun b h => (h1 b h).1) (fun _ h => .inl h) h2
          have hN := iZ (cap := lY u) (len := n) hf hH hb h1 (fun _ h => .inl h) h2 h3
          have hob := tn (E' := E.next nid u.ownBlock (lY u) n ok') (q := nid) (el := el) hown0 (by simp [bm.next]) (by simp [bm.next]) (by intro a m c e; simp [bm.next,e,lY]) h6 h7
            (fun i j d x hi hd hx => (h8 i j d x hi hd hx).mono (fun b hb' => by
              rcases hb' with ⟨h,h'⟩ | h
              · exact .inl (hfr h b h')
              · exact .inr h) fun _ _ => rfl)
          exact ⟨_,hS,rR hN (.inl rfl) hob.1,hob.2 (.inl rfl),eV⟩
        cases ha : px args with
        | false =>
          refine (hmeet E.ok w xs _ p _ (view E.ok (fun _ h => h) (.inr ha)) hH.oklt hcv hpp).mono ?_
          rintro u w' ⟨hb,hout⟩
          obtain ⟨E',hP⟩ := fin _ w' u (fun _ _ h => h) hb hout
          exact ⟨E',hP⟩
        | true =>
          have hfr : fr = true := by simpa [ha] using hs
          refine (hmeet _ w xs _ p _ (view _ (fun _ h => .inl h) (.inl full)) fulllt hcv hpp).mono ?_
          rintro u w' ⟨hb,hout⟩
          obtain ⟨E',hP⟩ := fin _ w' u (fun h => by rw [hfr] at h; cases h) hb hout
          exact ⟨E',hP⟩
theorem cD.cons_inv {x : Value} {xs : List Value} {ds : List V} (h : cD E w (x :: xs) ds) : ∃ d ds',ds = d :: ds' ∧ aJ E w x d ∧ cD E w xs ds' := by
  match ds with
  | [] => have := h.1; simp at this
  | d :: ds' => exact ⟨d,ds',rfl,h.2 0 _ _ rfl rfl,by have := h.1; simpa using this,fun i v d a b => h.2 (i + 1) v d a b⟩
theorem cD.nil_inv {ds : List V} (h : cD E w [] ds) : ds = [] := List.eq_nil_of_length_eq_zero h.1.symm
theorem We (hH : bC E w H) (hf : ¬ E.live nid) {C : FuncId → Option CC} (hC : ∀ f con,C f = some con → dl P f con) {a : Act} {vs : List V} (hv : cD E w ((kp o.op).map a.eval) vs)
    (h : I5 P C H nid o vs = some r) (hp : ∀ p ∈ r.pre,p) {K : Act → World → Prop} {Q : Exit → Act → World → Prop} (hK : ∀ E' w' v',iB E w H nid r E' w' v' → K (a.put o.dst v') w') : o.wp P a w K Q := by
  have fin : (∃ E' w' v',(execOp a.eval o).run P w = .ok (.value v') w' ∧ iB E w H nid r E' w' v') → o.wp P a w K Q := by
    rintro ⟨E',w',v',h1,h2⟩
    unfold Oper.wp
    rw [h1]
    exact hK E' w' v' h2
  have finq : oq P a.eval o E w r → o.wp P a w K Q := fun hq => by
    obtain ⟨v',h1,h2⟩ := PX hH hf hq
    exact fin ⟨_,w,v',h1,h2⟩
  unfold I5 at h
  split at h
  · next x d ho =>
    rw [ho] at hv
    cases h
    exact finq ⟨rfl,rfl,QN ho (hv.2 0 _ _ rfl rfl)⟩
  · next x d ho =>
    rw [ho] at hv
    cases h
    exact finq ⟨rfl,rfl,Ok ho (hv.2 0 _ _ rfl rfl)⟩
  · next t ho =>
    split at h
    · next z hz => exact fin (QG hH hf ho hz h)
    · cases h
  · next t x d ho =>
    rw [ho] at hv
    exact fin (V1 hH hf ho (hv.2 0 _ _ rfl rfl) h)
  · next t parts vs ho =>
    rw [ho] at hv
    exact finq (OV ho (by simpa [kp,Op.operands,List.map_map,Function.comp_def] using hv) h)
  · next t len parts vs ho =>
    rw [ho] at hv
    exact fin (HT hH hf ho (by simpa [kp,Op.operands,List.map_map,Function.comp_def] using hv) h)
  · next t x d ho =>
    rw [ho] at hv
    exact finq (OZ hH ho (hv.2 0 _ _ rfl rfl) h hp)
  · next t x y d e ho =>
    rw [ho] at hv
    obtain ⟨E',w',h1,h2⟩ := OQ hH hf ho (hv.2 0 _ _ rfl rfl) (hv.2 1 _ _ rfl rfl) h hp
    unfold Oper.wp
    rw [h1]
    exact hK E' w' undef h2
  · next x d ho =>
    rw [ho] at hv
    exact finq (J4 ho (hv.2 0 _ _ rfl rfl) h)
  · next op t x y ty d e ho =>
    rw [ho] at hv
    exact finq (Vd ho (hv.2 0 _ _ rfl rfl) (hv.2 1 _ _ rfl rfl) h hp)
  · next op t x d ho =>
    rw [ho] at hv
    exact finq (Wp ho (hv.2 0 _ _ rfl rfl) h)
  · next s t x d ho =>
    rw [ho] at hv
    split at h
    · next e hs hd =>
      split at h
      · next he => exact finq (OK hH hs hd he ho (hv.2 0 _ _ rfl rfl) h hp)
      · cases h
    · exact finq (Rd ho (hv.2 0 _ _ rfl rfl) h)
  · next t x f d ho =>
    rw [ho] at hv
    exact finq (ID ho (hv.2 0 _ _ rfl rfl) h)
  · next t x f d ho =>
    rw [ho] at hv
    exact finq (OT ho (hv.2 0 _ _ rfl rfl) h)
  · next t x y d e ho =>
    rw [ho] at hv
    exact finq (I7 hH ho (hv.2 0 _ _ rfl rfl) (hv.2 1 _ _ rfl rfl) h hp)
  · next t x y d e ho =>
    rw [ho] at hv
    exact finq (ON ho (hv.2 0 _ _ rfl rfl) (hv.2 1 _ _ rfl rfl) h hp)
  · next t x d ho =>
    rw [ho] at hv
    exact finq (vr (dlo := none) (dhi := none) ho (hv.2 0 _ _ rfl rfl) (by simp) (by simp) (by simp) (by simp) h hp)
  · next t x l d e ho =>
    rw [ho] at hv
    exact finq (vr (dlo := some e) (dhi := none) ho (hv.2 0 _ _ rfl rfl) (fun y hy => by cases hy; exact ⟨_,rfl,hv.2 1 _ _ rfl rfl⟩) (by simp) (by simp) (by simp) h hp)
  · next t x l d e ho =>
    rw [ho] at hv
    exact finq (vr (dlo := none) (dhi := some e) ho (hv.2 0 _ _ rfl rfl) (by simp) (by simp) (fun y hy => by cases hy; exact ⟨_,rfl,hv.2 1 _ _ rfl rfl⟩) (by simp) h hp)
  · next t x l hh d e g ho =>
    rw [ho] at hv
    exact finq (vr (dlo := some e) (dhi := some g) ho (hv.2 0 _ _ rfl rfl) (fun y hy => by cases hy; exact ⟨_,rfl,hv.2 1 _ _ rfl rfl⟩) (by simp) (fun y hy => by cases hy; exact ⟨_,rfl,hv.2 2 _ _ rfl rfl⟩) (by simp) h hp)
  · next t l c d e ho =>
    rw [ho] at hv
    exact fin (JN hH hf ho (hv.2 0 _ _ rfl rfl) (hv.2 1 _ _ rfl rfl) h hp)
  · next vs f first caps ho =>
    rw [ho] at hv
    cases hf : (first.isEmpty && Nat.blt f 1000000000) with
    | false => rw [hf] at h; cases h
    | true =>
      rw [hf] at h
      simp only [cond_true,Option.some.injEq] at h
      subst h
      rw [Bool.and_eq_true] at hf
      have h0 : first = #[] := by simpa using hf.1
      subst h0
      exact finq ⟨rfl,rfl,Kf ho rfl hf.2 (by simpa [kp,Op.operands] using hv)⟩
  · next t x d ho =>
    rw [ho] at hv
    split at h
    · next e hu =>
      cases hc : V.isCell d with
      | false => rw [hc] at h; cases h
      | true =>
        rw [hc] at h
        simp only [cond_true,Option.some.injEq] at h
        subst h
        exact finq ⟨rfl,rfl,DZ ho hu (hv.2 0 _ _ rfl rfl)⟩
    · cases h
  · next x ix d ho =>
    rw [ho] at hv
    exact finq (Mf ho (hv.2 0 _ _ rfl rfl) h hp)
  · next t x d ho =>
    rw [ho] at hv
    exact fin (PS hH hf ho (hv.2 0 _ _ rfl rfl) h)
  · next x d ho =>
    rw [ho] at hv
    exact fin (SL hH hf ho (hv.2 0 _ _ rfl rfl) h)
  · next args argTypes d ho =>
    rw [ho] at hv
    obtain ⟨x,hx⟩ : ∃ x,args.toList = [x] := by
      have h2 : args.toList.length = 1 := by have := hv.1; simpa [kp] using this
      match hl : args.toList,h2 with
      | [p],_ => exact ⟨p,rfl⟩
    have hargs : args = #[x] := by rw [← Array.toArray_toList (xs := args),hx]
    subst hargs
    split at h
    · next t ht =>
      cases hu : P.underlying t with
      | none => simp [QZ,hu] at h
      | some dd => exact finq (Tf ho rfl rfl ht hu (hv.2 0 _ _ rfl rfl) h)
    · cases h
  · next args argTypes d ho =>
    rw [ho] at hv
    obtain ⟨x,hx⟩ : ∃ x,args.toList = [x] := by
      have h2 : args.toList.length = 1 := by have := hv.1; simpa [kp] using this
      match hl : args.toList,h2 with
      | [p],_ => exact ⟨p,rfl⟩
    have hargs : args = #[x] := by rw [← Array.toArray_toList (xs := args),hx]
    subst hargs
    split at h
    · next t ht => exact fin (RF hH hf ho rfl rfl ht (hv.2 0 _ _ rfl rfl) h)
    · cases h
  · next vs _ _ args argTypes ho =>
    rw [ho] at hv
    cases hm : Rf vs with
    | none => simp [hm] at h
    | some m =>
      simp only [hm,Option.map_some,Option.some.injEq] at h
      subst h
      exact finq ⟨rfl,rfl,SA ho rfl (by simpa [kp] using hv) hm⟩
  · next vs _ _ args argTypes ho =>
    rw [ho] at hv
    cases hm : P2 vs with
    | none => simp [hm] at h
    | some m =>
      simp only [hm,Option.map_some,Option.some.injEq] at h
      subst h
      exact finq ⟨rfl,rfl,SU ho rfl (by simpa [kp] using hv) hm⟩
  · next args argTypes s x ho =>
    rw [ho] at hv
    obtain ⟨s',x',hsx⟩ : ∃ s' x',args.toList = [s',x'] := by
      have h2 : args.toList.length = 2 := by have := hv.1; simpa [kp] using this
      match hl : args.toList,h2 with
      | [p,q],_ => exact ⟨p,q,rfl⟩
    have hargs : args = #[s',x'] := by rw [← Array.toArray_toList (xs := args),hsx]
    subst hargs
    split at h
    · next t t' ht =>
      cases hb : Nat.beq t t' with
      | false => simp [hb] at h
      | true =>
        have htt : t = t' := Nat.eq_of_beq_eq_true hb
        subst htt
        simp only [hb,cond_true] at h
        have hat : argTypes = #[t,t] := by rw [← Array.toArray_toList (xs := argTypes),ht]
        exact fin (OW hH hf ho rfl rfl hat (hv.2 0 _ _ rfl rfl) (hv.2 1 _ _ rfl rfl) h hp)
    · cases h
  · next f args argTypes g caps ds ho =>
    rw [ho] at hv
    obtain ⟨_,_,e,hf,ha⟩ := cD.cons_inv hv
    cases e
    generalize hfv : a.eval f = fv at hf
    cases hglt : Nat.blt g 1000000000 with
    | false => rw [hglt] at h; cases h
    | true =>
    rw [hglt] at h
    simp only [cond_true] at h
    cases hf with
    | fn _ cs _ hcl hch =>
      rw [yb hglt] at hfv
      have hall : cD E w (args.toList.map a.eval ++ cs) (ds ++ caps) := by
        refine ⟨by rw [List.length_append,List.length_append,ha.1,hcl],fun i v d hv' hd' => ?_⟩
        rw [List.getElem?_append] at hv' hd'
        rw [← ha.1] at hd'
        split at hv'
        · next hlt => rw [if_pos hlt] at hd'; exact ha.2 i v d hv' hd'
        · next hge => rw [if_neg hge] at hd'; exact hch _ v d hv' hd'
      have hcalls := Tg hH hf hC hall h hp
      have hargs : args.map a.eval ++ cs.toArray = (args.toList.map a.eval ++ cs).toArray := by
        rw [← Array.toArray_toList (xs := args.map a.eval ++ cs.toArray)]
        simp
      have hrun : (execOp a.eval o).run P w = (callFunc g (args.toList.map a.eval ++ cs).toArray).run P w := by
        simp only [execOp,ho,resolve,hfv,Deferred.ofValue,invoke,Sem.run_bind,Sem.run_pure,Result.andThen_ok,Array.empty_append,hargs]
      unfold Oper.wp
      rw [hrun]
      rcases hcalls with ⟨h1,h2⟩ | ⟨v,w',h1,E',hP⟩
      · rw [h1]
        refine Calls.mono h2 ?_
        rintro e w' ⟨v,rfl,E',hP⟩
        exact hK E' w' v hP
      · rw [h1]
        exact hK E' w' v hP
  · cases h
end
end Go.Ax
namespace Go.Ax
open Go.RowKit
def sL (tm : List (Nat × bB)) (E : bm) (w : World) (v : Value) (s : bB) : Prop :=
  (holds tm s.ch = true → aJ E w v s.v) ∧ (s.ch.all (fun x => gz tm x.1) = true → holds tm s.ch = false → v = undef)
structure lg where
  W : World
  ok : Nat → Prop
  mb : Nat → Prop
  gh : Nat → Value := fun _ => undef
def lW (B : lg) (a : Act) (t : Nat) : Value := if t < 1000000 then a.tmps.getD t undef else B.gh t
theorem zh {B : lg} {a : Act} {t : Nat} (h : t < 1000000) : lW B a t = a.tmps.getD t undef := if_pos h
structure Bk (M : Nat → Prop) (n : Nat) (w w' : World) : Prop where
  os : w'.os = w.os
  tape : w'.tape = w.tape
  output : w'.output = w.output
  size : w.heap.size ≤ w'.heap.size
  block : ∀ k,k < n → ¬ M k → w'.heap[k]? = w.heap[k]?
theorem Bk.refl (M : Nat → Prop) (n : Nat) (w : World) : Bk M n w w := ⟨rfl,rfl,rfl,Nat.le_refl _,fun _ _ _ => rfl⟩
theorem Bk.below {n : Nat} {w w' : World} (h : Bk (fun _ => False) n w w') : Below n w w' := ⟨h.os,h.tape,h.output,h.size,fun k hk => h.block k hk (fun h => h)⟩
structure eA (N : Nat) (B : lg) (σ : St) (E : bm) (a : Act) (w : World) : Prop where
  size : a.tmps.size = N
  small : N ≤ 1000000
  defers : a.defers = []
  live : ∀ q,σ.nx ≤ q → ¬ E.live q
  heap : bC E w σ.hp
  slots : ∀ t s,bt σ.tm t = some s → sL σ.tm E w (lW B a t) s
  base : Bk B.mb B.W.heap.size B.W w
  own : ∀ o b,E.live o → E.conc o = some b → B.W.heap.size ≤ b ∨ B.mb b
  okold : ∀ b,E.ok b → B.ok b ∨ B.W.heap.size ≤ b
section
variable {P : Program} {N : Nat} {B : lg} {σ : St} {E : bm} {a : Act} {w : World}
theorem Eo {a b : Nat} (h : a ≠ b) : Nat.beq a b = false := by
  cases hb : Nat.beq a b
  · rfl
  · exact (h (Nat.eq_of_beq_eq_true hb)).elim
theorem dM (t' : Nat) (s : bB) (r : List (Nat × bB)) (t : Nat) : bt ((t',s) :: r) t = if t' = t then some s else bt r t := by
  rw [bt]
  by_cases h : t' = t
  · subst h; simp
  · rw [Eo h]; simp [h]
theorem oI : ∀ (tm : List (Nat × bB)) (t : Nat) (s : bB) (t' : Nat),bt (nB tm t s) t' = if t = t' then some s else bt tm t'
  | [],t,s,t' => by rw [nB,dM]
  | (q,x) :: r,t,s,t' => by
    rw [nB]
    by_cases h : q = t
    · subst h
      rw [show Nat.beq q q = true by simp,cond_true,dM,dM]
      split <;> rfl
    · rw [Eo h,cond_false]
      cases Nat.blt t q
      · rw [cond_false,dM,oI r,dM]
        by_cases h1 : q = t'
        · rw [if_pos h1,if_pos h1,if_neg (by omega)]
        · rw [if_neg h1,if_neg h1]
      · rw [cond_true,dM]
theorem CY (f : bB → bB) : ∀ (tm : List (Nat × bB)) (t : Nat),bt (tm.map fun x => (x.1,f x.2)) t = (bt tm t).map f
  | [],t => rfl
  | (q,x) :: r,t => by
    rw [List.map_cons,dM,dM,CY f r]
    split <;> rfl
theorem mV : ∀ (kl : List Nat) (tm : List (Nat × bB)) (t : Nat),bt (pw kl tm) t = (bt tm t).map fun s => { ch := s.ch,v := s.v.killAll kl }
  | [],tm,t => by simp [pw,V.killAll]
  | o :: r,tm,t => by
    rw [pw,mV r,CY (fun s => { ch := s.ch,v := s.v.kill o })]
    cases bt tm t <;> simp [V.killAll]
def dy : Option bB → Option Bool
  | some { v := .c (.lit (.bool b)), .. } => some b
  | _ => none
theorem zT {s : Option bB} {b : Bool} (h : dy s = some b) : ∃ ch,s = some { ch,v := .c (.lit (.bool b)) } := by
  unfold dy at h
  split at h
  · next ch b' => cases h; exact ⟨ch,rfl⟩
  · cases h
theorem kd (tm : List (Nat × bB)) (t : Nat) (w : Bool) (r : cV) : holds tm ((t,w) :: r) = ((match dy (bt tm t) with | some b => (b == w) | none => false) && holds tm r) := by
  rw [holds]
  congr 1
  cases hb : dy (bt tm t) with
  | some b =>
    obtain ⟨ch,e⟩ := zT hb
    rw [e]
    cases w <;> cases b <;> rfl
  | none =>
    split
    · next h => rw [h] at hb; simp [dy] at hb
    · rfl
theorem nZ {tm tm' : List (Nat × bB)} : ∀ (ch : cV),(∀ x ∈ ch,dy (bt tm' x.1) = dy (bt tm x.1)) → holds tm' ch = holds tm ch
  | [],_ => rfl
  | (t,w) :: r,h => by
    rw [kd,kd,h (t,w) (by simp),nZ r fun x hx => h x (by simp [hx])]
theorem EO : ∀ (kl : List Nat) (b : Bool),(V.c (.lit (.bool b))).killAll kl = .c (.lit (.bool b))
  | [],_ => rfl
  | o :: r,b => by rw [V.killAll,V.kill,EO r]
theorem LL (o : Nat) (v : V) (b : Bool) (h : v.kill o = .c (.lit (.bool b))) : v = .c (.lit (.bool b)) := by
  cases v with
  | c d => simpa [V.kill] using h
  | agg vs => simp [V.kill] at h
  | tup vs => simp [V.kill] at h
  | ptr o' k i j => rw [V.kill] at h; cases hb : Nat.beq o' o <;> simp [hb] at h
  | row o' k i j => rw [V.kill] at h; cases hb : Nat.beq o' o <;> simp [hb] at h
  | dptr k cs j => simp [V.kill] at h
  | fn f vs => simp [V.kill] at h
theorem xQ : ∀ (kl : List Nat) (v : V) (b : Bool),v.killAll kl = .c (.lit (.bool b)) → v = .c (.lit (.bool b))
  | [],v,b,h => h
  | o :: r,v,b,h => LL o v b (xQ r _ b h)
theorem zP (kl : List Nat) (s : Option bB) : dy (s.map fun s => { ch := s.ch,v := s.v.killAll kl }) = dy s := by
  cases s with
  | none => rfl
  | some s =>
    obtain ⟨ch,v⟩ := s
    by_cases h : ∃ b,v = .c (.lit (.bool b))
    · obtain ⟨b,rfl⟩ := h
      simp [dy,EO]
    · have h2 : dy (some { ch,v }) = none := by
        cases hb : dy (some { ch,v }) with
        | none => rfl
        | some b => obtain ⟨ch',e⟩ := zT hb; cases e; exact (h ⟨b,rfl⟩).elim
      rw [h2]
      cases hb : dy (Option.map (fun s : bB => { ch := s.ch,v := s.v.killAll kl }) (some { ch,v })) with
      | none => rfl
      | some b =>
        obtain ⟨ch',e⟩ := zT hb
        simp only [Option.map_some,Option.some.injEq,bB.mk.injEq] at e
        exact (h ⟨b,xQ kl v b e.2⟩).elim
theorem OL (kl : List Nat) (tm : List (Nat × bB)) (ch : cV) : holds (pw kl tm) ch = holds tm ch :=
  nZ ch fun x _ => by rw [mV,zP]
theorem KR {tm : List (Nat × bB)} {ch' : cV} (h' : holds tm ch' = true) : ∀ (ch : cV),wH ch ch' = true → holds tm ch = true
  | [],_ => rfl
  | (t,w) :: r,h => by
    simp only [wH,List.all_cons,Bool.and_eq_true] at h
    obtain ⟨h1,h2⟩ := h
    rw [kd,Bool.and_eq_true]
    refine ⟨?_,KR h' r h2⟩
    unfold Vk at h1
    obtain ⟨y,hy,hyt⟩ := List.any_eq_true.1 h1
    simp only [Bool.and_eq_true,Nat.beq_eq,beq_iff_eq] at hyt
    obtain ⟨e1,e2⟩ := hyt
    have key : ∀ (ch' : cV),y ∈ ch' → holds tm ch' = true → (match dy (bt tm y.1) with | some b => (b == y.2) | none => false) = true := by
      intro ch'
      induction ch' with
      | nil => intro hy; simp at hy
      | cons z l ih =>
        intro hy hh
        obtain ⟨zt,zw⟩ := z
        rw [kd,Bool.and_eq_true] at hh
        rcases List.mem_cons.1 hy with rfl | hy
        · exact hh.1
        · exact ih hy hh.2
    have := key ch' hy h'
    rw [← e1, ← e2] at this
    exact this
theorem Wy (f : FuncId) (hlt : Nat.blt f 1000000000 = true) : aJ E w (.func (.func f) #[] #[]) (.fn f []) := by
  have e : qY f [] = .func (.func f) #[] #[] := yb hlt []
  rw [← e]
  exact .fn f [] [] rfl fun i v d h => by simp at h
theorem jw (hs : eA N B σ E a w) {ch : cV} (hh : holds σ.tm ch = true) {x : Operand} {v : V} (h : iz σ ch x = some v) : aJ E w (a.eval x) v := by
  unfold iz at h
  split at h
  · next t =>
    cases hlow : Nat.blt t 1000000 with
    | false => simp [hlow] at h
    | true =>
    rw [hlow,cond_true] at h
    split at h
    · next s hg =>
      cases hc : wH s.ch ch with
      | false => simp [hc] at h
      | true =>
        simp only [hc,cond_true,Option.some.injEq] at h
        subst h
        have := (hs.slots t s hg).1 (KR hh _ hc)
        rw [zh (by simpa using hlow)] at this
        exact this
    · cases h
  · cases h; exact GG _
  · next f =>
    cases hlt : Nat.blt f 1000000000 with
    | false => rw [hlt] at h; cases h
    | true => rw [hlt] at h; cases h; exact Wy _ hlt
  · cases h
theorem GR (hs : eA N B σ E a w) {ch : cV} (hh : holds σ.tm ch = true) : ∀ {xs : List Operand} {vs : List V},tu σ ch xs = some vs → cD E w (xs.map a.eval) vs
  | [],vs,h => by simp [tu] at h; subst h; exact .nil
  | x :: xs,vs,h => by
    unfold tu at h
    rw [List.mapM_cons] at h
    simp only [Option.bind_eq_bind,Option.pure_def,Option.bind_eq_some_iff,Option.some.injEq] at h
    obtain ⟨d,hd,ds,hds,rfl⟩ := h
    have ih := GR hs hh (xs := xs) hds
    refine ⟨by simp [ih.1],fun i v d' hv hd' => ?_⟩
    match i with
    | 0 => simp at hv hd'; subst hv; subst hd'; exact jw hs hh hd
    | i + 1 => exact ih.2 i v d' (by simpa using hv) (by simpa using hd')
theorem zR {ops : Array Oper} (hs : eA N B σ E a w) {o : Oper} {ch : cV} (h : kC ops.toList σ.tm o.guard = some ch) (hb : ch.all (fun x => gz σ.tm x.1) = true) : Region.wanted o (yielded ops a.tmps) = holds σ.tm ch := by
  unfold kC at h
  split at h
  · next hg => cases h; simp [Region.wanted,hg,holds]
  · next j wt hg =>
    split at h
    · next oj hj =>
      split at h
      · next t ht =>
        cases hlow : Nat.blt t 1000000 with
        | false => simp [hlow] at h
        | true =>
        rw [hlow,cond_true] at h
        split at h
        · next ch' b hgt =>
          cases h
          have hj' : ops[j]? = some oj := by rw [← Array.getElem?_toList]; exact hj
          rw [kd,hgt]
          simp only [dy,Region.wanted,hg,yielded,hj',Option.bind_some,ht]
          have hsl := hs.slots t _ hgt
          rw [zh (by simpa using hlow)] at hsl
          cases hh : holds σ.tm ch' with
          | true =>
            have hr := (hsl.1 hh).lit_inv
            have : a.tmps[t]? = some (.bool b) := by
              rw [Array.getD_eq_getD_getElem?] at hr
              cases hx : a.tmps[t]? with
              | none => rw [hx] at hr; simp [undef] at hr
              | some x => rw [hx] at hr; simpa using hr
            rw [this]
            cases b <;> cases wt <;> rfl
          | false =>
            have hr := hsl.2 (by simp only [List.all_cons,Bool.and_eq_true] at hb; exact hb.2) hh
            rw [Bool.and_false]
            rw [Array.getD_eq_getD_getElem?] at hr
            cases hx : a.tmps[t]? with
            | none => rfl
            | some x => rw [hx] at hr; simp at hr; subst hr; rfl
        · cases h
      · cases h
    · cases h
theorem PM (hs : eA N B σ E a w) {ch : cV} (hh : holds σ.tm ch = true) {c x y : Operand} {v : V} (h : uZ σ ch c x y = some v) :
    ∃ b : Bool,a.eval c = .bool b ∧ aJ E w (if b then a.eval x else a.eval y) v := by
  unfold uZ at h
  split at h
  · next b hc =>
    have hcb := (jw hs hh hc).lit_inv
    refine ⟨b,hcb, ?_⟩
    split at h
    · next p q hx hy =>
      cases h
      have key : ∀ (want : Bool),b = want → ∀ (z : Operand) (u : V),iz σ (B5 c want ch) z = some u → aJ E w (a.eval z) u := by
        intro want hw z u hz
        cases c with
        | tmp t =>
          have : holds σ.tm ((t,want) :: ch) = true := by
            rw [kd,hh,Bool.and_true]
            cases hg : bt σ.tm t with
            | none => simp [iz,hg] at hc
            | some s =>
              cases hsc : wH s.ch ch with
              | false => simp [iz,hg,hsc] at hc
              | true =>
                have hl : Nat.blt t 1000000 = true := by
                  cases hl : Nat.blt t 1000000 with
                  | true => rfl
                  | false => simp [iz,hl] at hc
                simp only [iz,hg,hsc,hl,cond_true,Option.some.injEq] at hc
                have : dy (some s) = some b := by obtain ⟨sc,sv⟩ := s; simp only at hc; subst hc; rfl
                rw [this,hw]
                cases want <;> rfl
          exact jw hs this hz
        | const _ => exact jw hs hh hz
        | global _ => exact jw hs hh hz
        | func _ => exact jw hs hh hz
      cases hb : b with
      | true =>
        subst hb
        have := key true rfl x _ hx
        simpa using this
      | false =>
        subst hb
        have := key false rfl y _ hy
        simpa using this
    · cases h
  · cases h
theorem WB {t t' : Nat} {v : Value} (ht : t < a.tmps.size) : (a.put (some t) v).tmps.getD t' undef = if t = t' then v else a.tmps.getD t' undef := by
  simp only [Act.put,Array.getD_eq_getD_getElem?,Array.getElem?_setIfInBounds]
  by_cases h : t = t'
  · subst h; simp [ht]
  · simp [h]
theorem TS {t t' : Nat} {v : Value} (ht : t < a.tmps.size) (hl : t < 1000000) : lW B (a.put (some t) v) t' = if t = t' then v else lW B a t' := by
  unfold lW
  rw [WB ht]
  by_cases h : t = t'
  · subst h; rw [if_pos hl,if_pos rfl,if_pos rfl]
  · simp only [if_neg h]
theorem xX (d : Nat) (tm : List (Nat × bB)) (t : Nat) : bt (rI d tm) t = (bt tm t).map fun s => bif s.ch.any (fun y => Nat.beq y.1 d) then ⟨[], .c .unk⟩ else s :=
  CY (fun s => bif s.ch.any (fun y => Nat.beq y.1 d) then ⟨[], .c .unk⟩ else s) tm t
theorem acG {d : Nat} {ch : cV} (h : ch.any (fun y => Nat.beq y.1 d) = false) : ∀ x ∈ ch,x.1 ≠ d := by
  intro x hx e
  have := List.any_eq_false.1 h x hx
  rw [e] at this
  simp at this
theorem Nf {d : Nat} {ch : cV} (h : vp (some d) ch = true) : ∀ x ∈ ch,x.1 ≠ d := by
  intro x hx e
  have := List.all_eq_true.1 h x hx
  rw [e] at this
  simp at this
theorem qu {tm : List (Nat × bB)} {t : Nat} : gz tm t = (dy (bt tm t)).isSome := by
  unfold gz
  cases h : bt tm t with
  | none => rfl
  | some s =>
    obtain ⟨ch,v⟩ := s
    simp only
    unfold V.isBool dy
    split <;> simp_all
theorem GK {tm : List (Nat × bB)} : ∀ (ch : cV),holds tm ch = true → ch.all (fun x => gz tm x.1) = true
  | [],_ => rfl
  | (t,w) :: r,h => by
    rw [kd,Bool.and_eq_true] at h
    simp only [List.all_cons,Bool.and_eq_true]
    refine ⟨?_,GK r h.2⟩
    rw [qu]
    cases hb : dy (bt tm t) with
    | none => rw [hb] at h; simp at h
    | some b => rfl
theorem lO {tm tm' : List (Nat × bB)} {E' : bm} {w' : World} {v : Value} {s : bB} (h : sL tm E' w' v s) (hb : ∀ x ∈ s.ch,gz tm' x.1 = true → dy (bt tm' x.1) = dy (bt tm x.1)) : sL tm' E' w' v s := by
  have key : s.ch.all (fun x => gz tm' x.1) = true → holds tm' s.ch = holds tm s.ch ∧ s.ch.all (fun x => gz tm x.1) = true := by
    intro ha
    have h1 : ∀ x ∈ s.ch,dy (bt tm' x.1) = dy (bt tm x.1) := fun x hx => hb x hx (List.all_eq_true.1 ha x hx)
    refine ⟨nZ _ h1,List.all_eq_true.2 fun x hx => ?_⟩
    have := List.all_eq_true.1 ha x hx
    rw [qu] at this ⊢
    rw [← h1 x hx]; exact this
  refine ⟨fun hh => ?_,fun ha hh => ?_⟩
  · have := key (GK _ hh)
    exact h.1 (by rw [← this.1]; exact hh)
  · have := key ha
    exact h.2 this.2 (by rw [← this.1]; exact hh)
theorem N1 {d : Nat} {tm : List (Nat × bB)} {t : Nat} (h : gz (rI d tm) t = true) : dy (bt (rI d tm) t) = dy (bt tm t) := by
  rw [qu] at h
  rw [xX] at h ⊢
  cases hx : bt tm t with
  | none => rfl
  | some s =>
    rw [hx] at h
    simp only [Option.map_some] at h ⊢
    cases hc : s.ch.any (fun y => Nat.beq y.1 d) with
    | false => rfl
    | true => rw [hc] at h; simp [dy] at h
theorem K3 {tm : List (Nat × bB)} {E' : bm} {w' : World} {ch : cV} {d : Nat} {v : V} {v' : Value} (hlt : d < a.tmps.size) (hlow : d < 1000000) (hsl : ∀ t s,bt tm t = some s → sL tm E' w' (lW B a t) s)
    (hcd : ∀ x ∈ ch,x.1 ≠ d) (hv : sL tm E' w' v' { ch,v }) : ∀ t s,bt (nB (rI d tm) d { ch,v }) t = some s → sL (nB (rI d tm) d { ch,v }) E' w' (lW B (a.put (some d) v') t) s := by
  have hb : ∀ c : cV,(∀ x ∈ c,x.1 ≠ d) → ∀ x ∈ c,gz (nB (rI d tm) d { ch,v }) x.1 = true → dy (bt (nB (rI d tm) d { ch,v }) x.1) = dy (bt tm x.1) := by
    intro c hc x hx h
    rw [qu,oI,if_neg (fun e => hc x hx e.symm)] at h
    rw [oI,if_neg (fun e => hc x hx e.symm)]
    exact N1 (by rw [qu]; exact h)
  intro t s hg
  rw [oI] at hg
  rw [TS hlt hlow]
  split at hg
  · next e =>
    subst e; cases hg
    rw [if_pos rfl]
    exact lO hv (hb ch hcd)
  · next e =>
    rw [if_neg e]
    rw [xX] at hg
    cases hx : bt tm t with
    | none => rw [hx] at hg; cases hg
    | some y =>
      rw [hx] at hg
      simp only [Option.map_some,Option.some.injEq] at hg
      cases hc : y.ch.any (fun y => Nat.beq y.1 d) with
      | true =>
        rw [hc,cond_true] at hg; subst hg
        exact ⟨fun _ => .unk _,fun _ h => by simp [holds] at h⟩
      | false =>
        rw [hc,cond_false] at hg; subst hg
        exact lO (hsl t _ hx) (hb _ (acG hc))
theorem Rw {kl : List Nat} {tm : List (Nat × bB)} {E' : bm} {w' : World} (hr : ∀ v d,aJ E w v d → aJ E' w' v (d.killAll kl)) (hsl : ∀ t s,bt tm t = some s → sL tm E w (lW B a t) s) :
    ∀ t s,bt (pw kl tm) t = some s → sL (pw kl tm) E' w' (lW B a t) s := by
  intro t s hg
  rw [mV] at hg
  cases hx : bt tm t with
  | none => rw [hx] at hg; cases hg
  | some y =>
    rw [hx] at hg; cases hg
    refine lO (tm := tm) ⟨fun h => hr _ _ ((hsl t y hx).1 h),(hsl t y hx).2⟩ fun x _ _ => ?_
    rw [mV,zP]
theorem EP (hs : eA N B σ E a w) {rc : gK} {E' : bm} {w' : World} {v' : Value} {M : Nat} (hM : σ.nx ≤ M) (hnid : rc.nid < M) (hP : iB E w σ.hp rc.nid rc.res E' w' v') (hh : holds σ.tm rc.ch = true)
    (hd : vq N rc.dst = true) (hn : rc.ch.isEmpty = true ∨ vp rc.dst rc.ch = true) : eA N B { after σ rc with nx := M } E' (a.put rc.dst v') w' := by
  have hlive : ∀ q,M ≤ q → ¬ E'.live q := by
    intro q hq h
    rcases hP.live q h with h | h
    · exact hs.live q (by omega) h
    · omega
  have hown : ∀ o b,E'.live o → E'.conc o = some b → B.W.heap.size ≤ b ∨ B.mb b := by
    intro o b ho h
    rcases hP.st.concnew o b ho h with ⟨o,h1,h2⟩ | h
    · exact hs.own o b h1 h2
    · have := hs.base.size; exact .inl (by omega)
  have hold : ∀ b,E'.ok b → B.ok b ∨ B.W.heap.size ≤ b := by
    intro b hb
    rcases hP.st.okold b hb with h | h
    · exact hs.okold b h
    · have := hs.base.size; exact .inr (by omega)
  have hbase : Bk B.mb B.W.heap.size B.W w' := by
    refine ⟨hP.st.os.trans hs.base.os,hP.st.tape.trans hs.base.tape,hP.st.output.trans hs.base.output,Nat.le_trans hs.base.size hP.st.size,fun k hk hm => ?_⟩
    rw [hP.st.blk k (by have := hs.base.size; omega) fun o ho h => by
      rcases hs.own o k ho h with h | h
      · omega
      · exact hm h]
    exact hs.base.block k hk hm
  have hkill := Rw (kl := rc.res.kill) (E' := E') (w' := w') (fun v d h => h.step hP.st hs.heap.sep hs.heap.oklt) hs.slots
  cases hdst : rc.dst with
  | none =>
    refine ⟨hs.size,hs.small,hs.defers,hlive,hP.heap,fun t s hg => ?_,hbase,hown,hold⟩
    simp only [after,hdst] at hg ⊢
    exact hkill t s hg
  | some d =>
    rw [hdst] at hd hn
    simp only [vq,Nat.blt_eq] at hd
    have hlt : d < a.tmps.size := by rw [hs.size]; exact hd
    have hcd : ∀ x ∈ rc.ch,x.1 ≠ d := by
      rcases hn with hn | hn
      · intro x hx; rw [List.isEmpty_iff.1 hn] at hx; simp at hx
      · exact Nf hn
    refine ⟨by simp [Act.put,hs.size],hs.small,hs.defers,hlive,hP.heap, ?_,hbase,hown,hold⟩
    simp only [after,hdst]
    refine K3 hlt (by have := hs.small; omega) hkill hcd ⟨fun _ => hP.val,fun _ h => ?_⟩
    rw [OL,hh] at h
    cases h
end
end Go.Ax
namespace Go.Ax
open Go.RowKit
section
variable {P : Program} {N : Nat} {B : lg} {σ σ' : St} {E : bm} {a : Act} {w : World} {C : FuncId → Option CC}
theorem Np (hs : eA N B σ E a w) {rc : gK} {M : Nat} (hf : ¬ E.live rc.nid) (hM : σ.nx ≤ M) (hnid : rc.nid < M) (hh : holds σ.tm rc.ch = false) (he : rc.res.eff = []) (hk : rc.res.kill = []) (hn : vp rc.dst rc.ch = true)
    (hd : vq N rc.dst = true) : eA N B { after σ rc with nx := M } (E.next rc.nid none 0 0 E.ok) (a.put rc.dst undef) w := by
  have hS : jz E w [] (E.next rc.nid none 0 0 E.ok) w := iv hf none 0 0 E.ok (.refl _ _) (by simp) (fun _ h => h) (fun _ h => .inl h)
  have hN : bC (E.next rc.nid none 0 0 E.ok) w σ.hp := iZ hf hs.heap (.refl _ _) (by simp) (fun _ h => h) (fun _ h => .inl h) hs.heap.oklt
  have hown : ∀ o b,(E.next rc.nid none 0 0 E.ok).live o → (E.next rc.nid none 0 0 E.ok).conc o = some b → B.W.heap.size ≤ b ∨ B.mb b := by
    intro o b ho h
    rcases hS.concnew o b ho h with ⟨o,h1,h2⟩ | h
    · exact hs.own o b h1 h2
    · have := hs.base.size; exact .inl (by omega)
  have hlive : ∀ q,M ≤ q → ¬ (E.next rc.nid none 0 0 E.ok).live q := by
    rintro q hq (h | h)
    · omega
    · exact hs.live q (by omega) h
  have hslot : ∀ t s,bt σ.tm t = some s → sL σ.tm (E.next rc.nid none 0 0 E.ok) w (lW B a t) s := fun t s hg =>
    ⟨fun h => lN hs.heap hS ((hs.slots t s hg).1 h),(hs.slots t s hg).2⟩
  have hkT : pw rc.res.kill σ.tm = σ.tm := by rw [hk]; rfl
  have hkH : rc.res.eff ++ qZ rc.res.kill σ.hp = σ.hp := by rw [he,hk]; rfl
  cases hdst : rc.dst with
  | none =>
    refine ⟨hs.size,hs.small,hs.defers,hlive,by simp only [after]; rw [hkH]; exact hN,fun t s hg => ?_,hs.base,hown,hs.okold⟩
    simp only [after,hdst] at hg ⊢
    rw [hkT] at hg ⊢
    exact hslot t s hg
  | some d =>
    rw [hdst] at hd hn
    simp only [vq,Nat.blt_eq] at hd
    have hlt : d < a.tmps.size := by rw [hs.size]; exact hd
    refine ⟨by simp [Act.put,hs.size],hs.small,hs.defers,hlive,by simp only [after]; rw [hkH]; exact hN, ?_,hs.base,hown,hs.okold⟩
    simp only [after,hdst]
    rw [hkT]
    refine K3 hlt (by have := hs.small; omega) hslot (Nf hn) ⟨fun h => ?_,fun _ _ => rfl⟩
    have h' : holds σ.tm rc.ch = true := h
    rw [hh] at h'
    cases h'
theorem VS {tm : List (Nat × bB)} {ch : cV} {ps : List Prop} (h : ∀ p ∈ Eu tm ch ps,p) (hh : holds tm ch = true) : ∀ p ∈ ps,p := by
  intro p hp
  cases ch with
  | nil => exact h p hp
  | cons x l => exact h _ (List.mem_map.2 ⟨p,hp,rfl⟩) hh
theorem Da {tm : List (Nat × bB)} {c ch : cV} (h : ch.all (fun x => mD tm c x.1) = true) : ch.all (fun x => gz tm x.1) = true := by
  refine List.all_eq_true.2 fun x hx => ?_
  have := List.all_eq_true.1 h x hx
  unfold mD at this
  unfold gz
  split at this
  · simp only [Bool.and_eq_true] at this; exact this.1
  · cases this
theorem j9 {ops : List Oper} {nid : Nat} {o : Oper} {rc : gK} (h : recOf P C N ops σ nid o = some rc) :
    vq N o.dst = true ∧ kC ops σ.tm o.guard = some rc.ch ∧ rc.ch.all (fun x => mD σ.tm rc.ch x.1) = true ∧ At P C σ nid rc.ch o = some (rc.vs,rc.res) ∧
      (rc.ch.isEmpty || (rc.res.eff.isEmpty && rc.res.kill.isEmpty && vp o.dst rc.ch)) = true ∧ rc.dst = o.dst ∧ rc.nid = nid ∧ rc.rds = qw (kp o.op) ++ rc.ch.map (·.1) ∧ rc.reach = dV σ.hp rc.vs ∧ rc.rws = xm σ.hp rc.vs := by
  unfold recOf at h
  cases hd : vq N o.dst with
  | false => simp [hd] at h
  | true =>
    simp only [hd,cond_true] at h
    split at h
    · next ch hch =>
      cases hb : ch.all (fun x => mD σ.tm ch x.1) with
      | false => simp [hb] at h
      | true =>
        simp only [hb,cond_true] at h
        split at h
        · next vs r hr =>
          cases hc : (ch.isEmpty || (r.eff.isEmpty && r.kill.isEmpty && vp o.dst ch)) with
          | false => simp [hc] at h
          | true =>
            simp only [hc,cond_true,Option.some.injEq] at h
            subst h
            exact ⟨rfl,hch,hb,hr,hc,rfl,rfl,rfl,rfl,rfl⟩
        · cases h
    · cases h
theorem J5 (hC : ∀ f con,C f = some con → dl P f con) (hs : eA N B σ E a w) {ops : Array Oper} {i : Nat} {o : Oper} (hi : ops[i]? = some o) {nid M : Nat} (hf : ¬ E.live nid) (hM : σ.nx ≤ M) (hnid : nid < M)
    {rc : gK} (h : recOf P C N ops.toList σ nid o = some rc) (hp : ∀ p ∈ Eu σ.tm rc.ch rc.res.pre,p) {K : Act → World → Prop} {Q : Exit → Act → World → Prop}
    (hK : ∀ E' a' w',eA N B { after σ rc with nx := M } E' a' w' → (∀ q,E'.live q → E.live q ∨ q = nid) → K a' w') : wpOp P ops Q i K a w := by
  obtain ⟨hd,hch,hb,hr,hc,e1,e2,_,_⟩ := j9 h
  rw [← e1] at hd hc
  rw [← e2] at hnid hf hK
  unfold wpOp
  rw [hi]
  simp only
  rw [zR hs hch (Da hb), ← e1]
  cases hh : holds σ.tm rc.ch with
  | false =>
    rw [if_neg (by simp)]
    have hne : rc.ch.isEmpty = false := by
      cases hx : rc.ch with
      | nil => rw [hx] at hh; simp [holds] at hh
      | cons => rfl
    rw [hne,Bool.false_or] at hc
    simp only [Bool.and_eq_true,List.isEmpty_iff] at hc
    exact hK _ _ _ (Np hs hf hM hnid hh hc.1.1 hc.1.2 hc.2 hd) eV
  | true =>
    rw [if_pos rfl]
    left
    have hpp := VS hp hh
    have hn : rc.ch.isEmpty = true ∨ vp rc.dst rc.ch = true := by
      simp only [Bool.or_eq_true,Bool.and_eq_true] at hc
      exact hc.imp id (·.2)
    unfold At at hr
    split at hr
    · next c x y ho =>
      cases hv : uZ σ rc.ch c x y with
      | none => simp [hv] at hr
      | some v =>
        simp only [hv,Option.map_some,Option.some.injEq,Prod.mk.injEq] at hr
        obtain ⟨b,hb,hrep⟩ := PM hs hh hv
        unfold Oper.wp
        have hrun : (execOp a.eval o).run P w = .ok (.value (if b then a.eval x else a.eval y)) w := by
          simp [execOp,ho,hb,asBool]
        rw [hrun]
        have hP : iB E w σ.hp rc.nid rc.res (E.next rc.nid none 0 0 E.ok) w (if b then a.eval x else a.eval y) := by
          have hS : jz E w [] (E.next rc.nid none 0 0 E.ok) w := iv hf none 0 0 E.ok (.refl _ _) (by simp) (fun _ h => h) (fun _ h => .inl h)
          rw [← hr.2]
          exact ⟨hS,iZ hf hs.heap (.refl _ _) (by simp) (fun _ h => h) (fun _ h => .inl h) hs.heap.oklt,lN hs.heap hS hrep,eV⟩
        have hfin := hK _ _ _ (EP hs hM hnid hP hh hd hn) hP.live
        rw [e1] at hfin
        exact hfin
    · next op hnp =>
      split at hr
      · next vs hvs =>
        cases hov : I5 P C σ.hp nid o vs with
        | none => simp [hov] at hr
        | some r =>
          simp only [hov,Option.map_some,Option.some.injEq,Prod.mk.injEq] at hr
          obtain ⟨rfl,rfl⟩ := hr
          rw [← e2] at hov
          refine We hs.heap hf hC (GR hs hh hvs) hov hpp fun E' w' v' hP => ?_
          have hfin := hK _ _ _ (EP hs hM hnid hP hh hd hn) hP.live
          rw [e1] at hfin
          exact hfin
      · cases hr
theorem Oz (tm : List (Nat × bB)) (t : Nat) : bt (AH tm) t = (bt tm t).map fun s => bif s.ch.isEmpty then s else ⟨[], .c .unk⟩ :=
  CY (fun s => bif s.ch.isEmpty then s else ⟨[], .c .unk⟩) tm t
theorem Hk (hs : eA N B σ E a w) : eA N B { σ with tm := AH σ.tm } E a w := by
  refine ⟨hs.size,hs.small,hs.defers,hs.live,hs.heap,fun t s hg => ?_,hs.base,hs.own,hs.okold⟩
  simp only at hg ⊢
  rw [Oz] at hg
  cases hx : bt σ.tm t with
  | none => rw [hx] at hg; cases hg
  | some y =>
    rw [hx] at hg
    simp only [Option.map_some,Option.some.injEq] at hg
    cases hc : y.ch.isEmpty with
    | false =>
      rw [hc,cond_false] at hg; subst hg
      exact ⟨fun _ => .unk _,fun _ h => by simp [holds] at h⟩
    | true =>
      rw [hc,cond_true] at hg; subst hg
      have hch : y.ch = [] := List.isEmpty_iff.1 hc
      have := hs.slots t y hx
      exact ⟨fun _ => this.1 (by rw [hch]; rfl),fun _ h => by rw [hch] at h; simp [holds] at h⟩
theorem Oi (hC : ∀ f con,C f = some con → dl P f con) {ops : Array Oper} {Q : Exit → Act → World → Prop} : ∀ (rest : List Oper) (i : Nat) (σ σ' : St) (ps : List Prop) (E : bm) (a : Act) (w : World),
    ops.toList.drop i = rest → FQ P C N ops.toList rest σ = some (ps,σ') → (∀ p ∈ ps,p) → eA N B σ E a w → (∀ E' a' w',eA N B σ' E' a' w' → Q .normal a' w') → wpOps P ops Q (List.range' i rest.length) a w
  | [],i,σ,σ',ps,E,a,w,hd,hg,hp,hs,hQ => by
    simp only [FQ,Option.some.injEq,Prod.mk.injEq] at hg
    obtain ⟨rfl,rfl⟩ := hg
    exact hQ _ _ _ (Hk hs)
  | o :: rest,i,σ,σ',ps,E,a,w,hd,hg,hp,hs,hQ => by
    rw [FQ] at hg
    split at hg
    · next rc h1 =>
      split at hg
      · next qs σ2 h2 =>
        simp only [Option.some.injEq,Prod.mk.injEq] at hg
        obtain ⟨rfl,rfl⟩ := hg
        have hi : ops[i]? = some o := by
          have := congrArg (·[0]?) hd
          simpa using this
        rw [List.length_cons,List.range'_succ,wpOps_cons]
        refine J5 (M := σ.nx + 1) hC hs hi (hs.live _ (Nat.le_refl _)) (Nat.le_succ _) (Nat.lt_succ_self _) h1 (fun p hp' => hp p (List.mem_append_left _ hp')) fun E' a' w' hs' _ => ?_
        refine Oi hC rest (i + 1) { after σ rc with nx := σ.nx + 1 } _ qs E' a' w' ?_ h2 (fun p hp' => hp p (List.mem_append_right _ hp')) hs' hQ
        rw [← List.drop_drop,hd]
        rfl
      · cases hg
    · cases hg
theorem TL (hC : ∀ f con,C f = some con → dl P f con) {id : Nat} {ops : Array Oper} {Q : Exit → Act → World → Prop} {ps : List Prop} (hg : FQ P C N ops.toList ops.toList σ = some (ps,σ')) (hp : ∀ p ∈ ps,p)
    (hs : eA N B σ E a w) (hQ : ∀ E' a' w',eA N B σ' E' a' w' → Q .normal a' w') : (Code.region id ops false).wp P Q a w := by
  refine wp_region ?_
  have := Oi hC (Q := Q) ops.toList 0 σ σ' ps E a w rfl hg hp hs hQ
  rw [List.range_eq_range']
  simpa using this
end
end Go.Ax
namespace Go.Ax
open Go.RowKit
section
variable {P : Program} {N : Nat} {B : lg} {σ σ' : St} {E : bm} {a : Act} {w : World} {C : FuncId → Option CC}
theorem I2 : ∀ {ps : List Prop} {Q : Prop},zL ps Q → (∀ p ∈ ps,p) ∧ Q
  | [],_,h => ⟨fun p hp => by simp at hp,h⟩
  | p :: ps,Q,h => by
    obtain ⟨h1,h2⟩ := I2 h.2
    refine ⟨fun q hq => ?_,h2⟩
    rcases List.mem_cons.1 hq with rfl | hq
    · exact h.1
    · exact h1 q hq
theorem allP_mono {ps : List Prop} {Q Q' : Prop} (hq : Q → Q') : zL ps Q → zL ps Q' := by
  induction ps with
  | nil => exact hq
  | cons p ps ih => exact fun h => ⟨h.1,ih h.2⟩
theorem NU (hs : eA N B σ E a w) {t : Nat} {s : bB} (hg : bt σ.tm t = some s) : eA N B { σ with tm := nB σ.tm t s } E a w := by
  have hx : ∀ x,bt (nB σ.tm t s) x = bt σ.tm x := by
    intro x
    rw [oI]
    split
    · next e => subst e; exact hg.symm
    · rfl
  refine ⟨hs.size,hs.small,hs.defers,hs.live,hs.heap,fun q y hq => ?_,hs.base,hs.own,hs.okold⟩
  simp only at hq ⊢
  rw [hx] at hq
  exact lO (tm := σ.tm) (hs.slots q y hq) fun z _ _ => by rw [hx]
theorem MN (hC : ∀ f con,C f = some con → dl P f con) (hs : eA N B σ E a w) {ops : Array Oper} {i : Nat} {o : Oper} (hi : ops[i]? = some o) {ch : cV} (hch : kC ops.toList σ.tm o.guard = some ch)
    (hb : ch.all (fun x => gz σ.tm x.1) = true) (hh : holds σ.tm ch = true) {k : St → Prop} (h : yH P C N ops.toList σ o k) {K : Act → World → Prop} {Q : Exit → Act → World → Prop}
    (hK : ∀ σ' E' a' w',k σ' → eA N B σ' E' a' w' → K a' w') : wpOp P ops Q i K a w := by
  unfold yH at h
  split at h
  · next rc hr =>
    obtain ⟨hp,hk⟩ := I2 h
    have hr' : recOf P C N (#[{ o with guard := none }] : Array Oper).toList σ σ.nx { o with guard := none } = some rc := hr
    have hch0 : rc.ch = [] := by
      obtain ⟨_,h1,_⟩ := j9 hr
      have : kC ops.toList σ.tm none = some rc.ch := h1
      simpa [kC] using this.symm
    have := J5 (Q := Q) (M := σ.nx + 1) hC hs (ops := #[{ o with guard := none }]) (i := 0) rfl (hs.live _ (Nat.le_refl _)) (Nat.le_succ _) (Nat.lt_succ_self _) hr' (by rw [hch0]; exact hp)
      (K := K) fun E' a' w' hs' _ => hK _ E' a' w' hk hs'
    unfold wpOp at this ⊢
    rw [hi]
    simp only
    rw [zR hs hch hb,hh,if_pos rfl]
    have e : (#[{ o with guard := none }] : Array Oper)[0]? = some { o with guard := none } := rfl
    rw [e] at this
    simp only [Region.wanted,if_true] at this
    exact this
  · exact h.elim
theorem Ka (hs : eA N B σ E a w) {ops : Array Oper} {i : Nat} {o : Oper} (hi : ops[i]? = some o) {ch : cV} (hch : kC ops.toList σ.tm o.guard = some ch)
    (hb : ch.all (fun x => gz σ.tm x.1) = true) (hh : holds σ.tm ch = false) {k : St → Prop} (h : zd N σ o ch k) {K : Act → World → Prop} {Q : Exit → Act → World → Prop}
    (hK : ∀ σ' E' a' w',k σ' → eA N B σ' E' a' w' → K a' w') : wpOp P ops Q i K a w := by
  unfold zd at h
  cases hc : (vq N o.dst && vp o.dst ch) with
  | false => rw [hc] at h; exact h.elim
  | true =>
    rw [hc,cond_true] at h
    rw [Bool.and_eq_true] at hc
    unfold wpOp
    rw [hi]
    simp only
    rw [zR hs hch hb,hh,if_neg (by simp)]
    exact hK _ _ _ _ h (Np hs (rc := O0 o ch σ.nx) (hs.live _ (Nat.le_refl _)) (Nat.le_succ _) (Nat.lt_succ_self _) hh rfl rfl hc.2 hc.1)
theorem TD (hC : ∀ f con,C f = some con → dl P f con) {ops : Array Oper} {Q : Exit → Act → World → Prop} : ∀ (rest : List Oper) (i : Nat) (σ : St) (K : St → Prop) (E : bm) (a : Act) (w : World),
    ops.toList.drop i = rest → tM P C N ops.toList rest σ K → eA N B σ E a w → (∀ σ' E' a' w',K σ' → eA N B σ' E' a' w' → Q .normal a' w') → wpOps P ops Q (List.range' i rest.length) a w
  | [],i,σ,K,E,a,w,hd,hg,hs,hQ => by
    rw [tM] at hg
    exact hQ _ _ _ _ hg (Hk hs)
  | o :: rest,i,σ,K,E,a,w,hd,hg,hs,hQ => by
    have hi : ops[i]? = some o := by
      have := congrArg (·[0]?) hd
      simpa using this
    have hd' : ops.toList.drop (i + 1) = rest := by
      rw [← List.drop_drop,hd]; rfl
    have next : ∀ σ' E' a' w',tM P C N ops.toList rest σ' K → eA N B σ' E' a' w' → wpOps P ops Q (List.range' (i + 1) rest.length) a' w' :=
      fun σ' E' a' w' h hs' => TD hC rest (i + 1) σ' K E' a' w' hd' h hs' hQ
    rw [List.length_cons,List.range'_succ,wpOps_cons]
    rw [tM] at hg
    split at hg
    · next hgn => exact MN hC hs hi (ch := []) (by rw [hgn]; rfl) rfl rfl hg next
    · next g hgn =>
      split at hg
      · next t wt ch hch =>
        cases hb : ((t,wt) :: ch).all (fun x => mD σ.tm ((t,wt) :: ch) x.1) with
        | false => rw [hb] at hg; exact hg.elim
        | true =>
          rw [hb,cond_true] at hg
          have hbs := Da hb
          rw [← hgn] at hch
          split at hg
          · next c0 b hgt =>
            cases hh : holds σ.tm ch with
            | false =>
              rw [hh,cond_false] at hg
              exact Ka hs hi hch hbs (by rw [kd,hh,Bool.and_false]) hg next
            | true =>
              rw [hh,cond_true] at hg
              have hhold : holds σ.tm ((t,wt) :: ch) = (b == wt) := by rw [kd,hh,Bool.and_true,hgt]; rfl
              have hsame : ∀ b',b = b' → (∀ x,bt (nB σ.tm t ⟨c0,bl b'⟩) x = bt σ.tm x) := by
                intro b' e x
                subst e
                rw [oI]
                split
                · next e => subst e; exact hgt.symm
                · rfl
              have hgc : ∀ b',b = b' → kC ops.toList (nB σ.tm t ⟨c0,bl b'⟩) o.guard = some ((t,wt) :: ch) := by
                intro b' e
                rw [← hch]
                unfold kC
                split
                · rfl
                · split
                  · split
                    · rw [hsame b' e]
                    · rfl
                  · rfl
              have hbc : ∀ b',b = b' → ((t,wt) :: ch).all (fun x => gz (nB σ.tm t ⟨c0,bl b'⟩) x.1) = true := by
                intro b' e
                rw [← hbs]
                congr 1
                funext x
                unfold gz
                rw [hsame b' e]
              have hho : ∀ b',b = b' → holds (nB σ.tm t ⟨c0,bl b'⟩) ((t,wt) :: ch) = (b' == wt) := by
                intro b' e
                rw [nZ (tm := σ.tm) _ fun x _ => by rw [hsame b' e],hhold,e]
              cases hbv : b with
              | true =>
                rw [hbv,cond_true] at hg
                have hs' := NU hs hgt
                rw [hbv] at hs'
                cases wt with
                | true => rw [cond_true] at hg; exact MN hC hs' hi (hgc true hbv) (hbc true hbv) (hho true hbv) hg next
                | false => rw [cond_false] at hg; exact Ka hs' hi (hgc true hbv) (hbc true hbv) (hho true hbv) hg next
              | false =>
                rw [hbv,cond_false] at hg
                have hs' := NU hs hgt
                rw [hbv] at hs'
                cases wt with
                | true => rw [cond_true] at hg; exact Ka hs' hi (hgc false hbv) (hbc false hbv) (hho false hbv) hg next
                | false => rw [cond_false] at hg; exact MN hC hs' hi (hgc false hbv) (hbc false hbv) (hho false hbv) hg next
          · exact hg.elim
      · exact hg.elim
theorem Qv (hC : ∀ f con,C f = some con → dl P f con) {id : Nat} {ops : Array Oper} {Q : Exit → Act → World → Prop} {K : St → Prop} (hg : tM P C N ops.toList ops.toList σ K)
    (hs : eA N B σ E a w) (hQ : ∀ σ' E' a' w',K σ' → eA N B σ' E' a' w' → Q .normal a' w') : (Code.region id ops false).wp P Q a w := by
  refine wp_region ?_
  have := TD hC (Q := Q) ops.toList 0 σ K E a w rfl hg hs hQ
  rw [List.range_eq_range']
  simpa using this
theorem Cp {all : List Oper} {o : Oper} {k k' : St → Prop} (hk : ∀ σ,k σ → k' σ) (h : yH P C N all σ o k) : yH P C N all σ o k' := by
  unfold yH at h ⊢
  split at h
  · next rc hr => exact allP_mono (hk _) h
  · exact h.elim
theorem CO {o : Oper} {ch : cV} {k k' : St → Prop} (hk : ∀ σ,k σ → k' σ) (h : zd N σ o ch k) : zd N σ o ch k' := by
  unfold zd at h ⊢
  cases hc : (vq N o.dst && vp o.dst ch) with
  | false => rw [hc] at h; exact h.elim
  | true => rw [hc,cond_true] at h; rw [cond_true]; exact hk _ h
theorem Ov {all : List Oper} {K K' : St → Prop} (hk : ∀ σ,K σ → K' σ) : ∀ (rest : List Oper) (σ : St),tM P C N all rest σ K → tM P C N all rest σ K'
  | [],σ,h => by rw [tM] at h ⊢; exact hk _ h
  | o :: r,σ,h => by
    have ih : ∀ σ,tM P C N all r σ K → tM P C N all r σ K' := Ov hk r
    rw [tM] at h ⊢
    split
    · next hg => rw [hg] at h; exact Cp ih h
    · next g hg =>
      rw [hg] at h
      simp only at h
      split
      · next t w ch hch =>
        rw [hch] at h
        simp only at h
        cases hb : ((t,w) :: ch).all (fun x => mD σ.tm ((t,w) :: ch) x.1) with
        | false => rw [hb] at h; exact h.elim
        | true =>
          rw [hb,cond_true] at h
          rw [cond_true]
          split
          · next c0 b hgt =>
            rw [hgt] at h
            simp only at h
            cases hh : holds σ.tm ch with
            | false => rw [hh,cond_false] at h; rw [cond_false]; exact CO ih h
            | true =>
              rw [hh,cond_true] at h
              rw [cond_true]
              cases b with
              | true =>
                cases w with
                | true => exact Cp ih h
                | false => exact CO ih h
              | false =>
                cases w with
                | true => exact CO ih h
                | false => exact Cp ih h
          · next hgt =>
            split at h
            · next c0 b hgt' => exact (hgt c0 b hgt').elim
            · exact h.elim
      · next hch =>
        split at h
        · next t w ch hch' => exact (hch t w ch hch').elim
        · exact h.elim
end
end Go.Ax
namespace Go.Ax
open Go.RowKit
section
variable {P : Program} {N : Nat} {B : lg} {σ σ' : St} {E : bm} {a : Act} {w : World} {C : FuncId → Option CC}
mutual
theorem kill_noUnk (o : Nat) : ∀ v : V,(v.kill o).noUnk = true → v.kill o = v
  | .c _,_ => rfl
  | .agg vs,h => by simp only [V.kill,V.noUnk] at h ⊢; rw [kills_noUnk o vs h]
  | .tup vs,h => by simp only [V.kill,V.noUnk] at h ⊢; rw [kills_noUnk o vs h]
  | .ptr o' k i j,h => by
    rw [V.kill] at h ⊢
    cases hb : Nat.beq o' o
    · rfl
    · rw [hb] at h; simp [V.noUnk] at h
  | .row o' k i j,h => by
    rw [V.kill] at h ⊢
    cases hb : Nat.beq o' o
    · rfl
    · rw [hb] at h; simp [V.noUnk] at h
  | .dptr ..,_ => rfl
  | .fn _ vs,h => by simp only [V.kill,V.noUnk] at h ⊢; rw [kills_noUnk o vs h]
theorem kills_noUnk (o : Nat) : ∀ vs : List V,V.noUnks (V.kills o vs) = true → V.kills o vs = vs
  | [],_ => rfl
  | v :: r,h => by
    simp only [V.kills,V.noUnks,Bool.and_eq_true] at h ⊢
    rw [kill_noUnk o v h.1,kills_noUnk o r h.2]
end
theorem wl : ∀ (kl : List Nat) (v : V),(v.killAll kl).noUnk = true → v.killAll kl = v
  | [],_,_ => rfl
  | o :: r,v,h => by
    rw [V.killAll] at h ⊢
    have h1 := wl r _ h
    rw [h1] at h ⊢
    exact kill_noUnk o v h
mutual
theorem kill_norefs (o : Nat) : ∀ v : V,v.refs = [] → v.kill o = v
  | .c _,_ => rfl
  | .agg vs,h => by simp only [V.kill]; rw [kills_norefs o vs h]
  | .tup vs,h => by simp only [V.kill]; rw [kills_norefs o vs h]
  | .ptr o' k i j,h => by simp [V.refs] at h
  | .row o' k i j,h => by simp [V.refs] at h
  | .dptr ..,_ => rfl
  | .fn _ vs,h => by simp only [V.kill]; rw [kills_norefs o vs h]
theorem kills_norefs (o : Nat) : ∀ vs : List V,V.refss vs = [] → V.kills o vs = vs
  | [],_ => rfl
  | v :: r,h => by
    simp only [V.refss,List.append_eq_nil_iff] at h
    simp only [V.kills]
    rw [kill_norefs o v h.1,kills_norefs o r h.2]
end
mutual
theorem kill_disj (o : Nat) : ∀ (v : V),o ∉ v.refs → v.kill o = v
  | .c _,_ => rfl
  | .agg vs,h => by rw [V.kill,kills_disj o vs (by rw [V.refs] at h; exact h)]
  | .tup vs,h => by rw [V.kill,kills_disj o vs (by rw [V.refs] at h; exact h)]
  | .ptr o' k i j,h => by
    rw [V.kill]
    cases hb : Nat.beq o' o with
    | false => rfl
    | true => exact (h (by rw [V.refs,Nat.eq_of_beq_eq_true hb]; simp)).elim
  | .row o' k i j,h => by
    rw [V.kill]
    cases hb : Nat.beq o' o with
    | false => rfl
    | true => exact (h (by rw [V.refs,Nat.eq_of_beq_eq_true hb]; simp)).elim
  | .dptr ..,_ => rfl
  | .fn f vs,h => by rw [V.kill,kills_disj o vs (by rw [V.refs] at h; exact h)]
theorem kills_disj (o : Nat) : ∀ (vs : List V),o ∉ V.refss vs → V.kills o vs = vs
  | [],_ => rfl
  | v :: r,h => by
    rw [V.refss,List.mem_append] at h
    rw [V.kills,kill_disj o v (fun e => h (.inl e)),kills_disj o r (fun e => h (.inr e))]
end
theorem o7 : ∀ (kl : List Nat) (v : V),(∀ q ∈ v.refs,q ∉ kl) → v.killAll kl = v
  | [],_,_ => rfl
  | o :: r,v,h => by
    rw [V.killAll,kill_disj o v (fun ho => h o ho (by simp)),o7 r v fun q hq hr => h q hq (by simp [hr])]
theorem rN {a b : List Nat} (h : QP a b = true) : ∀ x ∈ a,x ∉ b := by
  intro x hx hb
  have := List.all_eq_true.1 h x hx
  simp only [Bool.not_eq_true'] at this
  have := List.any_eq_false.1 this x hb
  simp at this
theorem Ie {H H' : az} {o k off n : Nat} (h : H.get o = H'.get o) : zF H o k off n = zF H' o k off n := by unfold zF; rw [h]
theorem LQ {H : az} {vs : List V} {o : Nat} {cs : List V} (ho : o ∈ V.refss vs) (hb : H.get o = some (.box cs)) {q : Nat} (hq : q ∈ V.refss cs) : q ∈ dV H vs :=
  List.mem_append_right _ (List.mem_flatMap.2 ⟨o,ho,by rw [hb]; exact hq⟩)
theorem KX {H : az} {vs : List V} {o : Nat} (ho : o ∈ V.refss vs) : o ∈ dV H vs := List.mem_append_left _ ho
theorem GP {H H' : az} : ∀ (os : List Nat),(∀ o ∈ os,H.get o = H'.get o) → iK os H = iK os H'
  | [],_ => rfl
  | o :: r,h => by
    unfold iK
    rw [h o (by simp),GP r fun o ho => h o (by simp [ho])]
structure oC (H H' : az) (os : List Nat) : Prop where
  one : ∀ o ∈ os,H.get o = H'.get o
  two : ∀ o ∈ os, ∀ cs,H.get o = some (.box cs) → ∀ q ∈ V.refss cs,H.get q = H'.get q
theorem oC.sub {H H' : az} {os os' : List Nat} (h : oC H H' os) (hs : ∀ o ∈ os',o ∈ os) : oC H H' os' := ⟨fun o ho => h.one o (hs o ho),fun o ho => h.two o (hs o ho)⟩
theorem Gt {H H' : az} {vs : List V} (h : ∀ o ∈ dV H vs,H.get o = H'.get o) : oC H H' (V.refss vs) :=
  ⟨fun o ho => h o (KX ho),fun o ho cs hb q hq => h q (LQ ho hb hq)⟩
theorem zQ {H H' : az} {vs : List V} (h : oC H H' (V.refss vs)) : dV H vs = dV H' vs := by
  unfold dV
  congr 1
  have : ∀ (l : List Nat),(∀ o ∈ l,H.get o = H'.get o) → l.flatMap (fun o => match H.get o with | some (.box cs) => V.refss cs | _ => []) = l.flatMap (fun o => match H'.get o with | some (.box cs) => V.refss cs | _ => []) := by
    intro l
    induction l with
    | nil => intro _; rfl
    | cons x l ih =>
      intro hl
      rw [List.flatMap_cons,List.flatMap_cons,hl x (by simp),ih fun o ho => hl o (by simp [ho])]
  exact this _ h.one
theorem R0 {H H' : az} {vs : List V} (h : oC H H' (V.refss vs)) {o : Nat} (ho : o ∈ dV H vs) : H.get o = H'.get o := by
  unfold dV at ho
  rcases List.mem_append.1 ho with ho | ho
  · exact h.one o ho
  · obtain ⟨q,hq,ho⟩ := List.mem_flatMap.1 ho
    cases hg : H.get q with
    | none => rw [hg] at ho; simp at ho
    | some b =>
      rw [hg] at ho
      cases b with
      | box cs => exact h.two q hq cs hg o ho
      | row t k n el => simp at ho
      | raw x => simp at ho
theorem LH {H H' : az} {vs : List V} (h : oC H H' (V.refss vs)) : xm H vs = xm H' vs := by
  unfold xm
  rw [← zQ h]
  have key : ∀ l : List Nat,(∀ o ∈ l,H.get o = H'.get o) → (l.all fun o => Mp (H.get o)) = (l.all fun o => Mp (H'.get o)) ∧ (l.flatMap fun o => uu (H.get o)) = l.flatMap fun o => uu (H'.get o) := by
    intro l
    induction l with
    | nil => intro _; exact ⟨rfl,rfl⟩
    | cons x l ih =>
      intro h
      obtain ⟨i1,i2⟩ := ih fun o ho => h o (by simp [ho])
      rw [List.all_cons,List.all_cons,List.flatMap_cons,List.flatMap_cons,h x (by simp),i1,i2]
      exact ⟨rfl,rfl⟩
  obtain ⟨k1,k2⟩ := key _ fun o ho => R0 h ho
  rw [k1,k2]
theorem OE {H H' : az} {v : V} (h : ∀ o ∈ v.refs,H.get o = H'.get o) : w5 H v = w5 H' v := by
  cases v with
  | row o k off n => simp only [w5,Ie (h o (by simp [V.refs]))]
  | _ => rfl
theorem P1 {H H' : az} {o k i j : Nat} (h : oC H H' [o]) : Kh H o k i j = Kh H' o k i j := by
  unfold Kh
  have h1 := h.one o (by simp)
  cases hg : H.get o with
  | none => rw [← h1,hg]
  | some ob =>
    cases ob with
    | row t k' n el => rw [← h1,hg]
    | raw x => rw [← h1,hg]
    | box cs =>
      have : cs.map (w5 H) = cs.map (w5 H') := List.map_congr_left fun v hv => OE fun q hq => by
        obtain ⟨i,hi⟩ := List.getElem?_of_mem hv
        exact h.two o (by simp) cs hg q (dY hi hq)
      rw [← h1,hg]
      simp only [this]
mutual
theorem view_agree {H H' : az} : ∀ (v : V),oC H H' v.refs → v.view H = v.view H'
  | .c .nil,_ => rfl
  | .c .unk,_ => rfl
  | .c (.lit _),_ => rfl
  | .c (.opt ..),_ => rfl
  | .c (.sl ..),_ => rfl
  | .agg vs,h => by rw [V.view,V.view,views_agree vs h]
  | .tup vs,h => by rw [V.view,V.view,views_agree vs h]
  | .ptr o k i j,h => by rw [V.view,V.view]; exact P1 h
  | .row o k off n,h => by rw [V.view,V.view]; exact Ie (h.one o (by simp [V.refs]))
  | .dptr ..,_ => by rw [V.view,V.view]
  | .fn f vs,h => by rw [V.view,V.view,views_agree vs h]
theorem views_agree {H H' : az} : ∀ (vs : List V),oC H H' (V.refss vs) → V.views H vs = V.views H' vs
  | [],_ => rfl
  | v :: r,h => by
    rw [V.views,V.views,view_agree v (h.sub fun o ho => by simp [V.refss,ho]),views_agree r (h.sub fun o ho => by simp [V.refss,ho])]
end
theorem Tt {H H' : az} {nid : Nat} {o : Oper} {vs : List V} (h : oC H H' (V.refss vs)) : I5 P C H nid o vs = I5 P C H' nid o vs := by
  unfold I5
  split <;> try rfl
  · next t x a _ =>
    have key : ∀ a,(∀ q ∈ a.refs,H.get q = H'.get q) → tz P H t a = tz P H' t a := by
      intro a h
      unfold tz
      cases a with
      | ptr q k i j => simp only [h q (by simp [V.refs])]
      | _ => rfl
    unfold Mi
    split
    · next f q k i j kk ix kn n => simp only [h.one q (by simp [V.refss,V.refs])]
    · exact key _ fun q hq => h.one q (by simp [V.refss,hq])
  · next t x y a b _ =>
    have key : ∀ a,(∀ q ∈ a.refs,H.get q = H'.get q) → vK P H t a b = vK P H' t a b := by
      intro a h
      unfold vK
      cases a with
      | ptr q k i j => simp only [h q (by simp [V.refs])]
      | _ => rfl
    unfold H7
    split
    · next f q k i j kk ix kn n => simp only [h.one q (by simp [V.refss,V.refs])]
    · exact key _ fun q hq => h.one q (by simp [V.refss,hq])
  · next a b x d _ =>
    have hx : lj H d = lj H' d := by
      unfold lj
      cases d with
      | row q k off n => simp only [h.one q (by simp [V.refss,V.refs])]
      | c d => cases d <;> rfl
      | _ => rfl
    unfold I8
    rw [hx]
  · next t x y a b _ =>
    have key : ∀ u : Option TypeDesc,P.underlying t = u → pm P H t a b = pm P H' t a b := by
      intro u hu
      unfold pm
      rw [hu]
      by_cases hb : ∃ kk i,b = .c (.lit (.int kk i))
      · obtain ⟨kk,i,rfl⟩ := hb
        cases u with
        | none => rfl
        | some d =>
          cases a with
          | ptr q k i j =>
            have hq := h.one q (by simp [V.refss,V.refs])
            cases d <;> first | rfl | simp only [hq]
          | c a => cases a <;> cases d <;> rfl
          | _ => cases d <;> rfl
      · split <;> first | rfl | exact (hb ⟨_,_,rfl⟩).elim | (split <;> first | rfl | exact (hb ⟨_,_,rfl⟩).elim)
    exact key _ rfl
  · next x a _ =>
    unfold Ml
    cases a with
    | ptr q k i j => simp only [h.one q (by simp [V.refss,V.refs])]
    | _ => rfl
  · next args ats x _ =>
    have hc : ∀ t,vw P H t x = vw P H' t x := by
      intro t
      have key : ∀ u : Option TypeDesc,P.underlying t = u → vw P H t x = vw P H' t x := by
        intro u hu
        unfold vw
        rw [hu]
        cases u with
        | none => rfl
        | some d =>
          cases x with
          | row q k off n =>
            have hq := h.one q (by simp [V.refss,V.refs])
            cases d <;> first | rfl | simp only [hq]
          | _ => cases d <;> rfl
      exact key _ rfl
    simp only [hc]
  · next args ats s x _ =>
    have hx : lj H x = lj H' x := by
      unfold lj
      cases x with
      | row q k off n => simp only [h.one q (by simp [V.refss,V.refs])]
      | c d => cases d <;> rfl
      | _ => rfl
    have ha : ∀ t,xl P H nid t s x = xl P H' nid t s x := by
      intro t
      unfold xl
      rw [hx]
      cases s with
      | row q k off n => simp only [h.one q (by simp [V.refss,V.refs])]
      | c d => cases d <;> rfl
      | _ => rfl
    simp only [ha]
  · next f args ats g caps ds _ =>
    unfold Mm
    have hag : oC H H' (V.refss (ds ++ caps)) := by
      refine h.sub fun q hq => ?_
      have : ∀ (l1 l2 : List V),q ∈ V.refss (l1 ++ l2) → q ∈ V.refss l1 ∨ q ∈ V.refss l2 := by
        intro l1 l2
        induction l1 with
        | nil => intro h; exact .inr h
        | cons x l ih =>
          intro h
          simp only [List.cons_append,V.refss,List.mem_append] at h ⊢
          rcases h with h | h
          · exact .inl (.inl h)
          · exact (ih h).imp .inr id
      simp only [V.refss,V.refs,List.mem_append]
      exact (this _ _ hq).symm
    have hr : iK (dV H (ds ++ caps)) H = iK (dV H' (ds ++ caps)) H' := by
      rw [← zQ hag]
      refine GP _ fun o ho => ?_
      rcases List.mem_append.1 ho with ho | ho
      · exact hag.one o ho
      · obtain ⟨q,hq,ho⟩ := List.mem_flatMap.1 ho
        cases hg : H.get q with
        | none => rw [hg] at ho; simp at ho
        | some b =>
          cases b with
          | box cs => rw [hg] at ho; exact hag.two q hq cs hg o ho
          | row t k n el => rw [hg] at ho; simp at ho
          | raw x => rw [hg] at ho; simp at ho
    rw [views_agree _ hag,hr]
end
end Go.Ax
namespace Go.Ax
open Go.RowKit
section
variable {P : Program} {N : Nat} {B : lg} {σ σ' : St} {E : bm} {a : Act} {w : World} {C : FuncId → Option CC} {all : List Oper}
def iw : List Nat → Option Ob → Option Ob
  | [],b => b
  | o :: r,b => iw r (vG o b)
theorem Fy : ∀ (kl : List Nat) (H : az) (q : Nat),az.get (qZ kl H) q = iw kl (az.get H q)
  | [],H,q => rfl
  | o :: r,H,q => by
    have h1 := w4 o H q
    rw [qZ,Fy r,iw]
    simp only [qZ] at h1
    rw [h1]
theorem Cq : ∀ (A H : az) (q : Nat),az.get (A ++ H) q = if q ∈ kP A then az.get A q else az.get H q
  | [],H,q => by simp [kP]
  | (p,b) :: A,H,q => by
    rw [List.cons_append,az.get_cons,az.get_cons,Cq A H q]
    by_cases h : p = q
    · subst h; simp [kP]
    · simp only [if_neg h,kP,List.map_cons,List.mem_cons]
      have : ¬ q = p := fun e => h e.symm
      simp only [this,false_or]
      rfl
theorem lG (r : gK) (q : Nat) : az.get (after σ r).hp q = if q ∈ kP r.res.eff then az.get r.res.eff q else iw r.res.kill (az.get σ.hp q) := by
  rw [after,Cq,Fy]
def tL (dst : Option Nat) (s : bB) : bB := match dst with | some d => bif s.ch.any (fun y => Nat.beq y.1 d) then ⟨[], .c .unk⟩ else s | none => s
theorem lv (r : gK) (t : Nat) : bt (after σ r).tm t = if r.dst = some t then some ⟨r.ch,r.res.val⟩ else (bt σ.tm t).map fun s => tL r.dst ⟨s.ch,s.v.killAll r.res.kill⟩ := by
  unfold after tL
  cases hd : r.dst with
  | none => simp only [reduceCtorEq,if_false]; rw [mV]
  | some d =>
    simp only [Option.some.injEq]
    rw [oI]
    split
    · rfl
    · rw [xX,mV]
      cases bt σ.tm t <;> rfl
theorem Cx {d : Option Nat} {t : Nat} : t ∈ qb d ↔ d = some t := by
  cases d with
  | none => simp [qb]
  | some x => simp [qb,eq_comm]
theorem Sb {r : gK} {t : Nat} {s : bB} (h : bt (after σ r).tm t = some s) (ht : t ∉ qb r.dst) (hn : s.v.noUnk = true) : bt σ.tm t = some s := by
  rw [lv,if_neg (fun e => ht (Cx.2 e))] at h
  cases hx : bt σ.tm t with
  | none => rw [hx] at h; cases h
  | some y =>
    rw [hx] at h
    simp only [Option.map_some,Option.some.injEq] at h
    have : tL r.dst ⟨y.ch,y.v.killAll r.res.kill⟩ = ⟨y.ch,y.v.killAll r.res.kill⟩ := by
      unfold tL
      cases hd : r.dst with
      | none => rfl
      | some d =>
        simp only
        cases hc : y.ch.any (fun z => Nat.beq z.1 d) with
        | false => rfl
        | true =>
          simp only [tL,hd,hc,cond_true] at h
          subst h
          simp [V.noUnk] at hn
    rw [this] at h
    subst h
    have := wl _ _ hn
    obtain ⟨ych,yv⟩ := y
    simp only at this ⊢
    rw [this]
theorem Rx {r : gK} {t : Nat} {s : bB} (h : bt σ.tm t = some s) (ht : t ∉ qb r.dst) (hk : ∀ q ∈ s.v.refs,q ∉ r.res.kill) (hc : ∀ x ∈ s.ch,x.1 ∉ qb r.dst) : bt (after σ r).tm t = some s := by
  rw [lv,if_neg (fun e => ht (Cx.2 e)),h]
  simp only [Option.map_some,Option.some.injEq]
  have e1 : s.v.killAll r.res.kill = s.v := o7 _ _ hk
  rw [e1]
  unfold tL
  cases hd : r.dst with
  | none => rfl
  | some d =>
    simp only
    have : s.ch.any (fun z => Nat.beq z.1 d) = false := by
      refine List.any_eq_false.2 fun x hx => ?_
      have := hc x hx
      rw [hd] at this
      intro hb
      exact this (by simp [qb,Nat.eq_of_beq_eq_true hb])
    rw [this]
    rfl
theorem na : ∀ {xs : List Operand} {t : Nat},t ∈ qw xs ↔ Operand.tmp t ∈ xs
  | [],t => by simp [qw]
  | .tmp q :: r,t => by simp [qw,na (xs := r)]
  | .const v :: r,t => by simp [qw,na (xs := r)]
  | .global g :: r,t => by simp [qw,na (xs := r)]
  | .func f :: r,t => by simp [qw,na (xs := r)]
theorem vE {c ch : cV} (h : wH c ch = true) : ∀ x ∈ c,x.1 ∈ ch.map (·.1) := by
  intro x hx
  have := List.all_eq_true.1 h x hx
  unfold Vk at this
  obtain ⟨y,hy,hyx⟩ := List.any_eq_true.1 this
  simp only [Bool.and_eq_true,Nat.beq_eq] at hyx
  rw [hyx.1]
  exact List.mem_map.2 ⟨y,hy,rfl⟩
theorem HV : ∀ {vs : List V} {v : V},V.noUnks vs = true → v ∈ vs → v.noUnk = true
  | x :: r,v,h,hv => by
    simp only [V.noUnks,Bool.and_eq_true] at h
    rcases List.mem_cons.1 hv with rfl | hv
    · exact h.1
    · exact HV h.2 hv
theorem ze {ch : cV} {t : Nat} {v : V} (h : iz σ ch (.tmp t) = some v) : ∃ s,bt σ.tm t = some s ∧ wH s.ch ch = true ∧ s.v = v := by
  unfold iz at h
  cases hl : Nat.blt t 1000000 with
  | false => simp [hl] at h
  | true =>
    simp only [hl,cond_true] at h
    split at h
    · next s hg =>
      cases hc : wH s.ch ch with
      | false => simp [hc] at h
      | true => simp only [hc,cond_true,Option.some.injEq] at h; exact ⟨s,hg,hc,h⟩
    · cases h
theorem Ia {ch : cV} : ∀ {xs : List Operand} {vs : List V},tu σ ch xs = some vs → ∀ x ∈ xs, ∃ v ∈ vs,iz σ ch x = some v
  | [],vs,h,x,hx => by simp at hx
  | y :: xs,vs,h,x,hx => by
    unfold tu at h
    rw [List.mapM_cons] at h
    simp only [Option.bind_eq_bind,Option.pure_def,Option.bind_eq_some_iff,Option.some.injEq] at h
    obtain ⟨d,hd,ds,hds,rfl⟩ := h
    rcases List.mem_cons.1 hx with rfl | hx
    · exact ⟨d,by simp,hd⟩
    · obtain ⟨v,hv,h⟩ := Ia (xs := xs) hds x hx
      exact ⟨v,by simp [hv],h⟩
theorem OC {ch : cV} {c x y : Operand} {v : V} (h : uZ σ ch c x y = some v) :
    ∃ b p q : Bool,iz σ ch c = some (bl b) ∧ iz σ (B5 c true ch) x = some (bl p) ∧ iz σ (B5 c false ch) y = some (bl q) ∧ v = bl (bif b then p else q) := by
  unfold uZ at h
  split at h
  · next b hc =>
    split at h
    · next p q hx hy => cases h; exact ⟨b,p,q,hc,hx,hy,rfl⟩
    · cases h
  · cases h
theorem KZ {c : Operand} {wt : Bool} {ch : cV} {i : Nat} (h : i ∈ (B5 c wt ch).map (·.1)) : i ∈ ch.map (·.1) ∨ c = .tmp i := by
  unfold B5 at h
  split at h
  · simp only [List.map_cons,List.mem_cons] at h
    rcases h with rfl | h
    · exact .inr rfl
    · exact .inl h
  · exact .inl h
theorem Ld {nid : Nat} {o : Oper} {rc : gK} (h : recOf P C N all σ nid o = some rc) (hn : V.noUnks rc.vs = true) {t : Nat} (ht : t ∈ rc.rds) :
    ∃ s,bt σ.tm t = some s ∧ s.v.noUnk = true ∧ (∀ x ∈ s.ch,x.1 ∈ rc.rds) ∧ ∀ q ∈ s.v.refs,q ∈ V.refss rc.vs := by
  obtain ⟨hd,hch,hb,hr,hc,e1,e2,e3,e4,e5⟩ := j9 h
  have hids : ∀ i,i ∈ rc.ch.map (·.1) → i ∈ rc.rds := fun i hi => by rw [e3]; exact List.mem_append_right _ hi
  have hbool : ∀ {s : bB} {b : Bool},s.v = bl b → s.v.noUnk = true ∧ ∀ q ∈ s.v.refs,q ∈ V.refss rc.vs := by
    intro s b e; rw [e]; exact ⟨rfl,fun q hq => by simp [V.refs] at hq⟩
  rw [e3,List.mem_append] at ht
  rcases ht with ht | ht
  · have hto := na.1 ht
    unfold At at hr
    split at hr
    · next c x y ho =>
      cases hv : uZ σ rc.ch c x y with
      | none => simp [hv] at hr
      | some v =>
        obtain ⟨b,p,q,h1,h2,h3,_⟩ := OC hv
        have hcr : ∀ i,c = .tmp i → i ∈ rc.rds := fun i hi => by rw [e3,ho]; exact List.mem_append_left _ (na.2 (by simp [kp,Op.operands,hi]))
        rw [ho] at hto
        have hto' : Operand.tmp t = c ∨ Operand.tmp t = x ∨ Operand.tmp t = y := by simpa [kp,Op.operands] using hto
        rcases hto' with rfl | rfl | rfl
        · obtain ⟨s,g1,g2,g3⟩ := ze h1
          exact ⟨s,g1,(hbool g3).1,fun z hz => hids _ (vE g2 z hz),(hbool g3).2⟩
        · obtain ⟨s,g1,g2,g3⟩ := ze h2
          exact ⟨s,g1,(hbool g3).1,fun z hz => (KZ (vE g2 z hz)).elim (hids _) (hcr _),(hbool g3).2⟩
        · obtain ⟨s,g1,g2,g3⟩ := ze h3
          exact ⟨s,g1,(hbool g3).1,fun z hz => (KZ (vE g2 z hz)).elim (hids _) (hcr _),(hbool g3).2⟩
    · next op hnp =>
      split at hr
      · next vs hvs =>
        cases hov : I5 P C σ.hp nid o vs with
        | none => simp [hov] at hr
        | some r =>
          simp only [hov,Option.map_some,Option.some.injEq,Prod.mk.injEq] at hr
          obtain ⟨rfl,_⟩ := hr
          obtain ⟨v,hv,hov'⟩ := Ia hvs _ hto
          obtain ⟨s,g1,g2,rfl⟩ := ze hov'
          refine ⟨s,g1,HV hn hv,fun z hz => hids _ (vE g2 z hz),fun q hq => ?_⟩
          obtain ⟨i,hi⟩ := List.getElem?_of_mem hv
          exact dY hi hq
      · cases hr
  · obtain ⟨x,hx,rfl⟩ := List.mem_map.1 ht
    have hg := List.all_eq_true.1 hb x hx
    unfold mD at hg
    split at hg
    · next s hs =>
      simp only [Bool.and_eq_true] at hg
      have : ∃ b,s.v = bl b := by
        have := hg.1
        unfold V.isBool at this
        split at this
        · next b e => exact ⟨b,e⟩
        · cases this
      obtain ⟨b,hbv⟩ := this
      exact ⟨s,hs,(hbool hbv).1,fun z hz => hids _ (vE hg.2 z hz),(hbool hbv).2⟩
    · cases hg
theorem zI {nid : Nat} {o : Oper} {rc : gK} (h : recOf P C N all σ nid o = some rc) (hA : ∀ t ∈ rc.rds,bt σ'.tm t = bt σ.tm t) (hB : oC σ.hp σ'.hp (V.refss rc.vs)) :
    recOf P C N all σ' nid o = some rc ∧ holds σ'.tm rc.ch = holds σ.tm rc.ch := by
  obtain ⟨hd,hch,hb,hr,hc,e1,e2,e3,e4,e5⟩ := j9 h
  have hid : ∀ x ∈ rc.ch,bt σ'.tm x.1 = bt σ.tm x.1 := fun x hx => hA _ (by rw [e3]; exact List.mem_append_right _ (List.mem_map.2 ⟨x,hx,rfl⟩))
  have hop : ∀ (x : Operand),x ∈ kp o.op → ∀ ch,iz σ' ch x = iz σ ch x := by
    intro x hx ch
    cases x with
    | tmp t => unfold iz; simp only [hA t (by rw [e3]; exact List.mem_append_left _ (na.2 hx))]
    | _ => rfl
  have g1 : kC all σ'.tm o.guard = some rc.ch := by
    have hch' := hch
    unfold kC at hch ⊢
    split at hch
    · exact hch
    · next j wt _ =>
      split at hch
      · next oj hj =>
        split at hch
        · next t ht =>
          cases hl : Nat.blt t 1000000 with
          | false => simp [hl] at hch
          | true =>
            simp only [hl,cond_true] at hch ⊢
            split at hch
            · next ch' b hg =>
              simp only [Option.some.injEq] at hch
              have := hid (t,wt) (by rw [← hch]; simp)
              rw [this,hg]
              simp only [hch]
            · cases hch
        · cases hch
      · cases hch
  have g2 : rc.ch.all (fun x => mD σ'.tm rc.ch x.1) = true := by
    refine List.all_eq_true.2 fun x hx => ?_
    have := List.all_eq_true.1 hb x hx
    unfold mD at this ⊢
    rw [hid x hx]
    exact this
  have g3 : At P C σ' nid rc.ch o = some (rc.vs,rc.res) := by
    rw [← hr]
    unfold At at hr ⊢
    split
    · next c x y ho =>
      rw [ho] at hop
      have : uZ σ' rc.ch c x y = uZ σ rc.ch c x y := by
        unfold uZ
        rw [hop c (by simp [kp,Op.operands]),hop x (by simp [kp,Op.operands]),hop y (by simp [kp,Op.operands])]
      rw [this]
    · next op hnp =>
      have : ∀ (xs : List Operand),(∀ x ∈ xs,x ∈ kp o.op) → tu σ' rc.ch xs = tu σ rc.ch xs := by
        intro xs
        induction xs with
        | nil => intro _; rfl
        | cons x l ih =>
          intro hx
          unfold tu at ih ⊢
          rw [List.mapM_cons,List.mapM_cons,hop x (hx x (by simp)),ih fun z hz => hx z (by simp [hz])]
      rw [this _ fun x hx => hx]
      split at hr
      · next c x y ho => exact (hnp c x y ho).elim
      · split at hr
        · next vs hvs =>
          cases hov : I5 P C σ.hp nid o vs with
          | none => simp [hov] at hr
          | some r =>
            simp only [hov,Option.map_some,Option.some.injEq,Prod.mk.injEq] at hr
            obtain ⟨rfl,_⟩ := hr
            rw [← Tt hB,hov]
        · cases hr
  have hreach : dV σ'.hp rc.vs = rc.reach := by rw [e4]; exact (zQ hB).symm
  have hrows : xm σ'.hp rc.vs = rc.rws := by rw [e5]; exact (LH hB).symm
  refine ⟨?_,nZ _ fun x hx => by rw [hid x hx]⟩
  unfold recOf
  rw [hd,cond_true,g1]
  simp only
  rw [g2,cond_true,g3]
  simp only
  rw [hc,cond_true,hreach,hrows]
  rw [← e1, ← e2, ← e3]
end
end Go.Ax
