import Derived.Test.YtnnblpijaoocaaaGreatZB2m
import Derived.Maps.RangeRun
import Derived.Test.YtnnblpijaoocaaaGreatZB2m
import Derived.Test.YtnnblpijaoocaaaGreatZB2m
set_option linter.all false
/- Walks over strings, bytes as strings, parts that are cleared. -/
namespace Go.Ax
open Go.RowKit
section
variable {P:Program} {ρ:Operand→Value} {E:an} {w w':World} {o:Oper} {r:ay} {H:af} {nid:Nat}
def T9 (ok:Nat→Prop):an:=⟨fun _=>none,fun _=>0,fun _=>0,fun _=>False,ok⟩
theorem SP (hH:ar E w H) (hf:¬ E.live nid) (x:Obj) (he:r.eff = [(nid,some (.raw x))]) (hk:r.kill = []) {v':Value}
    (hv:∀ (E':an) (w':World),E'.live nid→E'.conc nid = some w.heap.size→E'.len nid = 1→ak E' w' v' r.val) :
    cD E w H nid r (E.next nid (some w.heap.size) 0 1 E.ok) (w.alloc x) v':=by
  have hb:Below w.heap.size w (w.alloc x):=(Below.refl _ _).alloc (Nat.le_refl _) _
  have hcc:∀ b,some w.heap.size = some b→w.heap.size≤b∧b < (w.alloc x).heap.size∧¬ E.ok b:=by
    intro b e;cases e
    exact ⟨Nat.le_refl _,by simp,fun h=>by have:=hH.oklt _ h;omega⟩
  have hS:du E w [] (E.next nid (some w.heap.size) 0 1 E.ok) (w.alloc x):=cM hf _ 0 1 E.ok hb (fun b h=>(hcc b h).1) (fun _ h=>h) (fun _ h=>.inl h)
  have hN:=cZ (cap:=0) (len:=1) hf hH hb hcc (fun _ h=>h) (fun _ h=>.inl h) (fun b h=>by have:=hH.oklt b h;simp;omega)
  have e1:(E.next nid (some w.heap.size) 0 1 E.ok).conc nid = some w.heap.size:=by simp [an.next]
  have e3:(E.next nid (some w.heap.size) 0 1 E.ok).len nid = 1:=by simp [an.next]
  refine ⟨by rw [hk];exact hS, ?_,hv _ _ (.inl rfl) e1 e3,bQ⟩
  rw [he,hk]
  exact jq hN (.inl rfl) ⟨e3,_,e1,heap_alloc_new w _⟩
theorem Oe (hH:ar E w H) (hf:¬ E.live nid) {t:TypeId} {x:Operand} (ho:o.op = .range t x) {vx:V} (hx:ak E w (ρ x) vx) (h:Kw P nid t vx = some r) :
    ∃ E' w' v',(execOp ρ o).run P w = .ok (.value v') w'∧cD E w H nid r E' w' v':=by
  unfold Kw at h
  split at h
  · next s hu =>
    cases h
    have ex:=hx.lit_inv
    refine ⟨_,w.alloc (.stringIter s 0), .pointer (some ⟨w.heap.size,0,none⟩), ?_,SP hH hf (.stringIter s 0) rfl rfl fun E' w' h1 h2 h3=>?_⟩
    · have:=run_range_string (P:=P) w t s hu
      simp only [execOp,ho,ex,Sem.run_bind,this,Result.andThen_ok]
      rfl
    · have:=ak.ptr (E:=E') (w:=w') nid 1 0 0 w.heap.size h1 h2 (by omega)
      simpa using this
  · cases h
theorem LX (hH:ar E w H) (hf:¬ E.live nid) {t:TypeId} {x:Operand} (ho:o.op = .range t x) {vx:V} (hx:ak E w (ρ x) vx) (h:uK P H nid t vx = some r) :
    ∃ E' w' v',(execOp ρ o).run P w = .ok (.value v') w'∧cD E w H nid r E' w' v':=by
  unfold uK at h
  split at h
  · next k e hu =>
    split at h
    · next q tm kt vt ks vs hm =>
      cases h
      obtain ⟨bm,ex,hl,hc,hg⟩:=ip hH hx hm
      obtain ⟨_,_,_,b',es,clock,h3,h4,_,h6,_,h8,_⟩:=hH.at_ _ _ hg
      rw [hc] at h3;cases h3
      have hb:Below w.heap.size w (w.alloc (.mapIter (some bm) clock #[] clock)):=(Below.refl _ _).alloc (Nat.le_refl _) _
      have hcc:∀ b,some w.heap.size = some b→w.heap.size≤b∧b < (w.alloc (.mapIter (some bm) clock #[] clock)).heap.size∧¬ E.ok b:=by
        intro b e;cases e
        exact ⟨Nat.le_refl _,by simp,fun h=>by have:=hH.oklt _ h;omega⟩
      have hS:du E w [] (E.next nid (some w.heap.size) 0 1 E.ok) (w.alloc (.mapIter (some bm) clock #[] clock)):=cM hf _ 0 1 E.ok hb (fun b h=>(hcc b h).1) (fun _ h=>h) (fun _ h=>.inl h)
      have hN:=cZ (cap:=0) (len:=1) hf hH hb hcc (fun _ h=>h) (fun _ h=>.inl h) (fun b h=>by have:=hH.oklt b h;simp;omega)
      have e1:(E.next nid (some w.heap.size) 0 1 E.ok).conc nid = some w.heap.size:=by simp [an.next]
      have e3:(E.next nid (some w.heap.size) 0 1 E.ok).len nid = 1:=by simp [an.next]
      refine ⟨_,w.alloc (.mapIter (some bm) clock #[] clock), .pointer (some ⟨w.heap.size,0,none⟩), ?_,hS, ?_, ?_,bQ⟩
      · have:=run_range_map (P:=P) w t k e bm es clock hu h4
        simp only [execOp,ho,ex,Sem.run_bind,this,Result.andThen_ok]
        rfl
      · refine jq hN (.inl rfl) ⟨e3,_,bm,clock, #[],clock,e1,heap_alloc_new w _,⟨rfl,by rw [h8,h6],rfl⟩, ?_⟩
        rw [← ex]
        exact gU hH hS hx
      · have:=ak.ptr (E:=E.next nid (some w.heap.size) 0 1 E.ok) (w:=w.alloc (.mapIter (some bm) clock #[] clock)) nid 1 0 0 w.heap.size (.inl rfl) e1 (by omega)
        simpa using this
    · cases h
  · cases h
theorem Hh:∀ (ts:List Ty) (x:HP ts),ts.all Ti = true→∀ d∈gw ts x,d = .lit (vS d)
  | [],_,_,d,hd=>by simp [gw] at hd
  | [t],x,h,d,hd=>by
    simp only [gw,List.mem_singleton] at hd
    subst hd
    match t,h with
    | .i k,_=>rfl
    | .b,_=>rfl
    | .s,_=>rfl
  | t :: u :: r,x,h,d,hd=>by
    rw [List.all_cons,Bool.and_eq_true] at h
    rw [gw,List.mem_cons] at hd
    rcases hd with rfl | hd
    · match t,h.1 with
      | .i k,_=>rfl
      | .b,_=>rfl
      | .s,_=>rfl
    · exact Hh (u :: r) x.2 h.2 d hd
theorem Jy {kt:Ty} (h:kt.key = true) (x:kt.T):ak E w (bZ kt x) (encV kt x):=by
  match kt,h,x with
  | .i k,_,x=>exact .c _ _ (.lit _)
  | .b,_,x=>exact .c _ _ (.lit _)
  | .s,_,x=>exact .c _ _ (.lit _)
  | .st k,h,x =>
    refine .agg ((Ty.enc (.st k) x).map vS) ((Ty.enc (.st k) x).map .c) (by simp) fun i v d hv hd=>?_
    rw [List.getElem?_map] at hv hd
    cases hx:(Ty.enc (.st k) x)[i]? with
    | none=>rw [hx] at hv;cases hv
    | some y =>
      rw [hx] at hv hd
      cases hv;cases hd
      refine .c _ _ ?_
      have e:=Hh (lf k) (Hy k x) h y (List.mem_of_getElem? hx)
      rw [e]
      exact .lit _
theorem Ja (hH:ar E w H) {x:Operand} (ho:o.op = .entry x) {vx:V} (hx:ak E w (ρ x) vx) (h:vu H vx = some r) (hp:∀ p∈r.pre,p):jf P ρ o E w r:=by
  unfold vu at h
  split at h
  · next q k i j =>
    split at h
    · next m s l hg =>
      cases hb0:Nat.beq (i*k+j) 0 with
      | false=>rw [hb0] at h;cases h
      | true =>
        rw [hb0,cond_true] at h
        have h0:=Nat.eq_of_beq_eq_true hb0
        split at h
        · next q2 tm kt vt ks vs p l' hm =>
          cases hkt:kt.key with
          | false=>rw [hkt] at h;cases h
          | true =>
          rw [hkt,cond_true] at h
          cases h
          have hks:ae ks.length s = true:=hp _ (by simp)
          have hks:(ks.length:Int) = s:=by simpa [ae] using hks
          have hp0:0≤p:=hp _ (by simp)
          have hp1:p.toNat < ks.length:=hp _ (by simp)
          obtain ⟨_,hlen,b,bm,sn,seen,c,h1,h2,⟨h3,h5,h6⟩,h4⟩:=hH.at_ _ _ hg
          obtain ⟨bm',e1,hl,hc,hg2⟩:=ip hH h4 hm
          cases e1
          obtain ⟨_,_,k2,b',es,clock,g3,g4,g5,g6,g7,g8,g9⟩:=hH.at_ _ _ hg2
          rw [hc] at g3;cases g3
          have ex:ρ x = .pointer (some ⟨b,0,none⟩):=by
            generalize ρ x = v at hx
            cases hx with
            | ptr _ _ _ _ b' g1 g2 g3=>rw [h1] at g2;cases g2;rw [h0]
          have hlt:p.toNat < es.size:=by rw [g6];exact hp1
          have he:es[p.toNat]? = some es[p.toNat]:=Array.getElem?_eq_getElem hlt
          obtain ⟨a1,a2⟩:=g7 _ _ he
          have a3:=g9 _ _ he
          have hseen:∃ sd:Array Nat,seen = sd.push es[p.toNat].born:=by
            have e2:seen.toList.reverse.map (fun q:Nat=>(q:Int)) = p :: l':=h6
            cases hr:seen.toList.reverse with
            | nil=>rw [hr] at e2;cases e2
            | cons y ys =>
              rw [hr,List.map_cons] at e2
              have e3:(y:Int) = p:=(List.cons.inj e2).1
              refine ⟨ys.reverse.toArray, ?_⟩
              have e4:seen.toList = ys.reverse++[y]:=by rw [← List.reverse_reverse seen.toList,hr,List.reverse_cons]
              apply Array.ext'
              rw [e4,Array.toList_push,a3]
              congr 2
              omega
          obtain ⟨sd,rfl⟩:=hseen
          have hcl:c = clock:=by omega
          subst hcl
          have hr:=run_entry_at (P:=P) w b bm sn sd es c es[p.toNat] h2 g4 (by simp) g5.2.1
          refine ⟨rfl,rfl, .tuple #[es[p.toNat].key,es[p.toNat].val], ?_, .tup [es[p.toNat].key,es[p.toNat].val] _ rfl fun i v d hv hd=>?_⟩
          · simp only [execOp,ho,ex,Sem.run_bind,hr,Result.andThen_ok]
            rfl
          · match i,hv,hd with
            | 0,hv,hd=>cases hv;cases hd;rw [a1];exact Jy hkt _
            | 1,hv,hd=>cases hv;cases hd;exact a2.rep
        · cases h
    · cases h
  · cases h
theorem PY (hH:ar E w H) (hf:¬ E.live nid) {x:Operand} (ho:o.op = .next x true) {vx:V} (hx:ak E w (ρ x) vx) (h:Ao H vx = some r) :
    ∃ E' w' v',(execOp ρ o).run P w = .ok (.value v') w'∧cD E w H nid r E' w' v':=by
  unfold Ao at h
  split at h
  · next q k i j =>
    split at h
    · next s pos hg =>
      cases hb0:Nat.beq (i*k+j) 0 with
      | false=>simp [hb0] at h
      | true =>
        simp only [hb0,cond_true,Option.some.injEq] at h
        have h0:=Nat.eq_of_beq_eq_true hb0
        obtain ⟨hl,hlen,b,hb,hh⟩:=hH.at_ _ _ hg
        have ex:ρ x = .pointer (some ⟨b,0,none⟩):=by
          generalize ρ x = v at hx
          cases hx with
          | ptr _ _ _ _ b' g1 g2 g3=>rw [hb] at g2;cases g2;rw [h0]
        subst h
        have hlt:=dM hh
        refine ⟨_,et w b (.stringIter s (bif Nat.blt pos s.size then pos+D1 s pos else pos)),DD (Nat.blt pos s.size) [.int .i64 pos, .int .i32 (Ej s pos)], ?_,
          sO hH hf hl hb _ (ob:=.raw (.stringIter s (bif Nat.blt pos s.size then pos+D1 s pos else pos))) rfl rfl (fun E' h1 h2 h3 _ _=>⟨h3.trans hlen,b,h1,pU _ hlt⟩) fun _=>.c _ _ (.opt _ _)⟩
        by_cases hp:pos < s.size
        · have hp':Nat.blt pos s.size = true:=by simpa using hp
          have:(Instr.next (.pointer (some ⟨b,0,none⟩)) true o.type).run P w = .ok (.tuple #[.bool true, .int .i64 pos, .int .i32 (Ej s pos)]) (et w b (.stringIter s (pos+D1 s pos))):=by
            simp [Instr.next,getObj,setObj,Sem.run,hh,hp,goInt,Ej,D1,et]
          rw [hp']
          simp only [execOp,ho,ex,Sem.run_bind,this,Result.andThen_ok]
          rfl
        · have hp':Nat.blt pos s.size = false:=by
            cases hc:Nat.blt pos s.size with
            | false=>rfl
            | true=>rw [Nat.blt_eq] at hc;exact (hp hc).elim
          have hw:et w b (.stringIter s pos) = w:=by
            unfold et
            congr 1
            apply Array.ext_getElem?
            intro i
            by_cases e:b = i
            · subst e;rw [Array.getElem?_setIfInBounds,if_pos rfl,if_pos hlt,hh]
            · rw [Array.getElem?_setIfInBounds,if_neg e]
          have:(Instr.next (.pointer (some ⟨b,0,none⟩)) true o.type).run P w = .ok (.tuple #[.bool false]) w:=by
            simp [Instr.next,getObj,Sem.run,hh,hp]
          rw [hp']
          simp only [execOp,ho,ex,Sem.run_bind,this,Result.andThen_ok,cond_false,hw]
          rfl
    · cases h
  · cases h
theorem Bk:∀ (ns:List Int) (s:ByteArray),ns.foldl (fun r n=>r.push (UInt8.ofNat n.toNat)) s = ⟨s.data++(ns.map fun x=>UInt8.ofNat x.toNat).toArray⟩
  | [],s=>by simp
  | n :: ns,s=>by
    rw [List.foldl_cons,Bk ns]
    congr 1
    simp [ByteArray.push]
theorem LH (hH:ar E w H) {s d e:TypeId} (hs:P.underlying s = some (.slice e)) (hd:P.underlying d = some .string) (he:P.underlying e = some (.int .u8)) {x:Operand} (ho:o.op = .convert s d x) {vx:V} (hx:ak E w (ρ x) vx)
    (h:D3 H vx = some r):jf P ρ o E w r:=by
  unfold D3 at h
  cases ha:cE H (.i .u8) vx with
  | none=>rw [ha] at h;cases h
  | some l =>
    rw [ha] at h
    simp only [Option.map_some,Option.some.injEq] at h
    subst h
    obtain ⟨news,hsrc⟩:=oe hH hx ha
    obtain ⟨a,c,ev,hc,hm,hcell⟩:=hsrc.form
    refine ⟨rfl,rfl, .string (uY l), ?_, .lit _⟩
    have hlen:news.length = l.length:=by have:=hsrc.len;simpa [Ty.k] using this
    have hnews:news = l.map (Value.int .u8):=by
      refine List.ext_getElem? fun i=>?_
      by_cases hi:i < l.length
      · have h1:i < news.length:=by omega
        have e1:els (.i .u8) l i = [.lit (.int .u8 l[i])]:=by
          rw [d8,List.getD_eq_getElem?_getD,List.getElem?_eq_getElem hi];rfl
        have hr:=hsrc.rep i 0 (.lit (.int .u8 l[i])) (news[i]) hi (by rw [e1];rfl) (by show news[i*1+0]? = _;rw [Nat.mul_one,Nat.add_zero];exact List.getElem?_eq_getElem h1)
        rw [List.getElem?_eq_getElem h1,List.getElem?_map,List.getElem?_eq_getElem hi]
        simp only [Option.map_some,Option.some.injEq]
        generalize news[i] = z at hr
        cases hr with
        | lit=>rfl
      · rw [List.getElem?_eq_none (by omega),List.getElem?_eq_none (by simp;omega)]
    have key:(Conv.bytesToString (ρ x)).run P w = .ok (.string (uY l)) w:=by
      rw [ev]
      cases l with
      | nil =>
        cases a with
        | none=>rfl
        | some ad =>
          have:=run_bytesToString (P:=P) w ad 0 c [] (by have:=run_loadCells (P:=P) w ad 0 (fun _=>undef) (fun j hj=>by omega);simpa using this)
          rw [List.length_nil,this];rfl
      | cons y l =>
        obtain ⟨ad,rfl,hcl⟩:=hcell (by simp)
        have hload:(loadCells ad (y :: l).length).run P w = .ok ((y :: l).map (Value.int .u8)).toArray w:=by
          have:=run_loadCells_list (P:=P) w ad news (fun j v hv=>hcl j v hv)
          rw [hlen] at this
          rw [this,hnews]
        rw [run_bytesToString w ad (y :: l).length c _ hload,Bk]
        simp [uY]
    rw [ev] at key
    simp [execOp,ho,ev,convert,run_underlying hs,run_underlying hd,run_underlying he,key]
theorem Lt {e:TypeId} {z:List D} (h:pD P e = some z):∃ (i:TypeInfo) (v:Value),P.info? e = some i∧i.zero = some v∧v.cells.size = z.length∧(∀ u∈v.cells.toList,u.oneCell' = true) ∧
    ∀ (ok:Nat→Prop) (w:World) (j:Nat) (d:D) (u:Value),z[j]? = some d→v.cells[j]? = some u→az ok w u d:=by
  have h0:=h
  unfold pD at h0
  split at h0
  · next zv hzv =>
    obtain ⟨i,v,h1,h2,h3,h4⟩:=la hzv
    obtain ⟨i',v',g1,g2,g3,g4,g5⟩:=Ha h
    rw [h1] at g1;cases g1
    rw [h2] at g2;cases g2
    refine ⟨i,v,h1,h2,g3,Jg v h3 h4 (th h0),fun ok w j d u hd hu=>?_⟩
    have:=(cV (E:=T9 ok) (w:=w) v h4).2 j u (.c d) (by rw [Array.getElem?_toList];exact hu) (g4 j d hd)
    cases this with
    | c _ _ h=>exact h
  · cases h0
theorem PW {t:Ty} {l:List t.T} {y:t.T} {off n i:Nat} (h:off+n≤l.length) (hi:i < l.length):els t (yL y l off n) i = if off≤i∧i < off+n then t.enc y else els t l i:=by
  unfold yL
  rw [Fz,List.length_take,Nat.min_eq_left (by omega)]
  by_cases h1:i < off
  · rw [if_pos h1,if_neg (by omega),d8,d8,List.getD_eq_getElem?_getD,List.getElem?_take_of_lt h1,List.getD_eq_getElem?_getD]
  · rw [if_neg h1,Fz,List.length_replicate]
    by_cases h2:i < off+n
    · rw [if_pos (by omega),if_pos ⟨by omega,h2⟩,GK (by omega)]
    · have a1:¬ (i - off < n):=by omega
      have a2:¬ (off≤i∧i < off+n):=by omega
      rw [if_neg a1,if_neg a2,d8,d8,List.getD_eq_getElem?_getD,List.getElem?_drop,List.getD_eq_getElem?_getD]
      congr 3;omega
theorem Ou {T:Type} {l:List T} {y:T} {off n:Nat} (h:off+n≤l.length):(yL y l off n).length = l.length:=by simp [yL];omega
theorem NU (hH:ar E w H) (hf:¬ E.live nid) {c:Call} (ho:o.op = .call c) (hcal:c.callee = .builtin .clear) {x:Operand} (hargs:c.args = #[x]) {t:TypeId} (hat:c.argTypes[0]? = some t) {vx:V} (hx:ak E w (ρ x) vx)
    (h:pH P H t vx = some r) (hp:∀ p∈r.pre,p):∃ E' w' v',(execOp ρ o).run P w = .ok (.value v') w'∧cD E w H nid r E' w' v':=by
  have run:∀ w',(Builtin.clear_ c.argTypes o.type #[ρ x]).run P w = .ok (.tuple #[]) w'→(execOp ρ o).run P w = .ok (.value (.tuple #[])) w':=by
    intro w' hn
    simp [execOp,ho,resolve,hcal,hargs,invoke,builtin,hn]
  have main:∀ (e:TypeId) (z:List D) (q e':Nat) (ty:Ty) (l l':List ty.T) (y:ty.T) (off n:Nat) (a:Option Addr) (cp:Nat),P.underlying t = some (.slice e)→pD P e = some z→af.get H q = some (.row e' ty l)→ky ty z = some y →
      (e' = e∧ty.k = sz P e∧z.length = ty.k∧0 < ty.k)→ρ x = .slice a n cp→n≤cp→E.live q→off+n≤l.length→(0 < n→∃ b,E.conc q = some b∧a = some ⟨b,off*ty.k,none⟩)→l'.length = l.length →
      (∀ i,i < l.length→els ty l' i = if off≤i∧i < off+n then ty.enc y else els ty l i)→r.val = .c .unk→r.eff = [(q,some (.row e' ty l'))]→r.kill = [] →
      ∃ E' w' v',(execOp ρ o).run P w = .ok (.value v') w'∧cD E w H nid r E' w' v':=by
    intro e z q e' ty l l' y off n a cp hu hz hg hy hcs hv hc hn hlen ha hll hel hrv hre hrk
    obtain ⟨rfl,hk1,hk2,hk0⟩:=hcs
    obtain ⟨hl,hob⟩:=hH.at_ _ _ hg
    obtain ⟨i,zv,z1,z2,z3,z4,z5⟩:=Lt hz
    have hyl:=l9 ty _ _ hy
    rw [hv] at run
    by_cases hn0:n = 0
    · subst hn0
      have hS:du E w [] (E.next nid none 0 0 E.ok) w:=cM hf none 0 0 E.ok (.refl _ _) (by simp) (fun _ h=>h) (fun _ h=>.inl h)
      have hN:ar (E.next nid none 0 0 E.ok) w H:=cZ hf hH (.refl _ _) (by simp) (fun _ h=>h) (fun _ h=>.inl h) hH.oklt
      refine ⟨_,w, .tuple #[],run w ?_,by rw [hrk];exact hS, ?_,by rw [hrv];exact .c _ _ (.unk _),bQ⟩
      · cases a <;> simp [Builtin.clear_,hat,run_underlying hu]
      · rw [hre,hrk]
        refine jq hN (hN.at_ _ _ hg).1 ?_
        exact DB.congr (hN.at_ _ _ hg).2 rfl hll.symm fun i hi=>by
          rw [hel i hi,if_neg (by omega)];exact .refl _
    · obtain ⟨b,hb,rfl⟩:=ha (by omega)
      obtain ⟨hlen2,hrow⟩:=hob
      obtain ⟨b',C,c1,c2,c3,c4,c5,c6,c7,c8⟩:=hrow.resolve_left (fun h=>by rw [hb] at h;cases h.1)
      rw [hb] at c1;cases c1
      have hfit:off*ty.k+n*ty.k≤C.size:=by
        rw [c3, ← Nat.add_mul]
        exact Nat.mul_le_mul_right _ (by omega)
      have hzl:(Builtin.zeroCells zv.cells n).toList.length = n*ty.k:=by simp [Builtin.zeroCells,z3,hk2]
      have hzu:∀ q u,(Builtin.zeroCells zv.cells n).toList[q]? = some u→q < n*ty.k∧zv.cells[q % ty.k]? = some u:=by
        intro q u hq
        have hlt:=(List.getElem?_eq_some_iff.1 hq).1
        rw [hzl] at hlt
        refine ⟨hlt, ?_⟩
        have hm:q % ty.k < zv.cells.size:=by rw [z3,hk2];exact Nat.mod_lt _ hk0
        rw [Array.getElem?_toList] at hq
        unfold Builtin.zeroCells at hq
        rw [Array.getElem?_map,z3,hk2,Array.getElem?_range,if_pos hlt] at hq
        simp only [Option.map_some,Option.some.injEq] at hq
        rw [getElem!_pos zv.cells _ hm] at hq
        rw [Array.getElem?_eq_getElem hm,hq]
      have hone:∀ u∈(Builtin.zeroCells zv.cells n).toList,u.oneCell' = true:=by
        intro u hu'
        obtain ⟨q,hq⟩:=List.getElem?_of_mem hu'
        obtain ⟨_,h2⟩:=hzu q u hq
        exact z4 u (List.mem_of_getElem? (by rw [Array.getElem?_toList];exact h2))
      have hst:=run_storeCells_at P b (off*ty.k) e' (Builtin.zeroCells zv.cells n).toList 0 C w c2 (by rw [hzl];exact hfit) hone
      rw [Nat.add_zero] at hst
      rw [hzl] at hst
      generalize hC':(C.toList.take (off*ty.k)++(Builtin.zeroCells zv.cells n).toList++C.toList.drop (off*ty.k+n*ty.k)).toArray = C' at hst
      have hrow':w.setRow b C' = et w b (.cells C' e' (0,0)):=by
        have hlt:=dM c2
        have h1:=setRow_heap w b C C' e' (0,0) c2
        unfold World.setRow et
        unfold World.setRow at h1
        congr 1
        apply Array.ext_getElem?
        intro j
        by_cases e:b = j
        · subst e
          rw [Array.getElem?_setIfInBounds,if_pos rfl,if_pos hlt]
          exact h1
        · rw [Array.getElem?_setIfInBounds,if_neg e,Array.getElem?_modify,if_neg e]
      have hget:∀ q,C'[q]? = if off*ty.k≤q∧q < off*ty.k+n*ty.k then (Builtin.zeroCells zv.cells n).toList[q - off*ty.k]? else C[q]?:=by
        intro q
        rw [← hC',List.getElem?_toArray]
        have ht:(C.toList.take (off*ty.k)).length = off*ty.k:=by rw [List.length_take,Array.length_toList];omega
        by_cases h1:q < off*ty.k
        · rw [if_neg (by omega),List.append_assoc,List.getElem?_append_left (by omega),List.getElem?_take_of_lt h1,Array.getElem?_toList]
        · by_cases h2:q < off*ty.k+n*ty.k
          · rw [if_pos ⟨by omega,h2⟩,List.append_assoc,List.getElem?_append_right (by omega),ht,List.getElem?_append_left (by omega)]
          · rw [if_neg (by omega),List.getElem?_append_right (by rw [List.length_append];omega),List.length_append,ht,hzl,List.getElem?_drop,Array.getElem?_toList]
            congr 1;omega
      have hsz:C'.size = C.size:=by
        rw [← hC']
        simp [hzl]
        omega
      refine ⟨_,et w b (.cells C' e' (0,0)), .tuple #[],run _ ?_,sO hH hf hl hb _ (ob:=.row e' ty l') hre hrk (fun E' h1 h2 h3 hr hd=>⟨(h3.trans hlen2).trans hll.symm, .inr ⟨b,C',h1,pU _ (dM c2),by rw [hsz,h2];exact c3,by rw [h2,hll];exact c4,by rw [h2];exact c5,fun i hi=>dT ty l' i, ?_, ?_⟩⟩) fun _=>by rw [hrv];exact .c _ _ (.unk _)⟩
      · obtain ⟨n',rfl⟩:∃ n',n = n'+1:=⟨n - 1,by omega⟩
        have hzv:=gE (P:=P) (w:=w) z1 z2
        simp [Builtin.clear_,hat,run_underlying hu,hzv,hst,hrow']
      · intro q' j u hq hj hu'
        rw [hll] at hq
        rw [hget] at hu'
        split at hu'
        · exact hone u (List.mem_of_getElem? hu')
        · exact c7 q' j u hq hj hu'
      · intro q' j d u hq hd' hu'
        rw [hll] at hq
        rw [hget] at hu'
        rw [hel q' hq] at hd'
        by_cases hc:off≤q'∧q' < off+n
        · rw [if_pos hc] at hd'
          have hj:j < ty.k:=by rw [← ik ty y];exact (List.getElem?_eq_some_iff.1 hd').1
          have a1:off*ty.k≤q'*ty.k:=Nat.mul_le_mul_right _ hc.1
          have a2:(q'+1)*ty.k≤(off+n)*ty.k:=Nat.mul_le_mul_right _ hc.2
          rw [Nat.add_mul,Nat.one_mul,Nat.add_mul] at a2
          rw [if_pos ⟨by omega,by omega⟩] at hu'
          obtain ⟨_,h2⟩:=hzu _ _ hu'
          have:(q'*ty.k+j - off*ty.k) % ty.k = j:=by
            obtain ⟨p,rfl⟩:∃ p,q' = off+p:=⟨q' - off,by omega⟩
            rw [Nat.add_mul,show off*ty.k+p*ty.k+j - off*ty.k = j+p*ty.k by omega,Nat.add_mul_mod_self_right,Nat.mod_eq_of_lt hj]
          rw [this] at h2
          obtain ⟨d0,hd0,hdd⟩:=hyl.at hd'
          exact (z5 _ _ j d0 u hd0 h2).le hdd
        · rw [if_neg hc] at hd'
          have hj:j < ty.k:=by rw [← c6 q' hq];exact (List.getElem?_eq_some_iff.1 hd').1
          have hno:¬ (off*ty.k≤q'*ty.k+j∧q'*ty.k+j < off*ty.k+n*ty.k):=by
            rintro ⟨g1,g2⟩
            by_cases h1:off≤q'
            · have h2:off+n≤q':=by omega
              have:=Nat.mul_le_mul_right ty.k h2
              rw [Nat.add_mul] at this
              omega
            · have:(q'+1)*ty.k≤off*ty.k:=Nat.mul_le_mul_right _ (by omega)
              rw [Nat.add_mul,Nat.one_mul] at this
              omega
          rw [if_neg hno] at hu'
          exact hd _ _ (c8 q' j d u hq hd' hu')
  unfold pH at h
  split at h
  · next e hu =>
    split at h
    · next z hz =>
      split at h
      · next q k =>
        split at h
        · next e' ty l hg =>
          split at h
          · next y hy =>
            cases hs:(Nat.beq e' e&&Nat.beq ty.k k&&Nat.beq k (sz P e)&&Nat.beq z.length k&&Nat.blt 0 k&&bS P e) with
            | false=>simp [hs] at h
            | true =>
              simp only [hs,cond_true,Option.some.injEq] at h
              simp only [Bool.and_eq_true,Nat.beq_eq,Nat.blt_eq] at hs
              obtain ⟨⟨⟨⟨⟨rfl,rfl⟩,hk1⟩,hk2⟩,hk0⟩,hkn⟩:=hs
              subst h
              have hlen:E.len q = l.length:=(hH.at_ _ _ hg).2.1
              generalize hv:ρ x = v at hx
              cases hx with
              | row _ _ a n cp hn hl hc hm h0 =>
                have hnl:n = l.length:=hl.trans hlen
                subst hnl
                exact main e' z q e' ty l _ y 0 l.length a cp hu hz hg hy ⟨rfl,hk1,hk2,hk0⟩ hv hc hn (by omega) (fun h=>by
                  rcases h0 with ⟨_,h0,_⟩ | ⟨b,hb,ha,_⟩
                  · omega
                  · exact ⟨b,hb,by rw [ha,Nat.zero_mul]⟩) (by simp) (fun i hi=>by rw [GK hi,if_pos (by omega)]) rfl rfl rfl
          · cases h
        · cases h
      · next q k off n =>
        split at h
        · next e' ty l hg =>
          split at h
          · next y hy =>
            cases hs:(Nat.beq e' e&&Nat.beq ty.k k&&Nat.beq k (sz P e)&&Nat.beq z.length k&&Nat.blt 0 k&&bS P e) with
            | false=>simp [hs] at h
            | true =>
              simp only [hs,cond_true,Option.some.injEq] at h
              simp only [Bool.and_eq_true,Nat.beq_eq,Nat.blt_eq] at hs
              obtain ⟨⟨⟨⟨⟨rfl,rfl⟩,hk1⟩,hk2⟩,hk0⟩,hkn⟩:=hs
              subst h
              have hp1:off+n≤l.length:=hp _ (by simp)
              generalize hv:ρ x = v at hx
              cases hx with
              | sub _ _ _ _ a cp hn hc hm hl ha =>
                exact main e' z q e' ty l _ y off n a cp hu hz hg hy ⟨rfl,hk1,hk2,hk0⟩ hv hc hn hp1 ha (Ou hp1) (fun i hi=>PW hp1 hi) rfl rfl rfl
          · cases h
        · cases h
      · cases h
    · cases h
  · cases h
end
end Go.Ax
namespace Go.Ax
open Go.RowKit
def gg (ok:Nat→Prop):an:=⟨fun _=>none,fun _=>0,fun _=>0,fun _=>False,ok⟩
def Dq (ok:Nat→Prop) (w w':World) (v:Value):jU→Prop
  | .data d=>ak (gg fun b=>ok b∨(w.heap.size≤b∧b < w'.heap.size)) w' v d
  | .new d=>ak (gg fun b=>w.heap.size≤b∧b < w'.heap.size) w' v d
  | .own fr e t l=>∃ xs,w'.ownsRow w.heap.size e t.k v l.length xs∧(∀ i j u,i < l.length→j < t.k→xs[i*t.k+j]? = some u→u.oneCell' = true) ∧
      ∀ i j d u,i < l.length→(els t l i)[j]? = some d→xs[i*t.k+j]? = some u→az (fun b=>(fr = false∧ok b)∨(w.heap.size≤b∧b < w'.heap.size∧v.ownBlock≠some b)) w' u d
def jE (P:Program) (f:FuncId) (args:Array Value) (w:World) (R:Value→World→Prop):Prop :=
  ((callFunc f args).run P w = .ok (.enter f args) w∧Calls P f args w fun e w'=>∃ v,e = .returned v∧R v w')∨∃ v w',(callFunc f args).run P w = .ok (.value v) w'∧R v w'
theorem jE.mono {P:Program} {f:FuncId} {args:Array Value} {w:World} {R R':Value→World→Prop} (h:jE P f args w R) (hr:∀ v w',R v w'→R' v w'):jE P f args w R':=by
  rcases h with ⟨h1,h2⟩ | ⟨v,w',h1,h2⟩
  · refine .inl ⟨h1,h2.mono ?_⟩
    rintro e w' ⟨v,rfl,h⟩
    exact ⟨v,rfl,hr v w' h⟩
  · exact .inr ⟨v,w',h1,hr v w' h2⟩
def Oh (P:Program) (f:FuncId) (con:Mt):Prop :=
  ∀ (ok:Nat→Prop) (w:World) (xs:List Value) (vs:List V) (p:Bool) (out:jU),aJ (gg ok) w xs vs→(∀ b,ok b→b < w.heap.size)→con vs = some (p,out)→p = true →
    jE P f xs.toArray w fun v w'=>Below w.heap.size w w'∧Dq ok w w' v out
def aY (P:Program) (f:FuncId):CC→Prop
  | .pure c=>Oh P f c
  | .mut m=>∀ (E:an) (w:World) (H:af) (nid:Nat) (xs:List Value) (args:List V) (r:ay),ar E w H→fZ E nid→aJ E w xs args→m (bn (aH H args) H) nid args = some r→(∀ p∈r.pre,p) →
    jE P f xs.toArray w fun v w'=>∃ E',cD E w H nid r E' w' v
section
variable {P:Program} {ρ:Operand→Value} {E:an} {w w':World} {o:Oper} {r:ay} {H:af} {nid:Nat}
theorem gM (H:af):∀ vs:List V,(V.views H vs).length = vs.length
  | []=>rfl
  | _ :: r=>by simp [V.views,gM H r]
theorem lg (H:af):∀ (vs:List V) (i:Nat),(V.views H vs)[i]? = (vs[i]?).map (V.view H)
  | [],i=>by simp [V.views]
  | v :: r,0=>by simp [V.views]
  | v :: r,i+1=>by simp [V.views,lg H r i]
theorem rB {ok':Nat→Prop} (hok:∀ b,E.ok b→ok' b) (hown:∀ q b,E.live q→E.conc q = some b→ok' b) {v:Value} {t:Ty} {l:List t.T} {news:List Value} (h:I7 E w v t.k l.length (els t l) news):az ok' w v (.sl t l):=by
  obtain ⟨a,c,rfl,hc,hm,hcell⟩:=h.form
  have hlt:∀ i j,i < l.length→j < t.k→i*t.k+j < news.length:=by
    intro i j hi hj
    rw [h.len]
    have:(i+1)*t.k≤l.length*t.k:=Nat.mul_le_mul_right _ hi
    rw [Nat.add_mul,Nat.one_mul] at this
    omega
  refine .sl t l a l.length c t.k (els t l) (fun i j=>news.getD (i*t.k+j) undef) rfl rfl (fun _ _=>rfl) hc hm (fun hn=>?_) (fun i j hi hj=>?_) h.els (fun i j d hi hd=>?_)
  · obtain ⟨ad,rfl,hq⟩:=hcell hn
    refine ⟨ad,rfl, ?_,fun i j hi hj=>hq _ _ ?_⟩
    · rcases h.blk ad _ c rfl hn with h | ⟨q,h1,h2⟩
      · exact hok _ h
      · exact hown q _ h1 h2
    · rw [List.getD_eq_getElem?_getD,List.getElem?_eq_getElem (hlt i j hi hj)];rfl
  · refine h.one _ ?_
    show news.getD (i*t.k+j) undef∈news
    rw [List.getD_eq_getElem?_getD,List.getElem?_eq_getElem (hlt i j hi hj)]
    exact List.getElem_mem _
  · have hj:j < t.k:=by rw [← h.els i hi];exact (List.getElem?_eq_some_iff.1 hd).1
    refine (h.rep i j d (news.getD (i*t.k+j) undef) hi hd ?_).mono hok (fun _ _=>rfl)
    rw [List.getD_eq_getElem?_getD,List.getElem?_eq_getElem (hlt i j hi hj)]
    rfl
theorem lF (t:Ty) (l:List t.T):lu t t l = some l:=by rw [lu,dif_pos rfl]
theorem Js {ok':Nat→Prop} (hH:ar E w H) (hok:∀ b,E.ok b→ok' b) (hown:∀ q b,E.live q→E.conc q = some b→ok' b) {v:Value} {o' k:Nat} (h:ak E w v (.row o' k)) :
    ∃ d,sj H o' k = .c d∧az ok' w v d:=by
  unfold sj
  split
  · next e t l hg =>
    cases hs:Nat.beq t.k k with
    | false=>exact ⟨.unk,rfl, .unk _⟩
    | true =>
      have ha:cE H t (.row o' k) = some l:=by simp [cE,hg,hs,lF]
      obtain ⟨news,hsrc⟩:=oe hH h ha
      exact ⟨_,rfl,rB hok hown hsrc⟩
  · exact ⟨.unk,rfl, .unk _⟩
theorem IV {ok':Nat→Prop} (hH:ar E w H) (hok:∀ b,E.ok b→ok' b) (hown:∀ q b,E.live q→E.conc q = some b→ok' b) {v:Value} {o' k off n:Nat} (h:ak E w v (.sub o' k off n)) :
    ∃ d,rL H o' k off n = .c d∧az ok' w v d:=by
  unfold rL
  split
  · next e t l hg =>
    cases hs:Nat.beq t.k k with
    | false=>exact ⟨.unk,rfl, .unk _⟩
    | true =>
      have ha:cE H t (.sub o' k off n) = some (ao l off n):=by simp [cE,hg,hs,lF]
      obtain ⟨news,hsrc⟩:=oe hH h ha
      exact ⟨_,rfl,rB hok hown hsrc⟩
  · exact ⟨.unk,rfl, .unk _⟩
theorem PO {ok':Nat→Prop} (hH:ar E w H) (hok:∀ b,E.ok b→ok' b) (hown:∀ q b,E.live q→E.conc q = some b→ok' b) {v:Value} {d:V} (h:ak E w v d):az ok' w v (pm H d):=by
  unfold pm
  split
  · cases h with | c _ _ h=>exact h.mono hok fun _ _=>rfl
  · next o' k =>
    obtain ⟨d,hd,hr⟩:=Js hH hok hown h
    rw [hd]
    exact hr
  · next o' k off n =>
    obtain ⟨d,hd,hr⟩:=IV hH hok hown h
    rw [hd]
    exact hr
  · exact .unk _
theorem BE {ok':Nat→Prop} (hH:ar E w H) (hok:∀ b,E.ok b→ok' b) {v:Value} {d:V} (h:ak E w v d) :
    ((∀ q b,E.live q→E.conc q = some b→ok' b)∨d.refs = [])→ak (gg ok') w v (d.view H):=by
  induction h with
  | c v d h =>
    intro _
    exact .c _ _ (h.mono hok fun _ _=>rfl)
  | agg vs ds hl h ih =>
    intro hd
    rw [V.view]
    refine .agg _ _ (by rw [gM,hl]) fun i v d hv hd'=>?_
    rw [lg] at hd'
    cases hx:ds[i]? with
    | none=>rw [hx] at hd'; cases hd'
    | some x =>
      rw [hx] at hd'; cases hd'
      exact ih i v x hv hx (hd.imp id fun hr=>refs_nil hr hx)
  | tup vs ds hl h ih =>
    intro hd
    rw [V.view]
    refine .tup _ _ (by rw [gM,hl]) fun i v d hv hd'=>?_
    rw [lg] at hd'
    cases hx:ds[i]? with
    | none=>rw [hx] at hd'; cases hd'
    | some x =>
      rw [hx] at hd'; cases hd'
      exact ih i v x hv hx (hd.imp id fun hr=>refs_nil hr hx)
  | ptr o' k i j b hn hb hi =>
    intro hd
    have hown:∀ q b,E.live q→E.conc q = some b→ok' b:=hd.resolve_right (by simp [V.refs])
    rw [V.view]
    unfold Jp
    split
    · next e ty l hg =>
      cases hs:Nat.beq ty.k k with
      | false=>exact .unk _
      | true =>
        have hkk:ty.k = k:=Nat.eq_of_beq_eq_true hs
        subst hkk
        simp only [cond_true]
        obtain ⟨C,h2,h3,h4,h6,h7,h8⟩:=oP hH hg hb
        obtain ⟨_,hlen,_⟩:=hH.at_ _ _ hg
        have him:i < l.length:=by omega
        have hik:(i+1)*ty.k≤E.cap o'*ty.k:=Nat.mul_le_mul_right _ (by omega)
        rw [Nat.add_mul,Nat.one_mul] at hik
        have hq:∀ q,q < ty.k→C[i*ty.k+q]? = some (C.getD (i*ty.k+q) undef):=by
          intro q hq
          have:i*ty.k+q < C.size:=by omega
          simp [Array.getD,this]
        have:=ak.dptr (E:=gg ok') (w:=w) ty.k (els ty l i) j ⟨b,i*ty.k,none⟩ (fun q=>C.getD (i*ty.k+q) undef) (hown o' b hn hb)
          (fun q hq'=>by rw [bY,cell_of_row w b _ C e (0,0) h2];exact hq q hq') (h6 i him)
          (fun q d hd'=>by
            have hqk:q < ty.k:=by rw [← h6 i him];exact (List.getElem?_eq_some_iff.1 hd').1
            exact (h8 i q d _ him hd' (hq q hqk)).mono hok fun _ _=>rfl)
        rwa [bY] at this
    · next cs hg =>
      cases hs:Nat.beq cs.length k with
      | false=>exact .unk _
      | true =>
        have hkk:cs.length = k:=Nat.eq_of_beq_eq_true hs
        simp only [cond_true]
        obtain ⟨_,hlen,b',C,te,h1,h2,h3⟩:=hH.at_ _ _ hg
        rw [h1] at hb;cases hb
        have hi0:i = 0:=by omega
        subst hi0
        have hq:∀ q,q < k→C[q]? = some (C.getD q undef):=by
          intro q hq
          have:q < C.size:=by have:=h3.1;simp at this;omega
          simp [Array.getD,this]
        have:=ak.dptr (E:=gg ok') (w:=w) k (cs.map (pm H)) j ⟨b,0,none⟩ (fun q=>C.getD q undef) (hown o' b hn h1)
          (fun q hq'=>by rw [bY,Nat.zero_add,cell_of_row w b _ C te (0,0) h2];exact hq q hq') (by simpa using hkk)
          (fun q d hd'=>by
            rw [List.getElem?_map] at hd'
            cases hx:cs[q]? with
            | none=>rw [hx] at hd'; cases hd'
            | some x =>
              rw [hx] at hd'; cases hd'
              have hqk:q < k:=by rw [← hkk];exact (List.getElem?_eq_some_iff.1 hx).1
              exact PO hH hok hown (h3.2 q _ x (by rw [Array.getElem?_toList];exact hq q hqk) hx))
        rw [bY,Nat.zero_add] at this
        simpa using this
    · exact .c _ _ (.unk _)
    · exact .c _ _ (.unk _)
    · exact .c _ _ (.unk _)
    · exact .c _ _ (.unk _)
  | row o' k a n c hn hl hc hm h0 =>
    intro hd
    have hown:∀ q b,E.live q→E.conc q = some b→ok' b:=hd.resolve_right (by simp [V.refs])
    rw [V.view]
    obtain ⟨d,hd',hr⟩:=Js hH hok hown (.row o' k a n c hn hl hc hm h0)
    rw [hd']
    exact .c _ _ hr
  | sub o' k off n a c hn hc hm hl ha =>
    intro hd
    have hown:∀ q b,E.live q→E.conc q = some b→ok' b:=hd.resolve_right (by simp [V.refs])
    rw [V.view]
    obtain ⟨d,hd',hr⟩:=IV hH hok hown (.sub o' k off n a c hn hc hm hl ha)
    rw [hd']
    exact .c _ _ hr
  | dptr k cs j ad u hok' hcell hl hu =>
    intro _
    rw [V.view]
    exact .dptr k cs j ad u (hok _ hok') hcell hl fun i d hd=>(hu i d hd).mono hok fun _ _=>rfl
  | fn f vs ds hl h ih =>
    intro hd
    rw [V.view]
    refine .fn _ _ _ (by rw [gM,hl]) fun i v d hv hd'=>?_
    rw [lg] at hd'
    cases hx:ds[i]? with
    | none=>rw [hx] at hd'; cases hd'
    | some x =>
      rw [hx] at hd'; cases hd'
      exact ih i v x hv hx (hd.imp id fun hr=>refs_nil hr hx)
where
  refs_nil {ds:List V} {i:Nat} {x:V} (h:V.refss ds = []) (hx:ds[i]? = some x):x.refs = []:=by
    cases hr:x.refs with
    | nil=>rfl
    | cons a l =>
      have:a∈V.refss ds:=cN hx (by rw [hr];simp)
      rw [h] at this
      simp at this
theorem IR {vs:List V} (h:gG vs = false):V.refss vs = []:=by
  unfold gG at h
  split at h
  · assumption
  · cases h
mutual
theorem scalar_rep {ok:Nat→Prop} {w w':World} {E':an}:∀ (d:V) {v:Value},d.scalar = true→ak (gg ok) w v d→ak E' w' v d
  | .c d,v,hs,h=>by
    cases h with
    | c _ _ h =>
      cases h with
      | unk=>exact .unk _
      | nil=>exact .c _ _ .nil
      | lit=>exact .lit _
      | opt=>simp [V.scalar] at hs
      | any v h1=>exact .c _ _ (.any v h1)
      | sl=>simp [V.scalar] at hs
  | .agg ds,v,hs,h=>by
    cases h with
    | agg vs _ hl h=>exact .agg _ _ hl fun i v d hv hd=>scalars_rep ds (by simpa [V.scalar] using hs) i d v hd (h i v d hv hd)
  | .tup ds,v,hs,h=>by
    cases h with
    | tup vs _ hl h=>exact .tup _ _ hl fun i v d hv hd=>scalars_rep ds (by simpa [V.scalar] using hs) i d v hd (h i v d hv hd)
  | .ptr ..,v,hs,h=>by simp [V.scalar] at hs
  | .row ..,v,hs,h=>by simp [V.scalar] at hs
  | .sub ..,v,hs,h=>by simp [V.scalar] at hs
  | .dptr ..,v,hs,h=>by simp [V.scalar] at hs
  | .fn ..,v,hs,h=>by simp [V.scalar] at hs
theorem scalars_rep {ok:Nat→Prop} {w w':World} {E':an}:∀ (ds:List V),V.scalars ds = true→∀ (i:Nat) (d:V) (v:Value),ds[i]? = some d→ak (gg ok) w v d→ak E' w' v d
  | [],hs,i,d,v,hd,h=>by simp at hd
  | x :: r,hs,0,d,v,hd,h=>by
    simp only [V.scalars,Bool.and_eq_true] at hs
    simp at hd;subst hd
    exact scalar_rep x hs.1 h
  | x :: r,hs,i+1,d,v,hd,h=>by
    simp only [V.scalars,Bool.and_eq_true] at hs
    exact scalars_rep r hs.2 i d v (by simpa using hd) h
end
theorem HE {ok:Nat→Prop} {E':an} (hok:∀ b,ok b→E'.ok b) {v:Value} {d:V} (h:ak (gg ok) w v d):ak E' w v d :=
  h.mono (E:=gg ok) (kl:=[]) hok (fun _ _=>rfl) (fun o (ho:False)=>ho.elim) (fun o (ho:False)=>ho.elim) (PH d)
theorem Da (hH:ar E w H) (hf:fZ E nid) {C:FuncId→Option CC} (hC:∀ f con,C f = some con→aY P f con) {f:FuncId} {args:List V} {xs:List Value} (hx:aJ E w xs args)
    (h:iu C H nid f args = some r) (hp:∀ p∈r.pre,p) :
    jE P f xs.toArray w fun v w'=>∃ E',cD E w H nid r E' w' v:=by
  unfold iu at h
  split at h
  · cases h
  · next m hm=>exact hC f (.mut m) hm E w H nid xs args r hH hf hx h hp
  · next con hcon =>
    have hmeet:Oh P f con:=hC f (.pure con) hcon
    have view:∀ ok':Nat→Prop,(∀ b,E.ok b→ok' b)→((∀ q b,E.live q→E.conc q = some b→ok' b)∨gG args = false)→aJ (gg ok') w xs (V.views H args):=by
      intro ok' h1 h2
      refine ⟨by rw [gM];exact hx.1,fun i v d hv hd=>?_⟩
      rw [lg] at hd
      cases hy:args[i]? with
      | none=>rw [hy] at hd;cases hd
      | some y =>
        rw [hy] at hd;cases hd
        exact BE hH h1 (hx.2 i v y hv hy) (h2.imp id fun h=>BE.refs_nil (IR h) hy)
    have dat:∀ (w':World),Below w.heap.size w w'→du E w [] (E.next nid none 0 0 fun b=>E.ok b∨(w.heap.size≤b∧b < w'.heap.size)) w'∧ar (E.next nid none 0 0 fun b=>E.ok b∨(w.heap.size≤b∧b < w'.heap.size)) w' H:=by
      intro w' hb
      refine ⟨cM hf.one none 0 0 _ hb (by simp) (fun _ h=>.inl h) (fun b h=>h.imp id (·.1)),cZ hf.one hH hb (by simp) (fun _ h=>.inl h) (fun b h=>h.imp id (·.1)) fun b h=>?_⟩
      rcases h with h | h
      · have:=hH.oklt b h;have:=hb.size;omega
      · exact h.2
    have full:∀ q b,E.live q→E.conc q = some b→(fun b=>E.ok b∨∃ q,E.live q∧E.conc q = some b) b:=fun q b hq hb=>.inr ⟨q,hq,hb⟩
    have fulllt:∀ b,(fun b=>E.ok b∨∃ q,E.live q∧E.conc q = some b) b→b < w.heap.size:=by
      rintro b (h | ⟨q,h1,h2⟩)
      · exact hH.oklt b h
      · exact hH.lt q b h1 h2
    split at h
    · cases h
    · next p v hcv =>
      cases hs:((!gG args)||v.scalar) with
      | false=>simp [hs] at h
      | true =>
        simp only [hs,cond_true,Option.some.injEq] at h
        subst h
        have hpp:p = true:=hp _ (by simp)
        cases ha:gG args with
        | false =>
          refine (hmeet E.ok w xs _ p _ (view E.ok (fun _ h=>h) (.inr ha)) hH.oklt hcv hpp).mono ?_
          rintro u w' ⟨hb,hout⟩
          obtain ⟨hS,hN⟩:=dat w' hb
          exact ⟨_,hS,hN,HE (fun _ h=>h) hout,bQ⟩
        | true =>
          have hsc:v.scalar = true:=by simpa [ha] using hs
          refine (hmeet _ w xs _ p _ (view _ (fun _ h=>.inl h) (.inl full)) fulllt hcv hpp).mono ?_
          rintro u w' ⟨hb,hout⟩
          obtain ⟨hS,hN⟩:=dat w' hb
          exact ⟨_,hS,hN,scalar_rep v hsc hout,bQ⟩
    · next p v hcv =>
      cases h
      have hpp:p = true:=hp _ (by simp)
      refine (hmeet _ w xs _ p _ (view _ (fun _ h=>.inl h) (.inl full)) fulllt hcv hpp).mono ?_
      rintro u w' ⟨hb,hout⟩
      obtain ⟨hS,hN⟩:=dat w' hb
      exact ⟨_,hS,hN,HE (E':=E.next nid none 0 0 fun b=>E.ok b∨(w.heap.size≤b∧b < w'.heap.size)) (fun _ h=>Or.inr h) hout,bQ⟩
    · next p fr e t l hcv =>
      cases hs:((!gG args)||fr) with
      | false=>simp [hs] at h
      | true =>
        simp only [hs,cond_true,Option.some.injEq] at h
        subst h
        have hpp:p = true:=hp _ (by simp)
        have fin:∀ (ok:Nat→Prop) (w':World) (u:Value),(fr = false→∀ b,ok b→E.ok b)→Below w.heap.size w w'→Dq ok w w' u (.own fr e t l) →
            ∃ E',cD E w H nid { pre:=[p = true],val:=.row nid t.k,eff:=[(nid,some (.row e t l))] } E' w' u:=by
          rintro ok w' u hfr hb ⟨ys,hown,h7,h8⟩
          have hlt:=hown.lt
          have hown0:w'.ownsRow 0 e t.k u l.length ys:=⟨hown.1,hown.2.imp id fun ⟨g,cap,cur,a,_,c⟩=>⟨g,cap,cur,a,Nat.zero_le _,c⟩⟩
          let ok':Nat→Prop:=fun b=>E.ok b∨(w.heap.size≤b∧b < w'.heap.size∧u.ownBlock≠some b)
          have h1:∀ b,u.ownBlock = some b→w.heap.size≤b∧b < w'.heap.size∧¬ ok' b:=by
            intro b hb'
            obtain ⟨a1,a2⟩:=hlt b hb'
            refine ⟨a1,a2, ?_⟩
            rintro (h | ⟨_,_,h⟩)
            · have:=hH.oklt b h;omega
            · exact h hb'
          have h2:∀ b,ok' b→E.ok b∨w.heap.size≤b:=fun b h=>h.imp id (·.1)
          have h3:∀ b,ok' b→b < w'.heap.size:=by
            rintro b (h | h)
            · have:=hH.oklt b h;have:=hb.size;omega
            · exact h.2.1
          have hS:du E w [] (E.next nid u.ownBlock (iX u) l.length ok') w':=cM hf.one _ _ _ ok' hb (fun b h=>(h1 b h).1) (fun _ h=>.inl h) h2
          have hN:=cZ (cap:=iX u) (len:=l.length) hf.one hH hb h1 (fun _ h=>.inl h) h2 h3
          have hob:=np (E':=E.next nid u.ownBlock (iX u) l.length ok') (q:=nid) hown0 (by simp [an.next]) (by simp [an.next]) (by intro a m c e;simp [an.next,e,iX]) h7
            (fun i j d x hi hd hx=>(h8 i j d x hi hd hx).mono (fun b hb'=>by
              rcases hb' with ⟨h,h'⟩ | h
              · exact .inl (hfr h b h')
              · exact .inr h) fun _ _=>rfl)
          exact ⟨_,hS,jq hN (.inl rfl) hob.1,hob.2 (.inl rfl),bQ⟩
        cases ha:gG args with
        | false =>
          refine (hmeet E.ok w xs _ p _ (view E.ok (fun _ h=>h) (.inr ha)) hH.oklt hcv hpp).mono ?_
          rintro u w' ⟨hb,hout⟩
          obtain ⟨E',hP⟩:=fin _ w' u (fun _ _ h=>h) hb hout
          exact ⟨E',hP⟩
        | true =>
          have hfr:fr = true:=by simpa [ha] using hs
          refine (hmeet _ w xs _ p _ (view _ (fun _ h=>.inl h) (.inl full)) fulllt hcv hpp).mono ?_
          rintro u w' ⟨hb,hout⟩
          obtain ⟨E',hP⟩:=fin _ w' u (fun h=>by rw [hfr] at h;cases h) hb hout
          exact ⟨E',hP⟩
theorem aJ.cons_inv {x:Value} {xs:List Value} {ds:List V} (h:aJ E w (x :: xs) ds):∃ d ds',ds = d :: ds'∧ak E w x d∧aJ E w xs ds':=by
  match ds with
  | []=>have:=h.1;simp at this
  | d :: ds'=>exact ⟨d,ds',rfl,h.2 0 _ _ rfl rfl,by have:=h.1;simpa using this,fun i v d a b=>h.2 (i+1) v d a b⟩
theorem aJ.nil_inv {ds:List V} (h:aJ E w [] ds):ds = []:=List.eq_nil_of_length_eq_zero h.1.symm
def an.fz (E:an) (o:Nat):an where
  conc q:=if q = o then none else E.conc q
  cap:=E.cap
  len q:=if q = o then 0 else E.len q
  live:=E.live
  ok b:=E.ok b∨E.conc o = some b
theorem jI (o:Nat) (t:Ty) (l:List t.T):∀ vs:List V,(V.fzs o t l vs).length = vs.length
  | []=>rfl
  | _ :: r=>by simp [V.fzs,jI o t l r]
theorem oW (o:Nat) (t:Ty) (l:List t.T):∀ (vs:List V) (i:Nat),(V.fzs o t l vs)[i]? = (vs[i]?).map (V.fz o t l)
  | [],i=>by simp [V.fzs]
  | v :: r,0=>by simp [V.fzs]
  | v :: r,i+1=>by simp [V.fzs,oW o t l r i]
theorem tE {q o:Nat} (h:q≠o):(E.fz o).conc q = E.conc q∧(E.fz o).cap q = E.cap q∧(E.fz o).len q = E.len q:=by simp [an.fz,h]
theorem mO {q o b:Nat} (h:(E.fz o).conc q = some b):q≠o∧E.conc q = some b:=by
  by_cases e:q = o
  · simp [an.fz,e] at h
  · exact ⟨e,by rwa [(tE e).1] at h⟩
theorem GA {o:Nat} (ho:E.live o):du E w [o] (E.fz o) w :=
  ⟨rfl,rfl,rfl,Nat.le_refl _,fun _ h=>h,fun _ _ _=>rfl,fun _ h=>.inl h,fun b h=>h.elim .inl fun h=>.inr (.inr ⟨o,ho,h⟩),fun q _ hq=>tE (by simpa using hq),fun q b hq h=>.inl ⟨q,hq,(mO h).2⟩⟩
theorem Gh {o:Nat} (hH:ar E w H) {e:TypeId} {t:Ty} {l:List t.T} (hg:H.get o = some (.row e t l)):ar (E.fz o) w ((o,some (.row e t [])) :: em [o] H):=by
  have ho:=(hH.at_ o _ hg).1
  have hrv:∀ v d,ak E w v d→ak (E.fz o) w v (d.kill o):=fun v d h=>ak.step (GA ho) hH.sep hH.oklt h
  have hrd:∀ v d,az E.ok w v d→az (E.fz o).ok w v d:=fun v d h=>h.mono (fun _ h=>.inl h) fun _ _=>rfl
  refine ⟨fun q ob hq=>?_,fun q q' b hq hq' h h'=>hH.inj q q' b hq hq' (mO h).2 (mO h').2,fun q b hq h=>?_,fun q b hq h=>hH.lt q b hq (mO h).2,fun b h=>h.elim (hH.oklt b) (hH.lt o b ho)⟩
  · rw [af.get_cons] at hq
    split at hq
    · next e1 =>
      subst e1;cases hq
      exact ⟨ho,by simp [an.fz], .inl ⟨by simp [an.fz],rfl⟩⟩
    · next hne =>
      rw [en] at hq
      obtain ⟨y,hy,hky⟩:=ur hq
      obtain ⟨h1,h2⟩:=hH.at_ q y hy
      refine ⟨h1, ?_⟩
      obtain ⟨c1,c2,c3⟩:=tE (E:=E) (fun e=>hne e.symm:q≠o)
      cases y with
      | box cs =>
        cases hky
        obtain ⟨hl,b,C,te,g1,g2,g3⟩:=h2
        refine ⟨c3.trans hl,b,C,te,c1.trans g1,g2,by rw [gO];exact g3.1,fun i v d hv hd=>?_⟩
        rw [k6] at hd
        cases hx':cs[i]? with
        | none=>rw [hx'] at hd;cases hd
        | some y=>rw [hx'] at hd;cases hd;exact hrv _ _ (g3.2 i v y hv hx')
      | raw x =>
        cases hky
        obtain ⟨hl,b,g1,g2⟩:=h2
        exact ⟨c3.trans hl,b,c1.trans g1,g2⟩
      | map t kt vt ks vs =>
        cases hky
        exact mB.mp h2 c1 c3 (fun _ _=>rfl) hrd
      | iter m s0 l0 =>
        cases hky
        obtain ⟨hl,b,bm,s,seen,c,g1,g2,g3,g4⟩:=h2
        exact ⟨c3.trans hl,b,bm,s,seen,c,c1.trans g1,g2,g3,hrv _ _ g4⟩
      | row te tt ll =>
        cases hky
        obtain ⟨hl,hh⟩:=h2
        refine ⟨c3.trans hl, ?_⟩
        rcases hh with ⟨g1,g2⟩ | ⟨b,C,g1,g2,g3,g4,g5,g6,g7,g8⟩
        · exact .inl ⟨c1.trans g1,g2⟩
        · exact .inr ⟨b,C,c1.trans g1,g2,by rw [c2];exact g3,by rw [c2];exact g4,by rw [c2];exact g5,g6,g7,fun i j d u a b c=>hrd _ _ (g8 i j d u a b c)⟩
  · obtain ⟨h1,h2⟩:=mO h
    rintro (h3 | h3)
    · exact hH.sep q b hq h2 h3
    · exact h1 (hH.inj q o b hq ho h2 h3)
theorem zZ {o:Nat} (hH:ar E w H) {e:TypeId} {t:Ty} {l:List t.T} (hg:H.get o = some (.row e t l)) {v:Value} {d:V} (h:ak E w v d):ak (E.fz o) w v (d.fz o t l):=by
  induction h with
  | c v d h=>exact .c v d (h.mono (fun _ h=>.inl h) fun _ _=>rfl)
  | agg vs ds hl h ih =>
    rw [V.fz]
    refine .agg _ _ (by rw [jI,hl]) fun i v d hv hd=>?_
    rw [oW] at hd
    cases hx:ds[i]? with
    | none=>rw [hx] at hd;cases hd
    | some x=>rw [hx] at hd;cases hd;exact ih i v x hv hx
  | tup vs ds hl h ih =>
    rw [V.fz]
    refine .tup _ _ (by rw [jI,hl]) fun i v d hv hd=>?_
    rw [oW] at hd
    cases hx:ds[i]? with
    | none=>rw [hx] at hd;cases hd
    | some x=>rw [hx] at hd;cases hd;exact ih i v x hv hx
  | ptr o' k i j b hn hb hi =>
    rw [V.fz]
    cases hq:Nat.beq o' o
    · have hne:o'≠o:=fun e=>by subst e;simp at hq
      obtain ⟨c1,c2,c3⟩:=tE (E:=E) hne
      exact .ptr o' k i j b hn (c1.trans hb) (by rw [c3];exact hi)
    · exact .c _ _ (.unk _)
  | row o' k' a n' c hn hl hc hm h0 =>
    rw [V.fz]
    cases hq:Nat.beq o' o
    · have hne:o'≠o:=fun e=>by subst e;simp at hq
      obtain ⟨c1,c2,c3⟩:=tE (E:=E) hne
      exact .row o' k' a n' c hn (by rw [c3];exact hl) hc hm (by rw [c1,c2];exact h0)
    · have:=Nat.eq_of_beq_eq_true hq
      subst this
      rw [cond_true]
      cases hk:Nat.beq t.k k' with
      | false=>exact .c _ _ (.unk _)
      | true =>
        rw [cond_true]
        have hr:=ak.row o' k' a n' c hn hl hc hm h0 (w:=w)
        obtain ⟨news,hsrc⟩:=oe hH hr (show cE H t (.row o' k') = some l by simp [cE,hg,hk,lF])
        have hsrc':I7 { E with live:=fun q=>q = o' } w (.slice a n' c) t.k l.length (els t l) news :=
          ⟨hsrc.form,fun ad n2 c2 he hn2=>by
            cases he
            rcases h0 with ⟨h0,_⟩ | ⟨b,hb,hab,_⟩
            · cases h0
            · cases hab
              exact .inr ⟨o',rfl,hb⟩,hsrc.len,hsrc.one,hsrc.els,hsrc.rep⟩
        exact .c _ _ (rB (E:={ E with live:=fun q=>q = o' }) (ok':=(E.fz o').ok) (fun _ h=>.inl h) (fun q b hq hb=>by
          have e1:q = o':=hq
          subst e1;exact .inr hb) hsrc')
  | sub o' k' off n' a c hn hc hm hl ha =>
    rw [V.fz]
    cases hq:Nat.beq o' o
    · have hne:o'≠o:=fun e=>by subst e;simp at hq
      obtain ⟨c1,c2,c3⟩:=tE (E:=E) hne
      exact .sub o' k' off n' a c hn hc hm (by rw [c3];exact hl) (by rw [c1];exact ha)
    · have:=Nat.eq_of_beq_eq_true hq
      subst this
      rw [cond_true]
      cases hk:Nat.beq t.k k' with
      | false=>exact .c _ _ (.unk _)
      | true =>
        rw [cond_true]
        have hr:=ak.sub o' k' off n' a c hn hc hm hl ha (w:=w)
        have hlen:E.len o' = l.length:=(hH.at_ _ _ hg).2.1
        obtain ⟨news,hsrc⟩:=oe hH hr (show cE H t (.sub o' k' off n') = some (ao l off n') by simp [cE,hg,hk,lF])
        have hsl:(ao l off n').length = n':=sD (by omega)
        have hsrc':I7 { E with live:=fun q=>q = o' } w (.slice a n' c) t.k (ao l off n').length (els t (ao l off n')) news :=
          ⟨hsrc.form,fun ad n2 c2 he hn2=>by
            cases he
            obtain ⟨b,hb,hab⟩:=ha (by rw [hsl] at hn2;exact hn2)
            cases hab
            exact .inr ⟨o',rfl,hb⟩,hsrc.len,hsrc.one,hsrc.els,hsrc.rep⟩
        exact .c _ _ (rB (E:={ E with live:=fun q=>q = o' }) (ok':=(E.fz o').ok) (fun _ h=>.inl h) (fun q b hq hb=>by
          have e1:q = o':=hq
          subst e1;exact .inr hb) hsrc')
  | dptr k' cs j ad u hok hcell hl hu=>exact .dptr k' cs j ad u (.inl hok) hcell hl fun i d hd=>(hu i d hd).mono (fun _ h=>.inl h) fun _ _=>rfl
  | fn f vs ds hl h ih =>
    rw [V.fz]
    refine .fn _ _ _ (by rw [jI,hl]) fun i v d hv hd=>?_
    rw [oW] at hd
    cases hx:ds[i]? with
    | none=>rw [hx] at hd;cases hd
    | some x=>rw [hx] at hd;cases hd;exact ih i v x hv hx
theorem du.trans1 {E1 E2:an} {o:Nat} {kl:List Nat} {w1:World} (h:du E w [o] E1 w) (h':du E1 w kl E2 w1) (hl:∀ q,E1.live q→E.live q) (hc:∀ q b,E1.conc q = some b→E.conc q = some b):du E w (o :: kl) E2 w1 :=
  ⟨h'.os,h'.tape,h'.output,h'.size,fun q hq=>h'.live q (h.live q hq),fun b hb hn=>h'.blk b hb fun q hq hcq=>hn q (hl q hq) (hc q b hcq),fun b hb=>h'.ok b (h.ok b hb),fun b hb=>by
    rcases h'.okold b hb with g | g | ⟨q,g1,g2⟩
    · exact h.okold b g
    · exact .inr (.inl g)
    · exact .inr (.inr ⟨q,hl q g1,hc q b g2⟩),fun q hq hn=>by
    have a1:=h.conc q hq (by simp at hn;simp [hn.1])
    have a2:=h'.conc q (h.live q hq) (by simp at hn;exact hn.2)
    exact ⟨a2.1.trans a1.1,a2.2.1.trans a1.2.1,a2.2.2.trans a1.2.2⟩,fun q b hq hb=>by
    rcases h'.concnew q b hq hb with ⟨q',g1,g2⟩ | g
    · exact .inl ⟨q',hl q' g1,hc q' b g2⟩
    · exact .inr g⟩
theorem vn (kl:List Nat) (o:Nat) (e:TypeId) (t:Ty) (l:List t.T):∀ H:af,em kl ((o,some (.row e t l)) :: H) = (o,some (.row e t l)) :: em kl H:=by
  induction kl with
  | nil=>intro H;rfl
  | cons x r ih=>intro H;rw [em,List.map_cons,em];exact ih _
theorem wn {ws:List Value} {f:af→List V→Option ay} {nid:Nat} {R:World→Value→Prop}
    (hf0:∀ (E:an) (H:af) (vs:List V) (r:ay),ar E w H→fZ E nid→aJ E w ws vs→f H vs = some r→(∀ p∈r.pre,p)→∃ E' w' v',R w' v'∧cD E w H nid r E' w' v'):∀ (fl:List Nat) (E:an) (H:af) (vs:List V) (r:ay),ar E w H→fZ E nid→aJ E w ws vs →
    jV f fl H vs = some r→(∀ p∈r.pre,p)→∃ E' w' v',R w' v'∧cD E w H nid r E' w' v'
  | [],E,H,vs,r,hH,hf,hv,h,hp=>hf0 E H vs r hH hf hv h hp
  | q :: fl,E,H,vs,r,hH,hf,hv,h,hp=>by
    rw [jV] at h
    split at h
    · next e t l hg =>
      have hq:=(hH.at_ q _ hg).1
      cases hb:jV f fl ((q,some (.row e t [])) :: em [q] H) (V.fzs q t l vs) with
      | none=>rw [hb] at h;cases h
      | some r0 =>
        rw [hb] at h;cases h
        obtain ⟨E',w',v',h1,h2⟩:=wn hf0 fl (E.fz q) _ _ r0 (Gh hH hg) hf ⟨by rw [jI];exact hv.1,fun i v d hi hd=>by
          rw [oW] at hd
          cases hx:vs[i]? with
          | none=>rw [hx] at hd;cases hd
          | some x=>rw [hx] at hd;cases hd;exact zZ hH hg (hv.2 i v x hi hx)⟩ hb hp
        refine ⟨E',w',v',h1,(GA hq).trans1 h2.st (fun _ h=>h) (fun _ _ h=>(mO h).2), ?_,h2.val,h2.live⟩
        have:=h2.heap
        rw [vn] at this
        rw [List.append_assoc]
        exact this
    · cases h
theorem Ns {C:FuncId→Option CC} {f:FuncId} {args:List V} (h:qR C f nid H args = some r):iu C H nid f args = some r:=by
  unfold qR at h
  cases hb:V.noPs args with
  | false=>rw [hb] at h;cases h
  | true =>
    rw [hb,cond_true] at h
    split at h
    · exact h
    · cases h
theorem JA {ws:List Value} {f:af→List V→Option ay} {nid:Nat} {g:FuncId}
    (hf0:∀ (E:an) (H:af) (vs:List V) (r:ay),ar E w H→fZ E nid→aJ E w ws vs→f H vs = some r→(∀ p∈r.pre,p)→jE P g ws.toArray w fun v w'=>∃ E',cD E w H nid r E' w' v):∀ (fl:List Nat) (E:an) (H:af) (vs:List V) (r:ay),ar E w H→fZ E nid→aJ E w ws vs →
    jV f fl H vs = some r→(∀ p∈r.pre,p)→jE P g ws.toArray w fun v w'=>∃ E',cD E w H nid r E' w' v
  | [],E,H,vs,r,hH,hf,hv,h,hp=>hf0 E H vs r hH hf hv h hp
  | q :: fl,E,H,vs,r,hH,hf,hv,h,hp=>by
    rw [jV] at h
    split at h
    · next e t l hg =>
      have hq:=(hH.at_ q _ hg).1
      cases hb:jV f fl ((q,some (.row e t [])) :: em [q] H) (V.fzs q t l vs) with
      | none=>rw [hb] at h;cases h
      | some r0 =>
        rw [hb] at h;cases h
        refine (JA hf0 fl (E.fz q) _ _ r0 (Gh hH hg) hf ⟨by rw [jI];exact hv.1,fun i v d hi hd=>by
          rw [oW] at hd
          cases hx:vs[i]? with
          | none=>rw [hx] at hd;cases hd
          | some x=>rw [hx] at hd;cases hd;exact zZ hH hg (hv.2 i v x hi hx)⟩ hb hp).mono ?_
        rintro v' w' ⟨E',h2⟩
        refine ⟨E',(GA hq).trans1 h2.st (fun _ h=>h) (fun _ _ h=>(mO h).2), ?_,h2.val,h2.live⟩
        have:=h2.heap
        rw [vn] at this
        rw [List.append_assoc]
        exact this
    · cases h
theorem OO (hH:ar E w H) (hf:fZ E nid) {C:FuncId→Option CC} (hC:∀ f con,C f = some con→aY P f con) {f:FuncId} {args:List V} {xs:List Value} (hx:aJ E w xs args)
    (h:mq C H nid f args = some r) (hp:∀ p∈r.pre,p) :
    jE P f xs.toArray w fun v w'=>∃ E',cD E w H nid r E' w' v:=by
  unfold mq at h
  split at h
  · next r' hr=>cases h;exact Da hH hf hC hx hr hp
  · exact JA (fun E H vs r hH hf hv h hp=>Da hH hf hC hv (Ns h) hp) _ E H args r hH hf hx h hp
theorem LM {o:Oper} {nid:Nat} {t:TypeId} {len:Nat} {parts:Array (Nat × Operand)} {ρ:Operand→Value} (ho:o.op = .buildSlice t len parts) (hH:ar E w H) (hf:fZ E nid) {vs:List V} {r:ay} (hv:aJ E w (parts.toList.map fun p=>ρ p.2) vs)
    (h:PQ P nid t len (parts.toList.map (·.1)) H vs = some r) (hp:∀ p∈r.pre,p):∃ E' w' v',(execOp ρ o).run P w = .ok (.value v') w'∧cD E w H nid r E' w' v' :=
  wn (R:=fun w' v'=>(execOp ρ o).run P w = .ok (.value v') w') (fun E H vs r hH hf hv h _=>C6 hH hf.one ho hv h) _ E H vs r hH hf hv h hp
theorem LY {o:Oper} {nid:Nat} {ρ:Operand→Value} (hH:ar E w H) (hf:fZ E nid) {t:TypeId} {a x:Operand} (ho:o.op = .store t a x) {va vx:V} {r:ay} (ha:ak E w (ρ a) va) (hx:ak E w (ρ x) vx) (h:uZ P H t va vx = some r) (hp:∀ p∈r.pre,p) :
    ∃ E' w',(execOp ρ o).run P w = .ok .skip w'∧cD E w H nid r E' w' undef:=by
  unfold uZ at h
  split at h
  · split at h
    · obtain ⟨E',w',v',⟨rfl,h1⟩,h2⟩:=wn (ws:=[ρ a,ρ x]) (R:=fun w' v'=>v' = undef∧(execOp ρ o).run P w = .ok .skip w') (fun E H vs r hH hf hv h hp=>by
        unfold uR at h
        split at h
        · next a' x' =>
          obtain ⟨E',w',h1,h2⟩:=wu hH hf.one ho (hv.2 0 _ _ rfl rfl) (hv.2 1 _ _ rfl rfl) h hp
          exact ⟨E',w',undef,⟨rfl,h1⟩,h2⟩
        · cases h) _ E H _ r hH hf ⟨rfl,fun i v d h1 h2=>by
          match i with
          | 0=>simp at h1 h2;subst h1 h2;exact ha
          | 1=>simp at h1 h2;subst h1 h2;exact hx
          | i+2=>simp at h1⟩ h hp
      exact ⟨E',w',h1,h2⟩
    · exact wu hH hf.one ho ha hx h hp
  · exact wu hH hf.one ho ha hx h hp
theorem Qq (hH:ar E w H) (hf:fZ E nid) {C:FuncId→Option CC} (hC:∀ f con,C f = some con→aY P f con) {a:Act} {vs:List V} (hv:aJ E w ((dK o.op).map a.eval) vs)
    (h:vp P C H nid o vs = some r) (hp:∀ p∈r.pre,p) {K:Act→World→Prop} {Q:Exit→Act→World→Prop} (hK:∀ E' w' v',cD E w H nid r E' w' v'→K (a.put o.dst v') w'):o.wp P a w K Q:=by
  have fin:(∃ E' w' v',(execOp a.eval o).run P w = .ok (.value v') w'∧cD E w H nid r E' w' v')→o.wp P a w K Q:=by
    rintro ⟨E',w',v',h1,h2⟩
    unfold Oper.wp
    rw [h1]
    exact hK E' w' v' h2
  have finq:jf P a.eval o E w r→o.wp P a w K Q:=fun hq=>by
    obtain ⟨v',h1,h2⟩:=Nq hH hf.one hq
    exact fin ⟨_,w,v',h1,h2⟩
  unfold vp at h
  split at h
  · next x d ho =>
    rw [ho] at hv
    cases h
    exact finq ⟨rfl,rfl,N4 ho (hv.2 0 _ _ rfl rfl)⟩
  · next x d ho =>
    rw [ho] at hv
    cases h
    exact finq ⟨rfl,rfl,Kn ho (hv.2 0 _ _ rfl rfl)⟩
  · next t ho =>
    split at h
    · next z hz=>exact fin (Nx hH hf.one ho hz h)
    · cases h
  · next t x d ho =>
    rw [ho] at hv
    exact fin (QM hH hf.one ho (hv.2 0 _ _ rfl rfl) h)
  · next t parts vs ho =>
    rw [ho] at hv
    exact finq (LB ho (by simpa [dK,Op.operands,List.map_map,Function.comp_def] using hv) h)
  · next t len parts vs ho =>
    rw [ho] at hv
    exact fin (LM ho hH hf (by simpa [dK,Op.operands,List.map_map,Function.comp_def] using hv) h hp)
  · next t x d ho =>
    rw [ho] at hv
    exact finq (C7 hH ho (hv.2 0 _ _ rfl rfl) h hp)
  · next t x y d e ho =>
    rw [ho] at hv
    obtain ⟨E',w',h1,h2⟩:=LY hH hf ho (hv.2 0 _ _ rfl rfl) (hv.2 1 _ _ rfl rfl) h hp
    unfold Oper.wp
    rw [h1]
    exact hK E' w' undef h2
  · next x d ho =>
    rw [ho] at hv
    exact finq (EH ho (hv.2 0 _ _ rfl rfl) h)
  · next op t x y ty d e ho =>
    rw [ho] at hv
    exact finq (Pk ho (hv.2 0 _ _ rfl rfl) (hv.2 1 _ _ rfl rfl) h hp)
  · next op t x d ho =>
    rw [ho] at hv
    exact finq (QJ ho (hv.2 0 _ _ rfl rfl) h)
  · next s t x d ho =>
    rw [ho] at hv
    split at h
    · next e hs hd =>
      split at h
      · next he=>exact finq (LH hH hs hd he ho (hv.2 0 _ _ rfl rfl) h)
      · cases h
    · exact finq (Ok ho (hv.2 0 _ _ rfl rfl) h)
  · next t x f d ho =>
    rw [ho] at hv
    exact finq (C5 ho (hv.2 0 _ _ rfl rfl) h)
  · next t x f d ho =>
    rw [ho] at hv
    exact finq (Mc ho (hv.2 0 _ _ rfl rfl) h)
  · next t x y d e ho =>
    rw [ho] at hv
    exact finq (CV hH ho (hv.2 0 _ _ rfl rfl) (hv.2 1 _ _ rfl rfl) h hp)
  · next t x y d e ho =>
    rw [ho] at hv
    exact finq (Mh ho (hv.2 0 _ _ rfl rfl) (hv.2 1 _ _ rfl rfl) h hp)
  · next t x d ho =>
    rw [ho] at hv
    exact finq (pr hH (dlo:=none) (dhi:=none) ho (hv.2 0 _ _ rfl rfl) (by simp) (by simp) (by simp) (by simp) h hp)
  · next t x l d e ho =>
    rw [ho] at hv
    exact finq (pr hH (dlo:=some e) (dhi:=none) ho (hv.2 0 _ _ rfl rfl) (fun y hy=>by cases hy;exact ⟨_,rfl,hv.2 1 _ _ rfl rfl⟩) (by simp) (by simp) (by simp) h hp)
  · next t x l d e ho =>
    rw [ho] at hv
    exact finq (pr hH (dlo:=none) (dhi:=some e) ho (hv.2 0 _ _ rfl rfl) (by simp) (by simp) (fun y hy=>by cases hy;exact ⟨_,rfl,hv.2 1 _ _ rfl rfl⟩) (by simp) h hp)
  · next t x l hh d e g ho =>
    rw [ho] at hv
    exact finq (pr hH (dlo:=some e) (dhi:=some g) ho (hv.2 0 _ _ rfl rfl) (fun y hy=>by cases hy;exact ⟨_,rfl,hv.2 1 _ _ rfl rfl⟩) (by simp) (fun y hy=>by cases hy;exact ⟨_,rfl,hv.2 2 _ _ rfl rfl⟩) (by simp) h hp)
  · next t l c d e ho =>
    rw [ho] at hv
    exact fin (ES hH hf.one ho (hv.2 0 _ _ rfl rfl) (hv.2 1 _ _ rfl rfl) h hp)
  · next vs f first caps ho =>
    rw [ho] at hv
    cases hf:(first.isEmpty&&Nat.blt f 1000000000) with
    | false=>rw [hf] at h;cases h
    | true =>
      rw [hf] at h
      simp only [cond_true,Option.some.injEq] at h
      subst h
      rw [Bool.and_eq_true] at hf
      have h0:first = #[]:=by simpa using hf.1
      subst h0
      exact finq ⟨rfl,rfl,Gz ho rfl hf.2 (by simpa [dK,Op.operands] using hv)⟩
  · next t ho=>exact fin (Lm hH hf.one ho h)
  · next t x y ok m k ho =>
    rw [ho] at hv
    exact finq (IY hH ho (hv.2 0 _ _ rfl rfl) (hv.2 1 _ _ rfl rfl) h)
  · next t x y z m k v ho =>
    rw [ho] at hv
    obtain ⟨E',w',v',⟨rfl,h1⟩,h2⟩:=wn (ws:=[a.eval x,a.eval y,a.eval z]) (R:=fun w' v'=>v' = undef∧(execOp a.eval o).run P w = .ok .skip w') (fun E H vs r hH hf hv h hp=>by
      obtain ⟨E',w',h1,h2⟩:=Oq hH hf.one ho hv h
      exact ⟨E',w',undef,⟨rfl,h1⟩,h2⟩) _ E H _ r hH hf (by simpa [dK,Op.operands] using hv) h hp
    unfold Oper.wp
    rw [h1]
    exact hK E' w' undef h2
  · next t x d ho =>
    rw [ho] at hv
    split at h
    · next e hu =>
      cases hc:(V.isCell d&&Nat.blt t 1000000000) with
      | false=>rw [hc] at h;cases h
      | true =>
        rw [hc] at h
        simp only [cond_true,Option.some.injEq] at h
        subst h
        rw [Bool.and_eq_true] at hc
        have hlt:=hc.2
        exact finq ⟨rfl,rfl,xQ hlt ho hu (hv.2 0 _ _ rfl rfl)⟩
    · cases h
  · next x ix d ho =>
    rw [ho] at hv
    exact finq (HT ho (hv.2 0 _ _ rfl rfl) h hp)
  · next t x d ho =>
    rw [ho] at hv
    split at h
    · next r' hr'=>cases h;exact fin (Oe hH hf.one ho (hv.2 0 _ _ rfl rfl) hr')
    · exact fin (LX hH hf.one ho (hv.2 0 _ _ rfl rfl) h)
  · next x d ho =>
    rw [ho] at hv
    exact fin (PY hH hf.one ho (hv.2 0 _ _ rfl rfl) h)
  · next x d ho =>
    rw [ho] at hv
    exact finq (Ja hH ho (hv.2 0 _ _ rfl rfl) h hp)
  · next args argTypes d ho =>
    rw [ho] at hv
    obtain ⟨x,hx⟩:∃ x,args.toList = [x]:=by
      have h2:args.toList.length = 1:=by have:=hv.1;simpa [dK] using this
      match hl:args.toList,h2 with
      | [p],_=>exact ⟨p,rfl⟩
    have hargs:args = #[x]:=by rw [← Array.toArray_toList (xs:=args),hx]
    subst hargs
    split at h
    · next t ht =>
      cases hu:P.underlying t with
      | none=>simp [xl,hu] at h
      | some dd=>exact finq (P3 hH ho rfl rfl ht hu (hv.2 0 _ _ rfl rfl) h)
    · cases h
  · next args argTypes d ho =>
    rw [ho] at hv
    obtain ⟨x,hx⟩:∃ x,args.toList = [x]:=by
      have h2:args.toList.length = 1:=by have:=hv.1;simpa [dK] using this
      match hl:args.toList,h2 with
      | [p],_=>exact ⟨p,rfl⟩
    have hargs:args = #[x]:=by rw [← Array.toArray_toList (xs:=args),hx]
    subst hargs
    split at h
    · next t ht=>exact fin (NU hH hf.one ho rfl rfl ht (hv.2 0 _ _ rfl rfl) h hp)
    · cases h
  · next vs _ _ args argTypes ho =>
    rw [ho] at hv
    cases hm:N9 vs with
    | none=>simp [hm] at h
    | some m =>
      simp only [hm,Option.map_some,Option.some.injEq] at h
      subst h
      exact finq ⟨rfl,rfl,O2 ho rfl (by simpa [dK] using hv) hm⟩
  · next vs _ _ args argTypes ho =>
    rw [ho] at hv
    cases hm:Nv vs with
    | none=>simp [hm] at h
    | some m =>
      simp only [hm,Option.map_some,Option.some.injEq] at h
      subst h
      exact finq ⟨rfl,rfl,Pm ho rfl (by simpa [dK] using hv) hm⟩
  · next args argTypes s x ho =>
    rw [ho] at hv
    obtain ⟨s',x',hsx⟩:∃ s' x',args.toList = [s',x']:=by
      have h2:args.toList.length = 2:=by have:=hv.1;simpa [dK] using this
      match hl:args.toList,h2 with
      | [p,q],_=>exact ⟨p,q,rfl⟩
    have hargs:args = #[s',x']:=by rw [← Array.toArray_toList (xs:=args),hsx]
    subst hargs
    split at h
    · next t t' ht =>
      cases hb:Nat.beq t t' with
      | false=>simp [hb] at h
      | true =>
        have htt:t = t':=Nat.eq_of_beq_eq_true hb
        subst htt
        simp only [hb,cond_true] at h
        have hat:argTypes = #[t,t]:=by rw [← Array.toArray_toList (xs:=argTypes),ht]
        exact fin (LD hH hf.one ho rfl rfl hat (hv.2 0 _ _ rfl rfl) (hv.2 1 _ _ rfl rfl) h hp)
    · cases h
  · next f args argTypes g caps ds ho =>
    rw [ho] at hv
    obtain ⟨_,_,e,hf,ha⟩:=aJ.cons_inv hv
    cases e
    generalize hfv:a.eval f = fv at hf
    cases hglt:Nat.blt g 1000000000 with
    | false=>rw [hglt] at h;cases h
    | true =>
    rw [hglt] at h
    simp only [cond_true] at h
    cases hf with
    | fn _ cs _ hcl hch =>
      rw [kS hglt] at hfv
      have hall:aJ E w (args.toList.map a.eval++cs) (ds++caps):=by
        refine ⟨by rw [List.length_append,List.length_append,ha.1,hcl],fun i v d hv' hd'=>?_⟩
        rw [List.getElem?_append] at hv' hd'
        rw [← ha.1] at hd'
        split at hv'
        · next hlt=>rw [if_pos hlt] at hd'; exact ha.2 i v d hv' hd'
        · next hge=>rw [if_neg hge] at hd'; exact hch _ v d hv' hd'
      have hcalls:=OO hH hf hC hall h hp
      have hargs:args.map a.eval++cs.toArray = (args.toList.map a.eval++cs).toArray:=by
        rw [← Array.toArray_toList (xs:=args.map a.eval++cs.toArray)]
        simp
      have hrun:(execOp a.eval o).run P w = (callFunc g (args.toList.map a.eval++cs).toArray).run P w:=by
        simp only [execOp,ho,resolve,hfv,Deferred.ofValue,invoke,Sem.run_bind,Sem.run_pure,Result.andThen_ok,Array.empty_append,hargs]
      unfold Oper.wp
      rw [hrun]
      rcases hcalls with ⟨h1,h2⟩ | ⟨v,w',h1,E',hP⟩
      · rw [h1]
        refine Calls.mono h2 ?_
        rintro e w' ⟨v,rfl,E',hP⟩
        exact hK E' w' v hP
      · rw [h1]
        exact hK E' w' v hP
  · cases h
end
end Go.Ax
namespace Go.Ax
open Go.RowKit
def jW (tm:List (Nat × aw)) (E:an) (w:World) (v:Value) (s:aw):Prop :=
  (holds tm s.ch = true→ak E w v s.v)∧(s.ch.all (fun x=>dE tm x.1) = true→holds tm s.ch = false→v = undef)
structure eE where
  W:World
  ok:Nat→Prop
  mb:Nat→Prop
  gh:Nat→Value:=fun _=>undef
def cQ (B:eE) (a:Act) (t:Nat):Value:=if t < 1000000 then a.tmps.getD t undef else B.gh t
theorem nb {B:eE} {a:Act} {t:Nat} (h:t < 1000000):cQ B a t = a.tmps.getD t undef:=if_pos h
structure vh (M:Nat→Prop) (n:Nat) (w w':World):Prop where
  os:w'.os = w.os
  tape:w'.tape = w.tape
  output:w'.output = w.output
  size:w.heap.size≤w'.heap.size
  block:∀ k,k < n→¬ M k→w'.heap[k]? = w.heap[k]?
theorem vh.refl (M:Nat→Prop) (n:Nat) (w:World):vh M n w w:=⟨rfl,rfl,rfl,Nat.le_refl _,fun _ _ _=>rfl⟩
theorem vh.below {n:Nat} {w w':World} (h:vh (fun _=>False) n w w'):Below n w w':=⟨h.os,h.tape,h.output,h.size,fun k hk=>h.block k hk (fun h=>h)⟩
structure aV (N:Nat) (B:eE) (σ:St) (E:an) (a:Act) (w:World):Prop where
  size:a.tmps.size = N
  small:N≤1000000
  defers:a.defers = []
  live:∀ q,σ.nx≤q→¬ E.live q
  heap:ar E w σ.hp
  slots:∀ t s,aq σ.tm t = some s→jW σ.tm E w (cQ B a t) s
  base:vh B.mb B.W.heap.size B.W w
  own:∀ o b,E.live o→E.conc o = some b→B.W.heap.size≤b∨B.mb b
  okold:∀ b,E.ok b→B.ok b∨B.W.heap.size≤b∨B.mb b
section
variable {P:Program} {N:Nat} {B:eE} {σ:St} {E:an} {a:Act} {w:World}
theorem D9 {a b:Nat} (h:a≠b):Nat.beq a b = false:=by
  cases hb:Nat.beq a b
  · rfl
  · exact (h (Nat.eq_of_beq_eq_true hb)).elim
theorem bw (t':Nat) (s:aw) (r:List (Nat × aw)) (t:Nat):aq ((t',s) :: r) t = if t' = t then some s else aq r t:=by
  rw [aq]
  by_cases h:t' = t
  · subst h;simp
  · rw [D9 h];simp [h]
theorem kW:∀ (tm:List (Nat × aw)) (t:Nat) (s:aw) (t':Nat),aq (gT tm t s) t' = if t = t' then some s else aq tm t'
  | [],t,s,t'=>by rw [gT,bw]
  | (q,x) :: r,t,s,t'=>by
    rw [gT]
    by_cases h:q = t
    · subst h
      rw [show Nat.beq q q = true by simp,cond_true,bw,bw]
      split <;> rfl
    · rw [D9 h,cond_false]
      cases Nat.blt t q
      · rw [cond_false,bw,kW r,bw]
        by_cases h1:q = t'
        · rw [if_pos h1,if_pos h1,if_neg (by omega)]
        · rw [if_neg h1,if_neg h1]
      · rw [cond_true,bw]
theorem xp (f:aw→aw):∀ (tm:List (Nat × aw)) (t:Nat),aq (tm.map fun x=>(x.1,f x.2)) t = (aq tm t).map f
  | [],t=>rfl
  | (q,x) :: r,t=>by
    rw [List.map_cons,bw,bw,xp f r]
    split <;> rfl
theorem lK:∀ (kl:List Nat) (tm:List (Nat × aw)) (t:Nat),aq (qN kl tm) t = (aq tm t).map fun s=>{ ch:=s.ch,v:=s.v.killAll kl }
  | [],tm,t=>by simp [qN,V.killAll]
  | o :: r,tm,t=>by
    rw [qN,lK r,xp (fun s=>{ ch:=s.ch,v:=s.v.kill o })]
    cases aq tm t <;> simp [V.killAll]
def bh:Option aw→Option Bool
  | some { v:=.c (.lit (.bool b)), .. }=>some b
  | _=>none
theorem lW {s:Option aw} {b:Bool} (h:bh s = some b):∃ ch,s = some { ch,v:=.c (.lit (.bool b)) }:=by
  unfold bh at h
  split at h
  · next ch b'=>cases h;exact ⟨ch,rfl⟩
  · cases h
theorem fq (tm:List (Nat × aw)) (t:Nat) (w:Bool) (r:aM):holds tm ((t,w) :: r) = ((match bh (aq tm t) with | some b=>(b == w) | none=>false)&&holds tm r):=by
  rw [holds]
  congr 1
  cases hb:bh (aq tm t) with
  | some b =>
    obtain ⟨ch,e⟩:=lW hb
    rw [e]
    cases w <;> cases b <;> rfl
  | none =>
    split
    · next h=>rw [h] at hb;simp [bh] at hb
    · rfl
theorem kc {tm tm':List (Nat × aw)}:∀ (ch:aM),(∀ x∈ch,bh (aq tm' x.1) = bh (aq tm x.1))→holds tm' ch = holds tm ch
  | [],_=>rfl
  | (t,w) :: r,h=>by
    rw [fq,fq,h (t,w) (by simp),kc r fun x hx=>h x (by simp [hx])]
theorem z6:∀ (kl:List Nat) (b:Bool),(V.c (.lit (.bool b))).killAll kl = .c (.lit (.bool b))
  | [],_=>rfl
  | o :: r,b=>by rw [V.killAll,V.kill,z6 r]
theorem HZ (o:Nat) (v:V) (b:Bool) (h:v.kill o = .c (.lit (.bool b))):v = .c (.lit (.bool b)):=by
  cases v with
  | c d=>simpa [V.kill] using h
  | agg vs=>simp [V.kill] at h
  | tup vs=>simp [V.kill] at h
  | ptr o' k i j=>rw [V.kill] at h;cases hb:Nat.beq o' o <;> simp [hb] at h
  | row o' k=>rw [V.kill] at h;cases hb:Nat.beq o' o <;> simp [hb] at h
  | sub o' k i j=>rw [V.kill] at h;cases hb:Nat.beq o' o <;> simp [hb] at h
  | dptr k cs j=>simp [V.kill] at h
  | fn f vs=>simp [V.kill] at h
theorem sb:∀ (kl:List Nat) (v:V) (b:Bool),v.killAll kl = .c (.lit (.bool b))→v = .c (.lit (.bool b))
  | [],v,b,h=>h
  | o :: r,v,b,h=>HZ o v b (sb r _ b h)
theorem Bh (kl:List Nat) (s:Option aw):bh (s.map fun s=>{ ch:=s.ch,v:=s.v.killAll kl }) = bh s:=by
  cases s with
  | none=>rfl
  | some s =>
    obtain ⟨ch,v⟩:=s
    by_cases h:∃ b,v = .c (.lit (.bool b))
    · obtain ⟨b,rfl⟩:=h
      simp [bh,z6]
    · have h2:bh (some { ch,v }) = none:=by
        cases hb:bh (some { ch,v }) with
        | none=>rfl
        | some b=>obtain ⟨ch',e⟩:=lW hb;cases e;exact (h ⟨b,rfl⟩).elim
      rw [h2]
      cases hb:bh (Option.map (fun s:aw=>{ ch:=s.ch,v:=s.v.killAll kl }) (some { ch,v })) with
      | none=>rfl
      | some b =>
        obtain ⟨ch',e⟩:=lW hb
        simp only [Option.map_some,Option.some.injEq,aw.mk.injEq] at e
        exact (h ⟨b,sb kl v b e.2⟩).elim
theorem Lp (kl:List Nat) (tm:List (Nat × aw)) (ch:aM):holds (qN kl tm) ch = holds tm ch :=
  kc ch fun x _=>by rw [lK,Bh]
theorem G0 {tm:List (Nat × aw)} {ch':aM} (h':holds tm ch' = true):∀ (ch:aM),pA ch ch' = true→holds tm ch = true
  | [],_=>rfl
  | (t,w) :: r,h=>by
    simp only [pA,List.all_cons,Bool.and_eq_true] at h
    obtain ⟨h1,h2⟩:=h
    rw [fq,Bool.and_eq_true]
    refine ⟨?_,G0 h' r h2⟩
    unfold Qj at h1
    obtain ⟨y,hy,hyt⟩:=List.any_eq_true.1 h1
    simp only [Bool.and_eq_true,Nat.beq_eq,beq_iff_eq] at hyt
    obtain ⟨e1,e2⟩:=hyt
    have key:∀ (ch':aM),y∈ch'→holds tm ch' = true→(match bh (aq tm y.1) with | some b=>(b == y.2) | none=>false) = true:=by
      intro ch'
      induction ch' with
      | nil=>intro hy;simp at hy
      | cons z l ih =>
        intro hy hh
        obtain ⟨zt,zw⟩:=z
        rw [fq,Bool.and_eq_true] at hh
        rcases List.mem_cons.1 hy with rfl | hy
        · exact hh.1
        · exact ih hy hh.2
    have:=key ch' hy h'
    rw [← e1, ← e2] at this
    exact this
theorem QN (f:FuncId) (hlt:Nat.blt f 1000000000 = true):ak E w (.func (.func f) #[] #[]) (.fn f []):=by
  have e:nY f [] = .func (.func f) #[] #[]:=kS hlt []
  rw [← e]
  exact .fn f [] [] rfl fun i v d h=>by simp at h
theorem bE (hs:aV N B σ E a w) {ch:aM} (hh:holds σ.tm ch = true) {x:Operand} {v:V} (h:bJ σ ch x = some v):ak E w (a.eval x) v:=by
  unfold bJ at h
  split at h
  · next t =>
    cases hlow:Nat.blt t 1000000 with
    | false=>simp [hlow] at h
    | true =>
    rw [hlow,cond_true] at h
    split at h
    · next s hg =>
      cases hc:pA s.ch ch with
      | false=>simp [hc] at h
      | true =>
        simp only [hc,cond_true,Option.some.injEq] at h
        subst h
        have:=(hs.slots t s hg).1 (G0 hh _ hc)
        rw [nb (by simpa using hlow)] at this
        exact this
    · cases h
  · cases h;exact tX _
  · next f =>
    cases hlt:Nat.blt f 1000000000 with
    | false=>rw [hlt] at h;cases h
    | true=>rw [hlt] at h;cases h;exact QN _ hlt
  · cases h
theorem BC (hs:aV N B σ E a w) {ch:aM} (hh:holds σ.tm ch = true):∀ {xs:List Operand} {vs:List V},kX σ ch xs = some vs→aJ E w (xs.map a.eval) vs
  | [],vs,h=>by simp [kX] at h;subst h;exact .nil
  | x :: xs,vs,h=>by
    unfold kX at h
    rw [List.mapM_cons] at h
    simp only [Option.bind_eq_bind,Option.pure_def,Option.bind_eq_some_iff,Option.some.injEq] at h
    obtain ⟨d,hd,ds,hds,rfl⟩:=h
    have ih:=BC hs hh (xs:=xs) hds
    refine ⟨by simp [ih.1],fun i v d' hv hd'=>?_⟩
    match i with
    | 0=>simp at hv hd'; subst hv;subst hd'; exact bE hs hh hd
    | i+1=>exact ih.2 i v d' (by simpa using hv) (by simpa using hd')
theorem o9 {ops:Array Oper} (hs:aV N B σ E a w) {o:Oper} {ch:aM} (h:dX ops.toList σ.tm o.guard = some ch) (hb:ch.all (fun x=>dE σ.tm x.1) = true):Region.wanted o (yielded ops a.tmps) = holds σ.tm ch:=by
  unfold dX at h
  split at h
  · next hg=>cases h;simp [Region.wanted,hg,holds]
  · next j wt hg =>
    split at h
    · next oj hj =>
      split at h
      · next t ht =>
        cases hlow:Nat.blt t 1000000 with
        | false=>simp [hlow] at h
        | true =>
        rw [hlow,cond_true] at h
        split at h
        · next ch' b hgt =>
          cases h
          have hj':ops[j]? = some oj:=by rw [← Array.getElem?_toList];exact hj
          rw [fq,hgt]
          simp only [bh,Region.wanted,hg,yielded,hj',Option.bind_some,ht]
          have hsl:=hs.slots t _ hgt
          rw [nb (by simpa using hlow)] at hsl
          cases hh:holds σ.tm ch' with
          | true =>
            have hr:=(hsl.1 hh).lit_inv
            have:a.tmps[t]? = some (.bool b):=by
              rw [Array.getD_eq_getD_getElem?] at hr
              cases hx:a.tmps[t]? with
              | none=>rw [hx] at hr;simp [undef] at hr
              | some x=>rw [hx] at hr;simpa using hr
            rw [this]
            cases b <;> cases wt <;> rfl
          | false =>
            have hr:=hsl.2 (by simp only [List.all_cons,Bool.and_eq_true] at hb;exact hb.2) hh
            rw [Bool.and_false]
            rw [Array.getD_eq_getD_getElem?] at hr
            cases hx:a.tmps[t]? with
            | none=>rfl
            | some x=>rw [hx] at hr;simp at hr;subst hr;rfl
        · cases h
      · cases h
    · cases h
theorem Ls (hs:aV N B σ E a w) {ch:aM} (hh:holds σ.tm ch = true) {c x y:Operand} {v:V} (h:ti σ ch c x y = some v) :
    ∃ b:Bool,a.eval c = .bool b∧ak E w (if b then a.eval x else a.eval y) v:=by
  unfold ti at h
  split at h
  · next b hc =>
    have hcb:=(bE hs hh hc).lit_inv
    refine ⟨b,hcb, ?_⟩
    have key:∀ (want:Bool),b = want→∀ (z:Operand) (u:V),bJ σ (pd c want ch) z = some u→ak E w (a.eval z) u:=by
      intro want hw z u hz
      cases c with
      | tmp t =>
        have:holds σ.tm ((t,want) :: ch) = true:=by
          rw [fq,hh,Bool.and_true]
          cases hg:aq σ.tm t with
          | none=>simp [bJ,hg] at hc
          | some s =>
            cases hsc:pA s.ch ch with
            | false=>simp [bJ,hg,hsc] at hc
            | true =>
              have hl:Nat.blt t 1000000 = true:=by
                cases hl:Nat.blt t 1000000 with
                | true=>rfl
                | false=>simp [bJ,hl] at hc
              simp only [bJ,hg,hsc,hl,cond_true,Option.some.injEq] at hc
              have:bh (some s) = some b:=by obtain ⟨sc,sv⟩:=s;simp only at hc;subst hc;rfl
              rw [this,hw]
              cases want <;> rfl
        exact bE hs this hz
      | const _=>exact bE hs hh hz
      | global _=>exact bE hs hh hz
      | func _=>exact bE hs hh hz
    have bv:∀ {o:Option V} {v:V},ID o = some v→o = some v:=by
      intro o v h
      unfold ID at h
      split at h
      · cases h;rfl
      · cases h
    cases b with
    | true=>rw [cond_true] at h;exact key true rfl _ _ (bv h)
    | false=>rw [cond_false] at h;exact key false rfl _ _ (bv h)
  · cases h
theorem NN (hs:aV N B σ E a w) {ch:aM} (hh:holds σ.tm ch = true) {c x y:Operand} {v:V} (h:pC σ ch c x y = some v) :
    ∃ b:Bool,a.eval c = .bool b∧ak E w (if b then a.eval x else a.eval y) v:=by
  unfold pC at h
  split at h
  · next b hc =>
    have hcb:=(bE hs hh hc).lit_inv
    refine ⟨b,hcb, ?_⟩
    split at h
    · next p q hx hy =>
      cases h
      have key:∀ (want:Bool),b = want→∀ (z:Operand) (u:V),bJ σ (pd c want ch) z = some u→ak E w (a.eval z) u:=by
        intro want hw z u hz
        cases c with
        | tmp t =>
          have:holds σ.tm ((t,want) :: ch) = true:=by
            rw [fq,hh,Bool.and_true]
            cases hg:aq σ.tm t with
            | none=>simp [bJ,hg] at hc
            | some s =>
              cases hsc:pA s.ch ch with
              | false=>simp [bJ,hg,hsc] at hc
              | true =>
                have hl:Nat.blt t 1000000 = true:=by
                  cases hl:Nat.blt t 1000000 with
                  | true=>rfl
                  | false=>simp [bJ,hl] at hc
                simp only [bJ,hg,hsc,hl,cond_true,Option.some.injEq] at hc
                have:bh (some s) = some b:=by obtain ⟨sc,sv⟩:=s;simp only at hc;subst hc;rfl
                rw [this,hw]
                cases want <;> rfl
          exact bE hs this hz
        | const _=>exact bE hs hh hz
        | global _=>exact bE hs hh hz
        | func _=>exact bE hs hh hz
      cases hb:b with
      | true =>
        subst hb
        have:=key true rfl x _ hx
        simpa using this
      | false =>
        subst hb
        have:=key false rfl y _ hy
        simpa using this
    · cases h
  · cases h
theorem Q5 {t t':Nat} {v:Value} (ht:t < a.tmps.size):(a.put (some t) v).tmps.getD t' undef = if t = t' then v else a.tmps.getD t' undef:=by
  simp only [Act.put,Array.getD_eq_getD_getElem?,Array.getElem?_setIfInBounds]
  by_cases h:t = t'
  · subst h;simp [ht]
  · simp [h]
theorem ON {t t':Nat} {v:Value} (ht:t < a.tmps.size) (hl:t < 1000000):cQ B (a.put (some t) v) t' = if t = t' then v else cQ B a t':=by
  unfold cQ
  rw [Q5 ht]
  by_cases h:t = t'
  · subst h;rw [if_pos hl,if_pos rfl,if_pos rfl]
  · simp only [if_neg h]
theorem sW (d:Nat) (tm:List (Nat × aw)) (t:Nat):aq (m7 d tm) t = (aq tm t).map fun s=>bif s.ch.any (fun y=>Nat.beq y.1 d) then ⟨[], .c .unk⟩ else s :=
  xp (fun s=>bif s.ch.any (fun y=>Nat.beq y.1 d) then ⟨[], .c .unk⟩ else s) tm t
theorem RT {d:Nat} {ch:aM} (h:ch.any (fun y=>Nat.beq y.1 d) = false):∀ x∈ch,x.1≠d:=by
  intro x hx e
  have:=List.any_eq_false.1 h x hx
  rw [e] at this
  simp at this
theorem K7 {d:Nat} {ch:aM} (h:gv (some d) ch = true):∀ x∈ch,x.1≠d:=by
  intro x hx e
  have:=List.all_eq_true.1 h x hx
  rw [e] at this
  simp at this
theorem j8 {tm:List (Nat × aw)} {t:Nat}:dE tm t = (bh (aq tm t)).isSome:=by
  unfold dE
  cases h:aq tm t with
  | none=>rfl
  | some s =>
    obtain ⟨ch,v⟩:=s
    simp only
    unfold V.isBool bh
    split <;> simp_all
theorem BB {tm:List (Nat × aw)}:∀ (ch:aM),holds tm ch = true→ch.all (fun x=>dE tm x.1) = true
  | [],_=>rfl
  | (t,w) :: r,h=>by
    rw [fq,Bool.and_eq_true] at h
    simp only [List.all_cons,Bool.and_eq_true]
    refine ⟨?_,BB r h.2⟩
    rw [j8]
    cases hb:bh (aq tm t) with
    | none=>rw [hb] at h;simp at h
    | some b=>rfl
theorem gz {tm tm':List (Nat × aw)} {E':an} {w':World} {v:Value} {s:aw} (h:jW tm E' w' v s) (hb:∀ x∈s.ch,dE tm' x.1 = true→bh (aq tm' x.1) = bh (aq tm x.1)):jW tm' E' w' v s:=by
  have key:s.ch.all (fun x=>dE tm' x.1) = true→holds tm' s.ch = holds tm s.ch∧s.ch.all (fun x=>dE tm x.1) = true:=by
    intro ha
    have h1:∀ x∈s.ch,bh (aq tm' x.1) = bh (aq tm x.1):=fun x hx=>hb x hx (List.all_eq_true.1 ha x hx)
    refine ⟨kc _ h1,List.all_eq_true.2 fun x hx=>?_⟩
    have:=List.all_eq_true.1 ha x hx
    rw [j8] at this ⊢
    rw [← h1 x hx];exact this
  refine ⟨fun hh=>?_,fun ha hh=>?_⟩
  · have:=key (BB _ hh)
    exact h.1 (by rw [← this.1];exact hh)
  · have:=key ha
    exact h.2 this.2 (by rw [← this.1];exact hh)
theorem Jq {d:Nat} {tm:List (Nat × aw)} {t:Nat} (h:dE (m7 d tm) t = true):bh (aq (m7 d tm) t) = bh (aq tm t):=by
  rw [j8] at h
  rw [sW] at h ⊢
  cases hx:aq tm t with
  | none=>rfl
  | some s =>
    rw [hx] at h
    simp only [Option.map_some] at h ⊢
    cases hc:s.ch.any (fun y=>Nat.beq y.1 d) with
    | false=>rfl
    | true=>rw [hc] at h;simp [bh] at h
theorem HM {tm:List (Nat × aw)} {E':an} {w':World} {ch:aM} {d:Nat} {v:V} {v':Value} (hlt:d < a.tmps.size) (hlow:d < 1000000) (hsl:∀ t s,aq tm t = some s→jW tm E' w' (cQ B a t) s)
    (hcd:∀ x∈ch,x.1≠d) (hv:jW tm E' w' v' { ch,v }):∀ t s,aq (gT (m7 d tm) d { ch,v }) t = some s→jW (gT (m7 d tm) d { ch,v }) E' w' (cQ B (a.put (some d) v') t) s:=by
  have hb:∀ c:aM,(∀ x∈c,x.1≠d)→∀ x∈c,dE (gT (m7 d tm) d { ch,v }) x.1 = true→bh (aq (gT (m7 d tm) d { ch,v }) x.1) = bh (aq tm x.1):=by
    intro c hc x hx h
    rw [j8,kW,if_neg (fun e=>hc x hx e.symm)] at h
    rw [kW,if_neg (fun e=>hc x hx e.symm)]
    exact Jq (by rw [j8];exact h)
  intro t s hg
  rw [kW] at hg
  rw [ON hlt hlow]
  split at hg
  · next e =>
    subst e;cases hg
    rw [if_pos rfl]
    exact gz hv (hb ch hcd)
  · next e =>
    rw [if_neg e]
    rw [sW] at hg
    cases hx:aq tm t with
    | none=>rw [hx] at hg;cases hg
    | some y =>
      rw [hx] at hg
      simp only [Option.map_some,Option.some.injEq] at hg
      cases hc:y.ch.any (fun y=>Nat.beq y.1 d) with
      | true =>
        rw [hc,cond_true] at hg;subst hg
        exact ⟨fun _=>.unk _,fun _ h=>by simp [holds] at h⟩
      | false =>
        rw [hc,cond_false] at hg;subst hg
        exact gz (hsl t _ hx) (hb _ (RT hc))
theorem Np {kl:List Nat} {tm:List (Nat × aw)} {E':an} {w':World} (hr:∀ v d,ak E w v d→ak E' w' v (d.killAll kl)) (hsl:∀ t s,aq tm t = some s→jW tm E w (cQ B a t) s) :
    ∀ t s,aq (qN kl tm) t = some s→jW (qN kl tm) E' w' (cQ B a t) s:=by
  intro t s hg
  rw [lK] at hg
  cases hx:aq tm t with
  | none=>rw [hx] at hg;cases hg
  | some y =>
    rw [hx] at hg;cases hg
    refine gz (tm:=tm) ⟨fun h=>hr _ _ ((hsl t y hx).1 h),(hsl t y hx).2⟩ fun x _ _=>?_
    rw [lK,Bh]
theorem tA (hs:aV N B σ E a w) {rc:ct} {E':an} {w':World} {v':Value} {M:Nat} (hM:σ.nx≤M) (hnid:rc.nid+8≤M) (hP:cD E w σ.hp rc.nid rc.res E' w' v') (hh:holds σ.tm rc.ch = true)
    (hd:iR N rc.dst = true) (hn:rc.ch.isEmpty = true∨gv rc.dst rc.ch = true):aV N B { after σ rc with nx:=M } E' (a.put rc.dst v') w':=by
  have hlive:∀ q,M≤q→¬ E'.live q:=by
    intro q hq h
    rcases hP.live q h with h | h
    · exact hs.live q (by omega) h
    · omega
  have hown:∀ o b,E'.live o→E'.conc o = some b→B.W.heap.size≤b∨B.mb b:=by
    intro o b ho h
    rcases hP.st.concnew o b ho h with ⟨o,h1,h2⟩ | h
    · exact hs.own o b h1 h2
    · have:=hs.base.size;exact .inl (by omega)
  have hold:∀ b,E'.ok b→B.ok b∨B.W.heap.size≤b∨B.mb b:=by
    intro b hb
    rcases hP.st.okold b hb with h | h | ⟨o,h1,h2⟩
    · exact hs.okold b h
    · have:=hs.base.size;exact .inr (.inl (by omega))
    · exact .inr (hs.own o b h1 h2)
  have hbase:vh B.mb B.W.heap.size B.W w':=by
    refine ⟨hP.st.os.trans hs.base.os,hP.st.tape.trans hs.base.tape,hP.st.output.trans hs.base.output,Nat.le_trans hs.base.size hP.st.size,fun k hk hm=>?_⟩
    rw [hP.st.blk k (by have:=hs.base.size;omega) fun o ho h=>by
      rcases hs.own o k ho h with h | h
      · omega
      · exact hm h]
    exact hs.base.block k hk hm
  have hkill:=Np (kl:=rc.res.kill) (E':=E') (w':=w') (fun v d h=>h.step hP.st hs.heap.sep hs.heap.oklt) hs.slots
  cases hdst:rc.dst with
  | none =>
    refine ⟨hs.size,hs.small,hs.defers,hlive,hP.heap,fun t s hg=>?_,hbase,hown,hold⟩
    simp only [after,hdst] at hg ⊢
    exact hkill t s hg
  | some d =>
    rw [hdst] at hd hn
    simp only [iR,Nat.blt_eq] at hd
    have hlt:d < a.tmps.size:=by rw [hs.size];exact hd
    have hcd:∀ x∈rc.ch,x.1≠d:=by
      rcases hn with hn | hn
      · intro x hx;rw [List.isEmpty_iff.1 hn] at hx;simp at hx
      · exact K7 hn
    refine ⟨by simp [Act.put,hs.size],hs.small,hs.defers,hlive,hP.heap, ?_,hbase,hown,hold⟩
    simp only [after,hdst]
    refine HM hlt (by have:=hs.small;omega) hkill hcd ⟨fun _=>hP.val,fun _ h=>?_⟩
    rw [Lp,hh] at h
    cases h
end
end Go.Ax
namespace Go.Ax
open Go.RowKit
section
variable {P:Program} {N:Nat} {B:eE} {σ σ':St} {E:an} {a:Act} {w:World} {C:FuncId→Option CC}
theorem IN (hs:aV N B σ E a w) {rc:ct} {M:Nat} (hf:¬ E.live rc.nid) (hM:σ.nx≤M) (hnid:rc.nid+8≤M) (hh:holds σ.tm rc.ch = false) (he:rc.res.eff = []) (hk:rc.res.kill = []) (hn:gv rc.dst rc.ch = true)
    (hd:iR N rc.dst = true):aV N B { after σ rc with nx:=M } (E.next rc.nid none 0 0 E.ok) (a.put rc.dst undef) w:=by
  have hS:du E w [] (E.next rc.nid none 0 0 E.ok) w:=cM hf none 0 0 E.ok (.refl _ _) (by simp) (fun _ h=>h) (fun _ h=>.inl h)
  have hN:ar (E.next rc.nid none 0 0 E.ok) w σ.hp:=cZ hf hs.heap (.refl _ _) (by simp) (fun _ h=>h) (fun _ h=>.inl h) hs.heap.oklt
  have hown:∀ o b,(E.next rc.nid none 0 0 E.ok).live o→(E.next rc.nid none 0 0 E.ok).conc o = some b→B.W.heap.size≤b∨B.mb b:=by
    intro o b ho h
    rcases hS.concnew o b ho h with ⟨o,h1,h2⟩ | h
    · exact hs.own o b h1 h2
    · have:=hs.base.size;exact .inl (by omega)
  have hlive:∀ q,M≤q→¬ (E.next rc.nid none 0 0 E.ok).live q:=by
    rintro q hq (h | h)
    · omega
    · exact hs.live q (by omega) h
  have hslot:∀ t s,aq σ.tm t = some s→jW σ.tm (E.next rc.nid none 0 0 E.ok) w (cQ B a t) s:=fun t s hg =>
    ⟨fun h=>gU hs.heap hS ((hs.slots t s hg).1 h),(hs.slots t s hg).2⟩
  have hkT:qN rc.res.kill σ.tm = σ.tm:=by rw [hk];rfl
  have hkH:rc.res.eff++em rc.res.kill σ.hp = σ.hp:=by rw [he,hk];rfl
  cases hdst:rc.dst with
  | none =>
    refine ⟨hs.size,hs.small,hs.defers,hlive,by simp only [after];rw [hkH];exact hN,fun t s hg=>?_,hs.base,hown,hs.okold⟩
    simp only [after,hdst] at hg ⊢
    rw [hkT] at hg ⊢
    exact hslot t s hg
  | some d =>
    rw [hdst] at hd hn
    simp only [iR,Nat.blt_eq] at hd
    have hlt:d < a.tmps.size:=by rw [hs.size];exact hd
    refine ⟨by simp [Act.put,hs.size],hs.small,hs.defers,hlive,by simp only [after];rw [hkH];exact hN, ?_,hs.base,hown,hs.okold⟩
    simp only [after,hdst]
    rw [hkT]
    refine HM hlt (by have:=hs.small;omega) hslot (K7 hn) ⟨fun h=>?_,fun _ _=>rfl⟩
    have h':holds σ.tm rc.ch = true:=h
    rw [hh] at h'
    cases h'
theorem QL {tm:List (Nat × aw)} {ch:aM} {ps:List Prop} (h:∀ p∈jH tm ch ps,p) (hh:holds tm ch = true):∀ p∈ps,p:=by
  intro p hp
  cases ch with
  | nil=>exact h p hp
  | cons x l=>exact h _ (List.mem_map.2 ⟨p,hp,rfl⟩) hh
theorem xG {tm:List (Nat × aw)} {c ch:aM} (h:ch.all (fun x=>fL tm c x.1) = true):ch.all (fun x=>dE tm x.1) = true:=by
  refine List.all_eq_true.2 fun x hx=>?_
  have:=List.all_eq_true.1 h x hx
  unfold fL at this
  unfold dE
  split at this
  · simp only [Bool.and_eq_true] at this;exact this.1
  · cases this
theorem fp {ops:List Oper} {nid:Nat} {o:Oper} {rc:ct} (h:recOf P C N ops σ nid o = some rc) :
    iR N o.dst = true∧dX ops σ.tm o.guard = some rc.ch∧rc.ch.all (fun x=>fL σ.tm rc.ch x.1) = true∧ld P C σ nid rc.ch o = some (rc.vs,rc.res) ∧
      (rc.ch.isEmpty||(rc.res.eff.isEmpty&&rc.res.kill.isEmpty&&gv o.dst rc.ch)) = true∧rc.dst = o.dst∧rc.nid = nid∧rc.rds = k8 (dK o.op)++rc.ch.map (·.1)∧rc.reach = aH σ.hp rc.vs∧rc.rws = o5 σ.hp rc.vs:=by
  unfold recOf at h
  cases hd:iR N o.dst with
  | false=>simp [hd] at h
  | true =>
    simp only [hd,cond_true] at h
    split at h
    · next ch hch =>
      cases hb:ch.all (fun x=>fL σ.tm ch x.1) with
      | false=>simp [hb] at h
      | true =>
        simp only [hb,cond_true] at h
        split at h
        · next vs r hr =>
          cases hc:(ch.isEmpty||(r.eff.isEmpty&&r.kill.isEmpty&&gv o.dst ch)) with
          | false=>simp [hc] at h
          | true =>
            simp only [hc,cond_true,Option.some.injEq] at h
            subst h
            exact ⟨rfl,hch,hb,hr,hc,rfl,rfl,rfl,rfl,rfl⟩
        · cases h
    · cases h
theorem Re {H:af} {nid:Nat} {ch:aM} {o:Oper} {vs:List V} {r:ay} (h:yJ P C H nid ch o vs = some r) (hp:∀ p∈r.pre,p):vp P C H nid o vs = some r:=by
  unfold yJ at h
  split at h
  · next r' hr=>cases h;exact hr
  · cases hc:ch.isEmpty with
    | true=>rw [hc] at h;cases h
    | false =>
      rw [hc] at h;cases h
      have:=hp (false = true) (by simp)
      cases this
theorem AJ (hC:∀ f con,C f = some con→aY P f con) (hs:aV N B σ E a w) {ops:Array Oper} {i:Nat} {o:Oper} (hi:ops[i]? = some o) {nid M:Nat} (hf:fZ E nid) (hM:σ.nx≤M) (hnid:nid+8≤M)
    {rc:ct} (h:recOf P C N ops.toList σ nid o = some rc) (hp:∀ p∈jH σ.tm rc.ch rc.res.pre,p) {K:Act→World→Prop} {Q:Exit→Act→World→Prop}
    (hK:∀ E' a' w',aV N B { after σ rc with nx:=M } E' a' w'→(∀ q,E'.live q→E.live q∨nid≤q∧q < nid+8)→K a' w'):wpOp P ops Q i K a w:=by
  obtain ⟨hd,hch,hb,hr,hc,e1,e2,_,_⟩:=fp h
  rw [← e1] at hd hc
  rw [← e2] at hnid hf hK
  unfold wpOp
  rw [hi]
  simp only
  rw [o9 hs hch (xG hb), ← e1]
  cases hh:holds σ.tm rc.ch with
  | false =>
    rw [if_neg (by simp)]
    have hne:rc.ch.isEmpty = false:=by
      cases hx:rc.ch with
      | nil=>rw [hx] at hh;simp [holds] at hh
      | cons=>rfl
    rw [hne,Bool.false_or] at hc
    simp only [Bool.and_eq_true,List.isEmpty_iff] at hc
    exact hK _ _ _ (IN hs hf.one hM hnid hh hc.1.1 hc.1.2 hc.2 hd) bQ
  | true =>
    rw [if_pos rfl]
    left
    have hpp:=QL hp hh
    have hn:rc.ch.isEmpty = true∨gv rc.dst rc.ch = true:=by
      simp only [Bool.or_eq_true,Bool.and_eq_true] at hc
      exact hc.imp id (·.2)
    unfold ld at hr
    split at hr
    · next c x y ho =>
      have hpk:∃ v,rc.res = { val:=v }∧∃ b:Bool,a.eval c = .bool b∧ak E w (if b then a.eval x else a.eval y) v:=by
        cases hv:pC σ rc.ch c x y with
        | some v =>
          simp only [hv,Option.some.injEq,Prod.mk.injEq] at hr
          exact ⟨v,hr.2.symm,NN hs hh hv⟩
        | none =>
          simp only [hv] at hr
          cases hv2:ti σ rc.ch c x y with
          | none=>simp [hv2] at hr
          | some v =>
            simp only [hv2,Option.map_some,Option.some.injEq,Prod.mk.injEq] at hr
            exact ⟨v,hr.2.symm,Ls hs hh hv2⟩
      obtain ⟨v,hrv,b,hb,hrep⟩:=hpk
      have hr:([]:List V) = []∧({ val:=v }:ay) = rc.res:=⟨rfl,hrv.symm⟩
      · unfold Oper.wp
        have hrun:(execOp a.eval o).run P w = .ok (.value (if b then a.eval x else a.eval y)) w:=by
          simp [execOp,ho,hb,asBool]
        rw [hrun]
        have hP:cD E w σ.hp rc.nid rc.res (E.next rc.nid none 0 0 E.ok) w (if b then a.eval x else a.eval y):=by
          have hS:du E w [] (E.next rc.nid none 0 0 E.ok) w:=cM hf.one none 0 0 E.ok (.refl _ _) (by simp) (fun _ h=>h) (fun _ h=>.inl h)
          rw [← hr.2]
          exact ⟨hS,cZ hf.one hs.heap (.refl _ _) (by simp) (fun _ h=>h) (fun _ h=>.inl h) hs.heap.oklt,gU hs.heap hS hrep,bQ⟩
        have hfin:=hK _ _ _ (tA hs hM hnid hP hh hd hn) hP.live
        rw [e1] at hfin
        exact hfin
    · next op hnp =>
      split at hr
      · next vs hvs =>
        cases hov0:yJ P C σ.hp nid rc.ch o vs with
        | none=>simp [hov0] at hr
        | some r =>
          simp only [hov0,Option.map_some,Option.some.injEq,Prod.mk.injEq] at hr
          obtain ⟨rfl,rfl⟩:=hr
          have hov:=Re hov0 hpp
          rw [← e2] at hov
          refine Qq hs.heap hf hC (BC hs hh hvs) hov hpp fun E' w' v' hP=>?_
          have hfin:=hK _ _ _ (tA hs hM hnid hP hh hd hn) hP.live
          rw [e1] at hfin
          exact hfin
      · cases hr
theorem Md (tm:List (Nat × aw)) (t:Nat):aq (nZ tm) t = (aq tm t).map fun s=>bif s.ch.isEmpty then s else ⟨[], .c .unk⟩ :=
  xp (fun s=>bif s.ch.isEmpty then s else ⟨[], .c .unk⟩) tm t
theorem wc (hs:aV N B σ E a w):aV N B { σ with tm:=nZ σ.tm } E a w:=by
  refine ⟨hs.size,hs.small,hs.defers,hs.live,hs.heap,fun t s hg=>?_,hs.base,hs.own,hs.okold⟩
  simp only at hg ⊢
  rw [Md] at hg
  cases hx:aq σ.tm t with
  | none=>rw [hx] at hg;cases hg
  | some y =>
    rw [hx] at hg
    simp only [Option.map_some,Option.some.injEq] at hg
    cases hc:y.ch.isEmpty with
    | false =>
      rw [hc,cond_false] at hg;subst hg
      exact ⟨fun _=>.unk _,fun _ h=>by simp [holds] at h⟩
    | true =>
      rw [hc,cond_true] at hg;subst hg
      have hch:y.ch = []:=List.isEmpty_iff.1 hc
      have:=hs.slots t y hx
      exact ⟨fun _=>this.1 (by rw [hch];rfl),fun _ h=>by rw [hch] at h;simp [holds] at h⟩
theorem B3 (hC:∀ f con,C f = some con→aY P f con) {ops:Array Oper} {Q:Exit→Act→World→Prop}:∀ (rest:List Oper) (i:Nat) (σ σ':St) (ps:List Prop) (E:an) (a:Act) (w:World),
    ops.toList.drop i = rest→mt P C N ops.toList rest σ = some (ps,σ')→(∀ p∈ps,p)→aV N B σ E a w→(∀ E' a' w',aV N B σ' E' a' w'→Q .normal a' w')→wpOps P ops Q (List.range' i rest.length) a w
  | [],i,σ,σ',ps,E,a,w,hd,hg,hp,hs,hQ=>by
    simp only [mt,Option.some.injEq,Prod.mk.injEq] at hg
    obtain ⟨rfl,rfl⟩:=hg
    exact hQ _ _ _ (wc hs)
  | o :: rest,i,σ,σ',ps,E,a,w,hd,hg,hp,hs,hQ=>by
    rw [mt] at hg
    split at hg
    · next rc h1 =>
      split at hg
      · next qs σ2 h2 =>
        simp only [Option.some.injEq,Prod.mk.injEq] at hg
        obtain ⟨rfl,rfl⟩:=hg
        have hi:ops[i]? = some o:=by
          have:=congrArg (·[0]?) hd
          simpa using this
        rw [List.length_cons,List.range'_succ,wpOps_cons]
        refine AJ (M:=σ.nx+8) hC hs hi (.of hs.live (Nat.le_refl _)) (Nat.le_add_right _ _) (Nat.le_refl _) h1 (fun p hp'=>hp p (List.mem_append_left _ hp')) fun E' a' w' hs' _=>?_
        refine B3 hC rest (i+1) { after σ rc with nx:=σ.nx+8 } _ qs E' a' w' ?_ h2 (fun p hp'=>hp p (List.mem_append_right _ hp')) hs' hQ
        rw [← List.drop_drop,hd]
        rfl
      · cases hg
    · cases hg
theorem Pb (hC:∀ f con,C f = some con→aY P f con) {id:Nat} {ops:Array Oper} {Q:Exit→Act→World→Prop} {ps:List Prop} (hg:mt P C N ops.toList ops.toList σ = some (ps,σ')) (hp:∀ p∈ps,p)
    (hs:aV N B σ E a w) (hQ:∀ E' a' w',aV N B σ' E' a' w'→Q .normal a' w'):(Code.region id ops false).wp P Q a w:=by
  refine wp_region ?_
  have:=B3 hC (Q:=Q) ops.toList 0 σ σ' ps E a w rfl hg hp hs hQ
  rw [List.range_eq_range']
  simpa using this
end
end Go.Ax
namespace Go.Ax
open Go.RowKit
section
variable {P:Program} {N:Nat} {B:eE} {σ σ':St} {E:an} {a:Act} {w:World} {C:FuncId→Option CC}
theorem Dl:∀ {ps:List Prop} {Q:Prop},E7 ps Q→(∀ p∈ps,p)∧Q
  | [],_,h=>⟨fun p hp=>by simp at hp,h⟩
  | p :: ps,Q,h=>by
    obtain ⟨h1,h2⟩:=Dl h.2
    refine ⟨fun q hq=>?_,h2⟩
    rcases List.mem_cons.1 hq with rfl | hq
    · exact h.1
    · exact h1 q hq
theorem Pn {ps:List Prop} {Q Q':Prop} (hq:Q→Q'):E7 ps Q→E7 ps Q':=by
  induction ps with
  | nil=>exact hq
  | cons p ps ih=>exact fun h=>⟨h.1,ih h.2⟩
theorem JQ (hs:aV N B σ E a w) {t:Nat} {s:aw} (hg:aq σ.tm t = some s):aV N B { σ with tm:=gT σ.tm t s } E a w:=by
  have hx:∀ x,aq (gT σ.tm t s) x = aq σ.tm x:=by
    intro x
    rw [kW]
    split
    · next e=>subst e;exact hg.symm
    · rfl
  refine ⟨hs.size,hs.small,hs.defers,hs.live,hs.heap,fun q y hq=>?_,hs.base,hs.own,hs.okold⟩
  simp only at hq ⊢
  rw [hx] at hq
  exact gz (tm:=σ.tm) (hs.slots q y hq) fun z _ _=>by rw [hx]
theorem Ks (hC:∀ f con,C f = some con→aY P f con) (hs:aV N B σ E a w) {ops:Array Oper} {i:Nat} {o:Oper} (hi:ops[i]? = some o) {ch:aM} (hch:dX ops.toList σ.tm o.guard = some ch)
    (hb:ch.all (fun x=>dE σ.tm x.1) = true) (hh:holds σ.tm ch = true) {k:St→Prop} (h:pz P C N ops.toList σ o k) {K:Act→World→Prop} {Q:Exit→Act→World→Prop}
    (hK:∀ σ' E' a' w',k σ'→aV N B σ' E' a' w'→K a' w'):wpOp P ops Q i K a w:=by
  unfold pz at h
  split at h
  · next rc hr =>
    obtain ⟨hp,hk⟩:=Dl h
    have hr':recOf P C N (#[{ o with guard:=none }]:Array Oper).toList σ σ.nx { o with guard:=none } = some rc:=hr
    have hch0:rc.ch = []:=by
      obtain ⟨_,h1,_⟩:=fp hr
      have:dX ops.toList σ.tm none = some rc.ch:=h1
      simpa [dX] using this.symm
    have:=AJ (Q:=Q) (M:=σ.nx+8) hC hs (ops:=#[{ o with guard:=none }]) (i:=0) rfl (.of hs.live (Nat.le_refl _)) (Nat.le_add_right _ _) (Nat.le_refl _) hr' (by rw [hch0];exact hp)
      (K:=K) fun E' a' w' hs' _=>hK _ E' a' w' hk hs'
    unfold wpOp at this ⊢
    rw [hi]
    simp only
    rw [o9 hs hch hb,hh,if_pos rfl]
    have e:(#[{ o with guard:=none }]:Array Oper)[0]? = some { o with guard:=none }:=rfl
    rw [e] at this
    simp only [Region.wanted,if_true] at this
    exact this
  · exact h.elim
theorem FW (hs:aV N B σ E a w) {ops:Array Oper} {i:Nat} {o:Oper} (hi:ops[i]? = some o) {ch:aM} (hch:dX ops.toList σ.tm o.guard = some ch)
    (hb:ch.all (fun x=>dE σ.tm x.1) = true) (hh:holds σ.tm ch = false) {k:St→Prop} (h:pk N σ o ch k) {K:Act→World→Prop} {Q:Exit→Act→World→Prop}
    (hK:∀ σ' E' a' w',k σ'→aV N B σ' E' a' w'→K a' w'):wpOp P ops Q i K a w:=by
  unfold pk at h
  cases hc:(iR N o.dst&&gv o.dst ch) with
  | false=>rw [hc] at h;exact h.elim
  | true =>
    rw [hc,cond_true] at h
    rw [Bool.and_eq_true] at hc
    unfold wpOp
    rw [hi]
    simp only
    rw [o9 hs hch hb,hh,if_neg (by simp)]
    exact hK _ _ _ _ h (IN hs (rc:=EU o ch σ.nx) (hs.live _ (Nat.le_refl _)) (Nat.le_add_right _ _) (Nat.le_refl _) hh rfl rfl hc.2 hc.1)
theorem O9 (hC:∀ f con,C f = some con→aY P f con) {ops:Array Oper} {Q:Exit→Act→World→Prop}:∀ (rest:List Oper) (i:Nat) (σ:St) (K:St→Prop) (E:an) (a:Act) (w:World),
    ops.toList.drop i = rest→tj P C N ops.toList rest σ K→aV N B σ E a w→(∀ σ' E' a' w',K σ'→aV N B σ' E' a' w'→Q .normal a' w')→wpOps P ops Q (List.range' i rest.length) a w
  | [],i,σ,K,E,a,w,hd,hg,hs,hQ=>by
    rw [tj] at hg
    exact hQ _ _ _ _ hg (wc hs)
  | o :: rest,i,σ,K,E,a,w,hd,hg,hs,hQ=>by
    have hi:ops[i]? = some o:=by
      have:=congrArg (·[0]?) hd
      simpa using this
    have hd':ops.toList.drop (i+1) = rest:=by
      rw [← List.drop_drop,hd];rfl
    have next:∀ σ' E' a' w',tj P C N ops.toList rest σ' K→aV N B σ' E' a' w'→wpOps P ops Q (List.range' (i+1) rest.length) a' w' :=
      fun σ' E' a' w' h hs'=>O9 hC rest (i+1) σ' K E' a' w' hd' h hs' hQ
    rw [List.length_cons,List.range'_succ,wpOps_cons]
    rw [tj] at hg
    split at hg
    · next hgn=>exact Ks hC hs hi (ch:=[]) (by rw [hgn];rfl) rfl rfl hg next
    · next g hgn =>
      split at hg
      · next t wt ch hch =>
        cases hb:((t,wt) :: ch).all (fun x=>fL σ.tm ((t,wt) :: ch) x.1) with
        | false=>rw [hb] at hg;exact hg.elim
        | true =>
          rw [hb,cond_true] at hg
          have hbs:=xG hb
          rw [← hgn] at hch
          split at hg
          · next c0 b hgt =>
            cases hh:holds σ.tm ch with
            | false =>
              rw [hh,cond_false] at hg
              exact FW hs hi hch hbs (by rw [fq,hh,Bool.and_false]) hg next
            | true =>
              rw [hh,cond_true] at hg
              have hhold:holds σ.tm ((t,wt) :: ch) = (b == wt):=by rw [fq,hh,Bool.and_true,hgt];rfl
              have hsame:∀ b',b = b'→(∀ x,aq (gT σ.tm t ⟨c0,bl b'⟩) x = aq σ.tm x):=by
                intro b' e x
                subst e
                rw [kW]
                split
                · next e=>subst e;exact hgt.symm
                · rfl
              have hgc:∀ b',b = b'→dX ops.toList (gT σ.tm t ⟨c0,bl b'⟩) o.guard = some ((t,wt) :: ch):=by
                intro b' e
                rw [← hch]
                unfold dX
                split
                · rfl
                · split
                  · split
                    · rw [hsame b' e]
                    · rfl
                  · rfl
              have hbc:∀ b',b = b'→((t,wt) :: ch).all (fun x=>dE (gT σ.tm t ⟨c0,bl b'⟩) x.1) = true:=by
                intro b' e
                rw [← hbs]
                congr 1
                funext x
                unfold dE
                rw [hsame b' e]
              have hho:∀ b',b = b'→holds (gT σ.tm t ⟨c0,bl b'⟩) ((t,wt) :: ch) = (b' == wt):=by
                intro b' e
                rw [kc (tm:=σ.tm) _ fun x _=>by rw [hsame b' e],hhold,e]
              cases hbv:b with
              | true =>
                rw [hbv,cond_true] at hg
                have hs':=JQ hs hgt
                rw [hbv] at hs'
                cases wt with
                | true=>rw [cond_true] at hg;exact Ks hC hs' hi (hgc true hbv) (hbc true hbv) (hho true hbv) hg next
                | false=>rw [cond_false] at hg;exact FW hs' hi (hgc true hbv) (hbc true hbv) (hho true hbv) hg next
              | false =>
                rw [hbv,cond_false] at hg
                have hs':=JQ hs hgt
                rw [hbv] at hs'
                cases wt with
                | true=>rw [cond_true] at hg;exact FW hs' hi (hgc false hbv) (hbc false hbv) (hho false hbv) hg next
                | false=>rw [cond_false] at hg;exact Ks hC hs' hi (hgc false hbv) (hbc false hbv) (hho false hbv) hg next
          · exact hg.elim
      · exact hg.elim
theorem Ov (hC:∀ f con,C f = some con→aY P f con) {id:Nat} {ops:Array Oper} {Q:Exit→Act→World→Prop} {K:St→Prop} (hg:tj P C N ops.toList ops.toList σ K)
    (hs:aV N B σ E a w) (hQ:∀ σ' E' a' w',K σ'→aV N B σ' E' a' w'→Q .normal a' w'):(Code.region id ops false).wp P Q a w:=by
  refine wp_region ?_
  have:=O9 hC (Q:=Q) ops.toList 0 σ K E a w rfl hg hs hQ
  rw [List.range_eq_range']
  simpa using this
theorem wZ {all:List Oper} {o:Oper} {k k':St→Prop} (hk:∀ σ,k σ→k' σ) (h:pz P C N all σ o k):pz P C N all σ o k':=by
  unfold pz at h ⊢
  split at h
  · next rc hr=>exact Pn (hk _) h
  · exact h.elim
theorem xt {o:Oper} {ch:aM} {k k':St→Prop} (hk:∀ σ,k σ→k' σ) (h:pk N σ o ch k):pk N σ o ch k':=by
  unfold pk at h ⊢
  cases hc:(iR N o.dst&&gv o.dst ch) with
  | false=>rw [hc] at h;exact h.elim
  | true=>rw [hc,cond_true] at h;rw [cond_true];exact hk _ h
end
end Go.Ax
namespace Go.Ax
open Go.RowKit
section
variable {P:Program} {N:Nat} {B:eE} {σ σ':St} {E:an} {a:Act} {w:World} {C:FuncId→Option CC}
mutual
theorem kill_noUnk (o:Nat):∀ v:V,(v.kill o).noUnk = true→v.kill o = v
  | .c _,_=>rfl
  | .agg vs,h=>by simp only [V.kill,V.noUnk] at h ⊢; rw [kills_noUnk o vs h]
  | .tup vs,h=>by simp only [V.kill,V.noUnk] at h ⊢; rw [kills_noUnk o vs h]
  | .ptr o' k i j,h=>by
    rw [V.kill] at h ⊢
    cases hb:Nat.beq o' o
    · rfl
    · rw [hb] at h;simp [V.noUnk] at h
  | .row o' k,h=>by
    rw [V.kill] at h ⊢
    cases hb:Nat.beq o' o
    · rfl
    · rw [hb] at h;simp [V.noUnk] at h
  | .sub o' k i j,h=>by
    rw [V.kill] at h ⊢
    cases hb:Nat.beq o' o
    · rfl
    · rw [hb] at h;simp [V.noUnk] at h
  | .dptr ..,_=>rfl
  | .fn _ vs,h=>by simp only [V.kill,V.noUnk] at h ⊢; rw [kills_noUnk o vs h]
theorem kills_noUnk (o:Nat):∀ vs:List V,V.noUnks (V.kills o vs) = true→V.kills o vs = vs
  | [],_=>rfl
  | v :: r,h=>by
    simp only [V.kills,V.noUnks,Bool.and_eq_true] at h ⊢
    rw [kill_noUnk o v h.1,kills_noUnk o r h.2]
end
theorem mD:∀ (kl:List Nat) (v:V),(v.killAll kl).noUnk = true→v.killAll kl = v
  | [],_,_=>rfl
  | o :: r,v,h=>by
    rw [V.killAll] at h ⊢
    have h1:=mD r _ h
    rw [h1] at h ⊢
    exact kill_noUnk o v h
mutual
theorem kill_norefs (o:Nat):∀ v:V,v.refs = []→v.kill o = v
  | .c _,_=>rfl
  | .agg vs,h=>by simp only [V.kill];rw [kills_norefs o vs h]
  | .tup vs,h=>by simp only [V.kill];rw [kills_norefs o vs h]
  | .ptr o' k i j,h=>by simp [V.refs] at h
  | .row o' k,h=>by simp [V.refs] at h
  | .sub o' k i j,h=>by simp [V.refs] at h
  | .dptr ..,_=>rfl
  | .fn _ vs,h=>by simp only [V.kill];rw [kills_norefs o vs h]
theorem kills_norefs (o:Nat):∀ vs:List V,V.refss vs = []→V.kills o vs = vs
  | [],_=>rfl
  | v :: r,h=>by
    simp only [V.refss,List.append_eq_nil_iff] at h
    simp only [V.kills]
    rw [kill_norefs o v h.1,kills_norefs o r h.2]
end
mutual
theorem kill_disj (o:Nat):∀ (v:V),o ∉ v.refs→v.kill o = v
  | .c _,_=>rfl
  | .agg vs,h=>by rw [V.kill,kills_disj o vs (by rw [V.refs] at h;exact h)]
  | .tup vs,h=>by rw [V.kill,kills_disj o vs (by rw [V.refs] at h;exact h)]
  | .ptr o' k i j,h=>by
    rw [V.kill]
    cases hb:Nat.beq o' o with
    | false=>rfl
    | true=>exact (h (by rw [V.refs,Nat.eq_of_beq_eq_true hb];simp)).elim
  | .row o' k,h=>by
    rw [V.kill]
    cases hb:Nat.beq o' o with
    | false=>rfl
    | true=>exact (h (by rw [V.refs,Nat.eq_of_beq_eq_true hb];simp)).elim
  | .sub o' k i j,h=>by
    rw [V.kill]
    cases hb:Nat.beq o' o with
    | false=>rfl
    | true=>exact (h (by rw [V.refs,Nat.eq_of_beq_eq_true hb];simp)).elim
  | .dptr ..,_=>rfl
  | .fn f vs,h=>by rw [V.kill,kills_disj o vs (by rw [V.refs] at h;exact h)]
theorem kills_disj (o:Nat):∀ (vs:List V),o ∉ V.refss vs→V.kills o vs = vs
  | [],_=>rfl
  | v :: r,h=>by
    rw [V.refss,List.mem_append] at h
    rw [V.kills,kill_disj o v (fun e=>h (.inl e)),kills_disj o r (fun e=>h (.inr e))]
end
theorem jm:∀ (kl:List Nat) (v:V),(∀ q∈v.refs,q ∉ kl)→v.killAll kl = v
  | [],_,_=>rfl
  | o :: r,v,h=>by
    rw [V.killAll,kill_disj o v (fun ho=>h o ho (by simp)),jm r v fun q hq hr=>h q hq (by simp [hr])]
theorem mX {a b:List Nat} (h:Nw a b = true):∀ x∈a,x ∉ b:=by
  intro x hx hb
  have:=List.all_eq_true.1 h x hx
  simp only [Bool.not_eq_true'] at this
  have:=List.any_eq_false.1 this x hb
  simp at this
theorem xg {H H':af} {o k:Nat} (h:H.get o = H'.get o):sj H o k = sj H' o k:=by unfold sj;rw [h]
theorem wE {H H':af} {o k off n:Nat} (h:H.get o = H'.get o):rL H o k off n = rL H' o k off n:=by unfold rL;rw [h]
theorem Ig {H:af} {vs:List V} {o:Nat} {cs:List V} (ho:o∈V.refss vs) (hb:H.get o = some (.box cs)) {q:Nat} (hq:q∈V.refss cs):q∈aH H vs :=
  List.mem_append_right _ (List.mem_flatMap.2 ⟨o,ho,by rw [hb];exact hq⟩)
theorem Fh {H:af} {vs:List V} {o:Nat} {m:V} (ho:o∈V.refss vs) {s:Int} {l:List Int} (hb:H.get o = some (.iter m s l)) {q:Nat} (hq:q∈V.refs m):q∈aH H vs :=
  List.mem_append_right _ (List.mem_flatMap.2 ⟨o,ho,by rw [hb];exact hq⟩)
theorem He {H:af} {vs:List V} {o:Nat} (ho:o∈V.refss vs):o∈aH H vs:=List.mem_append_left _ ho
theorem Bf {H H':af}:∀ (os:List Nat),(∀ o∈os,H.get o = H'.get o)→bn os H = bn os H'
  | [],_=>rfl
  | o :: r,h=>by
    unfold bn
    rw [h o (by simp),Bf r fun o ho=>h o (by simp [ho])]
structure ku (H H':af) (os:List Nat):Prop where
  one:∀ o∈os,H.get o = H'.get o
  two:∀ o∈os, ∀ cs,H.get o = some (.box cs)→∀ q∈V.refss cs,H.get q = H'.get q
  three:∀ o∈os, ∀ m s l,H.get o = some (.iter m s l)→∀ q∈V.refs m,H.get q = H'.get q
theorem ku.sub {H H':af} {os os':List Nat} (h:ku H H' os) (hs:∀ o∈os',o∈os):ku H H' os':=⟨fun o ho=>h.one o (hs o ho),fun o ho=>h.two o (hs o ho),fun o ho=>h.three o (hs o ho)⟩
theorem Br {H H':af} {vs:List V} (h:∀ o∈aH H vs,H.get o = H'.get o):ku H H' (V.refss vs) :=
  ⟨fun o ho=>h o (He ho),fun o ho cs hb q hq=>h q (Ig ho hb hq),fun o ho m s l hb q hq=>h q (Fh ho hb hq)⟩
theorem uz {H H':af} {vs:List V} (h:ku H H' (V.refss vs)):aH H vs = aH H' vs:=by
  unfold aH
  congr 1
  have:∀ (l:List Nat),(∀ o∈l,H.get o = H'.get o)→l.flatMap (fun o=>match H.get o with | some (.box cs)=>V.refss cs | some (.iter m _ _)=>V.refs m | _=>[]) = l.flatMap (fun o=>match H'.get o with | some (.box cs)=>V.refss cs | some (.iter m _ _)=>V.refs m | _=>[]):=by
    intro l
    induction l with
    | nil=>intro _;rfl
    | cons x l ih =>
      intro hl
      rw [List.flatMap_cons,List.flatMap_cons,hl x (by simp),ih fun o ho=>hl o (by simp [ho])]
  exact this _ h.one
theorem Pd {H H':af} {vs:List V} (h:ku H H' (V.refss vs)) {o:Nat} (ho:o∈aH H vs):H.get o = H'.get o:=by
  unfold aH at ho
  rcases List.mem_append.1 ho with ho | ho
  · exact h.one o ho
  · obtain ⟨q,hq,ho⟩:=List.mem_flatMap.1 ho
    cases hg:H.get q with
    | none=>rw [hg] at ho;simp at ho
    | some b =>
      rw [hg] at ho
      cases b with
      | box cs=>exact h.two q hq cs hg o ho
      | row t k n=>simp at ho
      | raw x=>simp at ho
      | map=>simp at ho
      | iter m s l=>exact h.three q hq m s l hg o ho
theorem It {H H':af} {vs:List V} (h:ku H H' (V.refss vs)):o5 H vs = o5 H' vs:=by
  unfold o5
  rw [← uz h]
  have key:∀ l:List Nat,(∀ o∈l,H.get o = H'.get o)→(l.all fun o=>IC (H.get o)) = (l.all fun o=>IC (H'.get o))∧(l.flatMap fun o=>oL (H.get o)) = l.flatMap fun o=>oL (H'.get o):=by
    intro l
    induction l with
    | nil=>intro _;exact ⟨rfl,rfl⟩
    | cons x l ih =>
      intro h
      obtain ⟨i1,i2⟩:=ih fun o ho=>h o (by simp [ho])
      rw [List.all_cons,List.all_cons,List.flatMap_cons,List.flatMap_cons,h x (by simp),i1,i2]
      exact ⟨rfl,rfl⟩
  obtain ⟨k1,k2⟩:=key _ fun o ho=>Pd h ho
  rw [k1,k2]
theorem Mg {H H':af} {v:V} (h:∀ o∈v.refs,H.get o = H'.get o):pm H v = pm H' v:=by
  cases v with
  | row o k=>simp only [pm,xg (h o (by simp [V.refs]))]
  | sub o k off n=>simp only [pm,wE (h o (by simp [V.refs]))]
  | _=>rfl
theorem NY {H H':af} {o k i j:Nat} (h:ku H H' [o]):Jp H o k i j = Jp H' o k i j:=by
  unfold Jp
  have h1:=h.one o (by simp)
  cases hg:H.get o with
  | none=>rw [← h1,hg]
  | some ob =>
    cases ob with
    | row t k' n=>rw [← h1,hg]
    | raw x=>rw [← h1,hg]
    | map=>rw [← h1,hg]
    | iter m s l=>rw [← h1,hg]
    | box cs =>
      have:cs.map (pm H) = cs.map (pm H'):=List.map_congr_left fun v hv=>Mg fun q hq=>by
        obtain ⟨i,hi⟩:=List.getElem?_of_mem hv
        exact h.two o (by simp) cs hg q (cN hi hq)
      rw [← h1,hg]
      simp only [this]
mutual
theorem view_agree {H H':af}:∀ (v:V),ku H H' v.refs→v.view H = v.view H'
  | .c .nil,_=>rfl
  | .c .unk,_=>rfl
  | .c (.lit _),_=>rfl
  | .c (.opt ..),_=>rfl
  | .c .any,_=>rfl
  | .c (.sl ..),_=>rfl
  | .agg vs,h=>by rw [V.view,V.view,views_agree vs h]
  | .tup vs,h=>by rw [V.view,V.view,views_agree vs h]
  | .ptr o k i j,h=>by rw [V.view,V.view];exact NY h
  | .row o k,h=>by rw [V.view,V.view];exact xg (h.one o (by simp [V.refs]))
  | .sub o k off n,h=>by rw [V.view,V.view];exact wE (h.one o (by simp [V.refs]))
  | .dptr ..,_=>by rw [V.view,V.view]
  | .fn f vs,h=>by rw [V.view,V.view,views_agree vs h]
theorem views_agree {H H':af}:∀ (vs:List V),ku H H' (V.refss vs)→V.views H vs = V.views H' vs
  | [],_=>rfl
  | v :: r,h=>by
    rw [V.views,V.views,view_agree v (h.sub fun o ho=>by simp [V.refss,ho]),views_agree r (h.sub fun o ho=>by simp [V.refss,ho])]
end
mutual
theorem viewN_agree {H H':af}:∀ (v:V),v.noP = true→(∀ o∈v.refs,H.get o = H'.get o)→v.view H = v.view H'
  | .c d,_,_=>by cases d <;> rfl
  | .agg vs,hn,h=>by rw [V.view,V.view,viewsN_agree vs (by simpa [V.noP] using hn) h]
  | .tup vs,hn,h=>by rw [V.view,V.view,viewsN_agree vs (by simpa [V.noP] using hn) h]
  | .ptr o k i j,hn,_=>by simp [V.noP] at hn
  | .row o k,_,h=>by rw [V.view,V.view];exact xg (h o (by simp [V.refs]))
  | .sub o k off n,_,h=>by rw [V.view,V.view];exact wE (h o (by simp [V.refs]))
  | .dptr ..,_,_=>by rw [V.view,V.view]
  | .fn f vs,hn,h=>by rw [V.view,V.view,viewsN_agree vs (by simpa [V.noP] using hn) h]
theorem viewsN_agree {H H':af}:∀ (vs:List V),V.noPs vs = true→(∀ o∈V.refss vs,H.get o = H'.get o)→V.views H vs = V.views H' vs
  | [],_,_=>rfl
  | v :: r,hn,h=>by
    rw [V.noPs,Bool.and_eq_true] at hn
    rw [V.views,V.views,viewN_agree v hn.1 (fun o ho=>h o (by simp [V.refss,ho])),viewsN_agree r hn.2 (fun o ho=>h o (by simp [V.refss,ho]))]
end
theorem LU {C:FuncId→Option CC} {f:FuncId} {nid:Nat} {H H':af} {vs:List V} (h:∀ o∈V.refss vs,H.get o = H'.get o):qR C f nid H vs = qR C f nid H' vs:=by
  unfold qR
  cases hn:V.noPs vs with
  | false=>rfl
  | true =>
    rw [cond_true,cond_true]
    cases hc:C f with
    | none=>rfl
    | some con =>
      match con,hc with
      | .mut m,hc=>rfl
      | .pure con,hc =>
        simp only
        unfold iu
        rw [hc]
        simp only
        rw [viewsN_agree vs hn h]
theorem O8 (o:Nat) (t:Ty) (l:List t.T):∀ vs:List V, ∀ x∈V.refss (V.fzs o t l vs),x∈V.refss vs:=fzr2 o t l
where
  fzr1 (o:Nat) (t:Ty) (l:List t.T):∀ d:V, ∀ x∈(d.fz o t l).refs,x∈d.refs
  | .c _,x,h=>by simp [V.fz,V.refs] at h
  | .agg vs,x,h=>by rw [V.fz,V.refs] at h;rw [V.refs];exact fzr2 o t l vs x h
  | .tup vs,x,h=>by rw [V.fz,V.refs] at h;rw [V.refs];exact fzr2 o t l vs x h
  | .ptr o' k' i j,x,h=>by
    rw [V.fz] at h
    cases hb:Nat.beq o' o with
    | false=>rw [hb,cond_false] at h;exact h
    | true=>rw [hb,cond_true] at h;simp [V.refs] at h
  | .row o' k',x,h=>by
    rw [V.fz] at h
    cases hb:Nat.beq o' o with
    | false=>rw [hb,cond_false] at h;exact h
    | true =>
      rw [hb,cond_true] at h
      cases hk:Nat.beq t.k k' <;> rw [hk] at h <;> simp [V.refs] at h
  | .sub o' k' i j,x,h=>by
    rw [V.fz] at h
    cases hb:Nat.beq o' o with
    | false=>rw [hb,cond_false] at h;exact h
    | true =>
      rw [hb,cond_true] at h
      cases hk:Nat.beq t.k k' <;> rw [hk] at h <;> simp [V.refs] at h
  | .dptr ..,x,h=>by rw [V.fz] at h;exact h
  | .fn _ vs,x,h=>by rw [V.fz,V.refs] at h;rw [V.refs];exact fzr2 o t l vs x h
  fzr2 (o:Nat) (t:Ty) (l:List t.T):∀ vs:List V, ∀ x∈V.refss (V.fzs o t l vs),x∈V.refss vs
  | [],x,h=>by simp [V.fzs,V.refss] at h
  | v :: r,x,h=>by
    rw [V.fzs,V.refss,List.mem_append] at h
    rw [V.refss,List.mem_append]
    exact h.imp (fzr1 o t l v x) (fzr2 o t l r x)
theorem qg {f:af→List V→Option ay} (hf:∀ H H' vs,(∀ o∈V.refss vs,af.get H o = af.get H' o)→f H vs = f H' vs):∀ (fl:List Nat) (H H':af) (vs:List V),(∀ o∈fl,H.get o = H'.get o)→(∀ o∈V.refss vs,H.get o = H'.get o)→jV f fl H vs = jV f fl H' vs
  | [],H,H',vs,_,h=>hf H H' vs h
  | q :: fl,H,H',vs,h,h2=>by
    rw [jV,jV, ← h q (by simp)]
    split
    · next e t l hg =>
      refine congrArg _ (qg hf fl _ _ _ (fun o ho=>?_) fun o ho=>?_)
      · simp only [af.get_cons,en,h o (by simp [ho])]
      · simp only [af.get_cons,en,h2 o (O8 q t l vs o ho)]
    · rfl
theorem CX {H H':af} {t:Ty} {v:V} (h:∀ o∈v.refs,H.get o = H'.get o):cE H t v = cE H' t v:=by
  unfold cE
  cases v with
  | row q k=>simp only [h q (by simp [V.refs])]
  | sub q k off n=>simp only [h q (by simp [V.refs])]
  | c d=>cases d <;> rfl
  | _=>rfl
theorem LA {P:Program} {H H':af} {t:TypeId} {a:V} (h:∀ o∈a.refs,H.get o = H'.get o):nU P H t a = nU P H' t a:=by
  unfold nU
  cases a with
  | ptr q k i j=>simp only [h q (by simp [V.refs])]
  | _=>rfl
theorem sa {P:Program} {H H':af} {t:TypeId} {a b:V} (h:∀ o∈a.refs,H.get o = H'.get o):pR P H t a b = pR P H' t a b:=by
  unfold pR
  cases a with
  | ptr q k i j=>simp only [h q (by simp [V.refs])]
  | _=>rfl
theorem KP {P:Program} {H H':af} {t:TypeId} {vs:List V} (h:∀ o∈V.refss vs,H.get o = H'.get o):uR P t H vs = uR P t H' vs:=by
  unfold uR
  split
  · next a x=>exact sa fun q hq=>h q (by simp [V.refss,hq])
  · rfl
theorem JB {P:Program} {H H':af} {t:TypeId} {a b:V} (h:∀ o∈V.refss [a,b],H.get o = H'.get o):uZ P H t a b = uZ P H' t a b:=by
  unfold uZ
  cases a with
  | ptr q k i j =>
    have hq:=h q (by simp [V.refss,V.refs])
    simp only [← hq]
    split
    · exact qg (f:=uR P t) (fun H H' vs h=>KP h) (V.refs b) H H' _ (fun o ho=>h o (by simp [V.refss,ho])) h
    · exact sa fun o ho=>h o (by simp [V.refss,ho])
  | _=>exact sa fun o ho=>h o (by simp [V.refss,ho])
theorem Oc {P:Program} {H H':af} {t:TypeId} {a:V} (h:∀ o∈a.refs,H.get o = H'.get o):xl P H t a = xl P H' t a:=by
  unfold xl
  generalize P.underlying t = u
  cases u with
  | none=>rfl
  | some u =>
    cases a with
    | row q k =>
      have hq:=h q (by simp [V.refs])
      cases u <;> first | rfl | simp only [hq]
    | c d =>
      cases d with
      | lit v=>cases v <;> cases u <;> rfl
      | _=>cases u <;> rfl
    | _=>cases u <;> rfl
theorem nt {P:Program} {H H':af} {t:TypeId} {a:V} {lo hi:Option V} (h:∀ o∈a.refs,H.get o = H'.get o):nV P H t a lo hi = nV P H' t a lo hi:=by
  unfold nV
  generalize P.underlying t = u
  cases u with
  | none=>rfl
  | some u =>
    cases a with
    | row q k =>
      have hq:=h q (by simp [V.refs])
      cases u <;> first | rfl | simp only [hq]
    | c d =>
      cases d with
      | lit v=>cases v <;> cases u <;> rfl
      | _=>cases u <;> rfl
    | _=>cases u <;> rfl
theorem Cr {P:Program} {H H':af} {t:TypeId} {a b:V} (h:∀ o∈a.refs,H.get o = H'.get o):lJ P H t a b = lJ P H' t a b:=by
  unfold lJ
  generalize P.underlying t = u
  by_cases hb:∃ kk i,b = .c (.lit (.int kk i))
  · obtain ⟨kk,i,rfl⟩:=hb
    cases u with
    | none=>rfl
    | some u =>
      cases a with
      | row q k =>
        have hq:=h q (by simp [V.refs])
        cases u <;> first | rfl | simp only [hq]
      | ptr q k i j =>
        have hq:=h q (by simp [V.refs])
        cases u <;> first | rfl | simp only [hq]
      | c d=>cases d <;> cases u <;> rfl
      | _=>cases u <;> rfl
  · split <;> first | rfl | exact (hb ⟨_,_,rfl⟩).elim | (split <;> first | rfl | exact (hb ⟨_,_,rfl⟩).elim)
theorem KK {P:Program} {H H':af} {t:TypeId} {a:V} (h:∀ o∈a.refs,H.get o = H'.get o):pH P H t a = pH P H' t a:=by
  unfold pH
  cases a with
  | row q k=>simp only [h q (by simp [V.refs])]
  | sub q k off n=>simp only [h q (by simp [V.refs])]
  | _=>rfl
theorem Ih {P:Program} {H H':af} {nid:Nat} {t:TypeId} {s x:V} (h:∀ o∈s.refs,H.get o = H'.get o) (hx:∀ o∈x.refs,H.get o = H'.get o):mN P H nid t s x = mN P H' nid t s x:=by
  unfold mN
  have e:∀ ty,cE H ty x = cE H' ty x:=fun ty=>CX hx
  cases s with
  | row q k=>simp only [h q (by simp [V.refs]),e]
  | c d=>cases d <;> simp only [e]
  | _=>rfl
theorem L0 {H H':af} {a:V} (h:∀ o∈a.refs,H.get o = H'.get o):Ao H a = Ao H' a:=by
  unfold Ao
  cases a with
  | ptr q k i j=>simp only [h q (by simp [V.refs])]
  | _=>rfl
theorem pl {H H':af} {m:V} (h:∀ o∈m.refs,H.get o = H'.get o):mo H m = mo H' m:=by
  unfold mo
  split
  · next f o k i j=>rw [h o (by simp [V.refs,V.refss])]
  · rfl
theorem H4 {H H':af} {t:TypeId} {m k:V} {ok:Bool} (h:∀ o∈m.refs,H.get o = H'.get o):rx P H t m k ok = rx P H' t m k ok:=by
  unfold rx
  rw [pl h]
theorem LN {H H':af} {t:TypeId} {vs:List V} (h:∀ o∈V.refss vs,H.get o = H'.get o):wF P t H vs = wF P t H' vs:=by
  unfold wF
  split
  · next m k v=>rw [pl fun o ho=>h o (by simp [V.refss,ho])]
  · rfl
theorem JX {H H':af} {a:V} (h:ku H H' a.refs):vu H a = vu H' a:=by
  unfold vu
  cases a with
  | ptr q k i j =>
    have e:=h.one q (by simp [V.refs])
    simp only [e]
    cases hg:H'.get q with
    | none=>rfl
    | some b =>
      cases b with
      | iter m s l=>simp only [pl fun o ho=>h.three q (by simp [V.refs]) m s l (e.trans hg) o ho]
      | _=>rfl
  | _=>rfl
theorem Kb {P:Program} {H H':af} {nid:Nat} {t:TypeId} {a:V} (h:∀ o∈a.refs,H.get o = H'.get o):uK P H nid t a = uK P H' nid t a:=by
  unfold uK
  rw [pl h]
theorem PD {H H':af} {nid:Nat} {o:Oper} {vs:List V} (h:ku H H' (V.refss vs)):vp P C H nid o vs = vp P C H' nid o vs:=by
  unfold vp
  split <;> try rfl
  · exact qg (fun _ _ _ _=>rfl) _ _ _ _ (fun o ho=>h.one o ho) fun o ho=>h.one o ho
  · exact LA fun q hq=>h.one q (by simp [V.refss,hq])
  · exact JB fun q hq=>h.one q hq
  · next a b x d _ =>
    have hx:cE H (.i .u8) d = cE H' (.i .u8) d:=CX fun q hq=>h.one q (by simp [V.refss,hq])
    unfold D3
    rw [hx]
  · exact Cr fun q hq=>h.one q (by simp [V.refss,hq])
  · exact nt fun q hq=>h.one q (by simp [V.refss,hq])
  · exact nt fun q hq=>h.one q (by simp [V.refss,hq])
  · exact nt fun q hq=>h.one q (by simp [V.refss,hq])
  · exact nt fun q hq=>h.one q (by simp [V.refss,hq])
  · exact H4 fun q hq=>h.one q (by simp [V.refss,hq])
  · next t x y z m k v _=>exact qg (f:=wF P t) (fun _ _ _ h=>LN h) (V.refs v) _ _ _ (fun o ho=>h.one o (by simp [V.refss,ho])) fun o ho=>h.one o ho
  · next t x d _=>rw [Kb (P:=P) (H:=H) (H':=H') fun q hq=>h.one q (by simp [V.refss,hq])]
  · exact L0 fun q hq=>h.one q (by simp [V.refss,hq])
  · exact JX (h.sub fun q hq=>by simp [V.refss,hq])
  · next args ats x _ =>
    have hc:∀ t,xl P H t x = xl P H' t x:=fun t=>Oc fun q hq=>h.one q (by simp [V.refss,hq])
    simp only [hc]
  · next args ats x _ =>
    have hc:∀ t,pH P H t x = pH P H' t x:=fun t=>KK fun q hq=>h.one q (by simp [V.refss,hq])
    simp only [hc]
  · next args ats s x _ =>
    have ha:∀ t,mN P H nid t s x = mN P H' nid t s x:=fun t=>Ih (fun q hq=>h.one q (by simp [V.refss,hq])) fun q hq=>h.one q (by simp [V.refss,hq])
    simp only [ha]
  · next f args ats g caps ds _ =>
    unfold mq
    have hag:ku H H' (V.refss (ds++caps)):=by
      refine h.sub fun q hq=>?_
      have:∀ (l1 l2:List V),q∈V.refss (l1++l2)→q∈V.refss l1∨q∈V.refss l2:=by
        intro l1 l2
        induction l1 with
        | nil=>intro h;exact .inr h
        | cons x l ih =>
          intro h
          simp only [List.cons_append,V.refss,List.mem_append] at h ⊢
          rcases h with h | h
          · exact .inl (.inl h)
          · exact (ih h).imp .inr id
      simp only [V.refss,V.refs,List.mem_append]
      exact (this _ _ hq).symm
    have hr:bn (aH H (ds++caps)) H = bn (aH H' (ds++caps)) H':=by
      rw [← uz hag]
      refine Bf _ fun o ho=>?_
      rcases List.mem_append.1 ho with ho | ho
      · exact hag.one o ho
      · obtain ⟨q,hq,ho⟩:=List.mem_flatMap.1 ho
        cases hg:H.get q with
        | none=>rw [hg] at ho;simp at ho
        | some b =>
          cases b with
          | box cs=>rw [hg] at ho;exact hag.two q hq cs hg o ho
          | row t k n=>rw [hg] at ho;simp at ho
          | raw x=>rw [hg] at ho;simp at ho
          | map=>rw [hg] at ho;simp at ho
          | iter m s l=>rw [hg] at ho;exact hag.three q hq m s l hg o ho
    have h0:iu C H nid g (ds++caps) = iu C H' nid g (ds++caps):=by
      unfold iu
      rw [views_agree _ hag,hr]
    have h1:=qg (f:=qR C g nid) (fun _ _ _ h=>LU h) (V.refss (ds++caps)) H H' (ds++caps) hag.one hag.one
    rw [h0,h1]
end
end Go.Ax
namespace Go.Ax
open Go.RowKit
section
variable {P:Program} {N:Nat} {B:eE} {σ σ':St} {E:an} {a:Act} {w:World} {C:FuncId→Option CC} {all:List Oper}
def cT:List Nat→Option Ob→Option Ob
  | [],b=>b
  | o :: r,b=>cT r (l4 o b)
theorem zV:∀ (kl:List Nat) (H:af) (q:Nat),af.get (em kl H) q = cT kl (af.get H q)
  | [],H,q=>rfl
  | o :: r,H,q=>by
    have h1:=en o H q
    rw [em,zV r,cT]
    simp only [em] at h1
    rw [h1]
theorem rm:∀ (A H:af) (q:Nat),af.get (A++H) q = if q∈dw A then af.get A q else af.get H q
  | [],H,q=>by simp [dw]
  | (p,b) :: A,H,q=>by
    rw [List.cons_append,af.get_cons,af.get_cons,rm A H q]
    by_cases h:p = q
    · subst h;simp [dw]
    · simp only [if_neg h,dw,List.map_cons,List.mem_cons]
      have:¬ q = p:=fun e=>h e.symm
      simp only [this,false_or]
      rfl
theorem iD (r:ct) (q:Nat):af.get (after σ r).hp q = if q∈dw r.res.eff then af.get r.res.eff q else cT r.res.kill (af.get σ.hp q):=by
  rw [after,rm,zV]
def oB (dst:Option Nat) (s:aw):aw:=match dst with | some d=>bif s.ch.any (fun y=>Nat.beq y.1 d) then ⟨[], .c .unk⟩ else s | none=>s
theorem iC (r:ct) (t:Nat):aq (after σ r).tm t = if r.dst = some t then some ⟨r.ch,r.res.val⟩ else (aq σ.tm t).map fun s=>oB r.dst ⟨s.ch,s.v.killAll r.res.kill⟩:=by
  unfold after oB
  cases hd:r.dst with
  | none=>simp only [reduceCtorEq,if_false];rw [lK]
  | some d =>
    simp only [Option.some.injEq]
    rw [kW]
    split
    · rfl
    · rw [sW,lK]
      cases aq σ.tm t <;> rfl
theorem wO {d:Option Nat} {t:Nat}:t∈lR d↔d = some t:=by
  cases d with
  | none=>simp [lR]
  | some x=>simp [lR,eq_comm]
theorem PU {r:ct} {t:Nat} {s:aw} (h:aq (after σ r).tm t = some s) (ht:t ∉ lR r.dst) (hn:s.v.noUnk = true):aq σ.tm t = some s:=by
  rw [iC,if_neg (fun e=>ht (wO.2 e))] at h
  cases hx:aq σ.tm t with
  | none=>rw [hx] at h;cases h
  | some y =>
    rw [hx] at h
    simp only [Option.map_some,Option.some.injEq] at h
    have:oB r.dst ⟨y.ch,y.v.killAll r.res.kill⟩ = ⟨y.ch,y.v.killAll r.res.kill⟩:=by
      unfold oB
      cases hd:r.dst with
      | none=>rfl
      | some d =>
        simp only
        cases hc:y.ch.any (fun z=>Nat.beq z.1 d) with
        | false=>rfl
        | true =>
          simp only [oB,hd,hc,cond_true] at h
          subst h
          simp [V.noUnk] at hn
    rw [this] at h
    subst h
    have:=mD _ _ hn
    obtain ⟨ych,yv⟩:=y
    simp only at this ⊢
    rw [this]
theorem Og {r:ct} {t:Nat} {s:aw} (h:aq σ.tm t = some s) (ht:t ∉ lR r.dst) (hk:∀ q∈s.v.refs,q ∉ r.res.kill) (hc:∀ x∈s.ch,x.1 ∉ lR r.dst):aq (after σ r).tm t = some s:=by
  rw [iC,if_neg (fun e=>ht (wO.2 e)),h]
  simp only [Option.map_some,Option.some.injEq]
  have e1:s.v.killAll r.res.kill = s.v:=jm _ _ hk
  rw [e1]
  unfold oB
  cases hd:r.dst with
  | none=>rfl
  | some d =>
    simp only
    have:s.ch.any (fun z=>Nat.beq z.1 d) = false:=by
      refine List.any_eq_false.2 fun x hx=>?_
      have:=hc x hx
      rw [hd] at this
      intro hb
      exact this (by simp [lR,Nat.eq_of_beq_eq_true hb])
    rw [this]
    rfl
theorem jD:∀ {xs:List Operand} {t:Nat},t∈k8 xs↔Operand.tmp t∈xs
  | [],t=>by simp [k8]
  | .tmp q :: r,t=>by simp [k8,jD (xs:=r)]
  | .const v :: r,t=>by simp [k8,jD (xs:=r)]
  | .global g :: r,t=>by simp [k8,jD (xs:=r)]
  | .func f :: r,t=>by simp [k8,jD (xs:=r)]
theorem pF {c ch:aM} (h:pA c ch = true):∀ x∈c,x.1∈ch.map (·.1):=by
  intro x hx
  have:=List.all_eq_true.1 h x hx
  unfold Qj at this
  obtain ⟨y,hy,hyx⟩:=List.any_eq_true.1 this
  simp only [Bool.and_eq_true,Nat.beq_eq] at hyx
  rw [hyx.1]
  exact List.mem_map.2 ⟨y,hy,rfl⟩
theorem DH:∀ {vs:List V} {v:V},V.noUnks vs = true→v∈vs→v.noUnk = true
  | x :: r,v,h,hv=>by
    simp only [V.noUnks,Bool.and_eq_true] at h
    rcases List.mem_cons.1 hv with rfl | hv
    · exact h.1
    · exact DH h.2 hv
theorem tL {ch:aM} {t:Nat} {v:V} (h:bJ σ ch (.tmp t) = some v):∃ s,aq σ.tm t = some s∧pA s.ch ch = true∧s.v = v:=by
  unfold bJ at h
  cases hl:Nat.blt t 1000000 with
  | false=>simp [hl] at h
  | true =>
    simp only [hl,cond_true] at h
    split at h
    · next s hg =>
      cases hc:pA s.ch ch with
      | false=>simp [hc] at h
      | true=>simp only [hc,cond_true,Option.some.injEq] at h;exact ⟨s,hg,hc,h⟩
    · cases h
theorem Ef {ch:aM}:∀ {xs:List Operand} {vs:List V},kX σ ch xs = some vs→∀ x∈xs, ∃ v∈vs,bJ σ ch x = some v
  | [],vs,h,x,hx=>by simp at hx
  | y :: xs,vs,h,x,hx=>by
    unfold kX at h
    rw [List.mapM_cons] at h
    simp only [Option.bind_eq_bind,Option.pure_def,Option.bind_eq_some_iff,Option.some.injEq] at h
    obtain ⟨d,hd,ds,hds,rfl⟩:=h
    rcases List.mem_cons.1 hx with rfl | hx
    · exact ⟨d,by simp,hd⟩
    · obtain ⟨v,hv,h⟩:=Ef (xs:=xs) hds x hx
      exact ⟨v,by simp [hv],h⟩
theorem LZ {ch:aM} {c x y:Operand} {v:V} (h:pC σ ch c x y = some v) :
    ∃ b p q:Bool,bJ σ ch c = some (bl b)∧bJ σ (pd c true ch) x = some (bl p)∧bJ σ (pd c false ch) y = some (bl q)∧v = bl (bif b then p else q):=by
  unfold pC at h
  split at h
  · next b hc =>
    split at h
    · next p q hx hy=>cases h;exact ⟨b,p,q,hc,hx,hy,rfl⟩
    · cases h
  · cases h
theorem G9 {c:Operand} {wt:Bool} {ch:aM} {i:Nat} (h:i∈(pd c wt ch).map (·.1)):i∈ch.map (·.1)∨c = .tmp i:=by
  unfold pd at h
  split at h
  · simp only [List.map_cons,List.mem_cons] at h
    rcases h with rfl | h
    · exact .inr rfl
    · exact .inl h
  · exact .inl h
theorem Hf {nid:Nat} {o:Oper} {rc:ct} (h:recOf P C N all σ nid o = some rc) (hn:V.noUnks rc.vs = true) {t:Nat} (ht:t∈rc.rds) :
    ∃ s,aq σ.tm t = some s∧s.v.noUnk = true∧(∀ x∈s.ch,x.1∈rc.rds)∧∀ q∈s.v.refs,q∈V.refss rc.vs:=by
  obtain ⟨hd,hch,hb,hr,hc,e1,e2,e3,e4,e5⟩:=fp h
  have hids:∀ i,i∈rc.ch.map (·.1)→i∈rc.rds:=fun i hi=>by rw [e3];exact List.mem_append_right _ hi
  have hbool:∀ {s:aw} {b:Bool},s.v = bl b→s.v.noUnk = true∧∀ q∈s.v.refs,q∈V.refss rc.vs:=by
    intro s b e;rw [e];exact ⟨rfl,fun q hq=>by simp [V.refs] at hq⟩
  rw [e3,List.mem_append] at ht
  rcases ht with ht | ht
  · have hto:=jD.1 ht
    unfold ld at hr
    split at hr
    · next c x y ho =>
      cases hv:pC σ rc.ch c x y with
      | none =>
        simp only [hv] at hr
        cases hv2:ti σ rc.ch c x y with
        | none=>simp [hv2] at hr
        | some v =>
          simp only [hv2,Option.map_some,Option.some.injEq,Prod.mk.injEq] at hr
          rw [← hr.1] at hn
          cases hn
      | some v =>
        obtain ⟨b,p,q,h1,h2,h3,_⟩:=LZ hv
        have hcr:∀ i,c = .tmp i→i∈rc.rds:=fun i hi=>by rw [e3,ho];exact List.mem_append_left _ (jD.2 (by simp [dK,Op.operands,hi]))
        rw [ho] at hto
        have hto':Operand.tmp t = c∨Operand.tmp t = x∨Operand.tmp t = y:=by simpa [dK,Op.operands] using hto
        rcases hto' with rfl | rfl | rfl
        · obtain ⟨s,g1,g2,g3⟩:=tL h1
          exact ⟨s,g1,(hbool g3).1,fun z hz=>hids _ (pF g2 z hz),(hbool g3).2⟩
        · obtain ⟨s,g1,g2,g3⟩:=tL h2
          exact ⟨s,g1,(hbool g3).1,fun z hz=>(G9 (pF g2 z hz)).elim (hids _) (hcr _),(hbool g3).2⟩
        · obtain ⟨s,g1,g2,g3⟩:=tL h3
          exact ⟨s,g1,(hbool g3).1,fun z hz=>(G9 (pF g2 z hz)).elim (hids _) (hcr _),(hbool g3).2⟩
    · next op hnp =>
      split at hr
      · next vs hvs =>
        cases hov:yJ P C σ.hp nid rc.ch o vs with
        | none=>simp [hov] at hr
        | some r =>
          simp only [hov,Option.map_some,Option.some.injEq,Prod.mk.injEq] at hr
          obtain ⟨rfl,_⟩:=hr
          obtain ⟨v,hv,hov'⟩:=Ef hvs _ hto
          obtain ⟨s,g1,g2,rfl⟩:=tL hov'
          refine ⟨s,g1,DH hn hv,fun z hz=>hids _ (pF g2 z hz),fun q hq=>?_⟩
          obtain ⟨i,hi⟩:=List.getElem?_of_mem hv
          exact cN hi hq
      · cases hr
  · obtain ⟨x,hx,rfl⟩:=List.mem_map.1 ht
    have hg:=List.all_eq_true.1 hb x hx
    unfold fL at hg
    split at hg
    · next s hs =>
      simp only [Bool.and_eq_true] at hg
      have:∃ b,s.v = bl b:=by
        have:=hg.1
        unfold V.isBool at this
        split at this
        · next b e=>exact ⟨b,e⟩
        · cases this
      obtain ⟨b,hbv⟩:=this
      exact ⟨s,hs,(hbool hbv).1,fun z hz=>hids _ (pF hg.2 z hz),(hbool hbv).2⟩
    · cases hg
theorem uf {nid:Nat} {o:Oper} {rc:ct} (h:recOf P C N all σ nid o = some rc) (hA:∀ t∈rc.rds,aq σ'.tm t = aq σ.tm t) (hB:ku σ.hp σ'.hp (V.refss rc.vs)) :
    recOf P C N all σ' nid o = some rc∧holds σ'.tm rc.ch = holds σ.tm rc.ch:=by
  obtain ⟨hd,hch,hb,hr,hc,e1,e2,e3,e4,e5⟩:=fp h
  have hid:∀ x∈rc.ch,aq σ'.tm x.1 = aq σ.tm x.1:=fun x hx=>hA _ (by rw [e3];exact List.mem_append_right _ (List.mem_map.2 ⟨x,hx,rfl⟩))
  have hop:∀ (x:Operand),x∈dK o.op→∀ ch,bJ σ' ch x = bJ σ ch x:=by
    intro x hx ch
    cases x with
    | tmp t=>unfold bJ;simp only [hA t (by rw [e3];exact List.mem_append_left _ (jD.2 hx))]
    | _=>rfl
  have g1:dX all σ'.tm o.guard = some rc.ch:=by
    have hch':=hch
    unfold dX at hch ⊢
    split at hch
    · exact hch
    · next j wt _ =>
      split at hch
      · next oj hj =>
        split at hch
        · next t ht =>
          cases hl:Nat.blt t 1000000 with
          | false=>simp [hl] at hch
          | true =>
            simp only [hl,cond_true] at hch ⊢
            split at hch
            · next ch' b hg =>
              simp only [Option.some.injEq] at hch
              have:=hid (t,wt) (by rw [← hch];simp)
              rw [this,hg]
              simp only [hch]
            · cases hch
        · cases hch
      · cases hch
  have g2:rc.ch.all (fun x=>fL σ'.tm rc.ch x.1) = true:=by
    refine List.all_eq_true.2 fun x hx=>?_
    have:=List.all_eq_true.1 hb x hx
    unfold fL at this ⊢
    rw [hid x hx]
    exact this
  have g3:ld P C σ' nid rc.ch o = some (rc.vs,rc.res):=by
    rw [← hr]
    unfold ld at hr ⊢
    split
    · next c x y ho =>
      rw [ho] at hop
      have:pC σ' rc.ch c x y = pC σ rc.ch c x y:=by
        unfold pC
        rw [hop c (by simp [dK,Op.operands]),hop x (by simp [dK,Op.operands]),hop y (by simp [dK,Op.operands])]
      have this2:ti σ' rc.ch c x y = ti σ rc.ch c x y:=by
        unfold ti
        rw [hop c (by simp [dK,Op.operands]),hop x (by simp [dK,Op.operands]),hop y (by simp [dK,Op.operands])]
      rw [this,this2]
    · next op hnp =>
      have:∀ (xs:List Operand),(∀ x∈xs,x∈dK o.op)→kX σ' rc.ch xs = kX σ rc.ch xs:=by
        intro xs
        induction xs with
        | nil=>intro _;rfl
        | cons x l ih =>
          intro hx
          unfold kX at ih ⊢
          rw [List.mapM_cons,List.mapM_cons,hop x (hx x (by simp)),ih fun z hz=>hx z (by simp [hz])]
      rw [this _ fun x hx=>hx]
      split at hr
      · next c x y ho=>exact (hnp c x y ho).elim
      · split at hr
        · next vs hvs =>
          cases hov:yJ P C σ.hp nid rc.ch o vs with
          | none=>simp [hov] at hr
          | some r =>
            simp only [hov,Option.map_some,Option.some.injEq,Prod.mk.injEq] at hr
            obtain ⟨rfl,_⟩:=hr
            have:yJ P C σ'.hp nid rc.ch o rc.vs = yJ P C σ.hp nid rc.ch o rc.vs:=by unfold yJ;rw [PD hB]
            rw [this,hov]
        · cases hr
  have hreach:aH σ'.hp rc.vs = rc.reach:=by rw [e4];exact (uz hB).symm
  have hrows:o5 σ'.hp rc.vs = rc.rws:=by rw [e5];exact (It hB).symm
  refine ⟨?_,kc _ fun x hx=>by rw [hid x hx]⟩
  unfold recOf
  rw [hd,cond_true,g1]
  simp only
  rw [g2,cond_true,g3]
  simp only
  rw [hc,cond_true,hreach,hrows]
  rw [← e1, ← e2, ← e3]
end
end Go.Ax
