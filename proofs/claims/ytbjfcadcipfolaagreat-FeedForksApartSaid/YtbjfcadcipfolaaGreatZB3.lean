import Derived.Test.YtbjfcadcipfolaaGreatZB2m
import Derived.Maps.RangeRun
import Derived.Test.YtbjfcadcipfolaaGreatZB2m
import Derived.Test.YtbjfcadcipfolaaGreatZB2m
set_option linter.all false
/- Walks over strings, bytes as strings, parts that are cleared. -/
namespace Go.Ax
open Go.RowKit
section
variable {P:Program} {ρ:Operand→Value} {E:ar} {w w':World} {o:Oper} {r:aB} {H:ab} {nid:Nat}
def Nh (ok:Nat→Prop):ar:=⟨fun _=>none,fun _=>0,fun _=>0,fun _=>False,ok⟩
theorem Mc (hH:aw E w H) (hf:¬ E.live nid) (x:Obj) (he:r.eff = [(nid,some (.raw x))]) (hk:r.kill = []) {v':Value}
  (hv:∀ (E':ar) (w':World),E'.live nid→E'.conc nid = some w.heap.size→E'.len nid = 1→af E' w' v' r.val) :
  bU E w H nid r (E.next nid (some w.heap.size) 0 1 E.ok) (w.alloc x) v':=by
 have hb:Below w.heap.size w (w.alloc x):=(Below.refl _ _).alloc (Nat.le_refl _) _
 have hcc:∀ b,some w.heap.size = some b→w.heap.size≤b∧b < (w.alloc x).heap.size∧¬ E.ok b:=by
  intro b e;cases e
  exact ⟨Nat.le_refl _,by simp,fun h=>by have:=hH.oklt _ h;omega⟩
 have hS:cQ E w [] (E.next nid (some w.heap.size) 0 1 E.ok) (w.alloc x):=ck hf _ 0 1 E.ok hb (fun b h=>(hcc b h).1) (fun _ h=>h) (fun _ h=>.inl h)
 have hN:=cB (cap:=0) (len:=1) hf hH hb hcc (fun _ h=>h) (fun _ h=>.inl h) (fun b h=>by have:=hH.oklt b h;simp;omega)
 have e1:(E.next nid (some w.heap.size) 0 1 E.ok).conc nid = some w.heap.size:=by simp [ar.next]
 have e3:(E.next nid (some w.heap.size) 0 1 E.ok).len nid = 1:=by simp [ar.next]
 refine ⟨by rw [hk];exact hS, ?_,hv _ _ (.inl rfl) e1 e3,bA⟩
 rw [he,hk]
 exact ic hN (.inl rfl) ⟨e3,_,e1,heap_alloc_new w _⟩
theorem Ik (hH:aw E w H) (hf:¬ E.live nid) {t:TypeId} {x:Operand} (ho:o.op = .range t x) {vx:V} (hx:af E w (ρ x) vx) (h:Ef P nid t vx = some r) :
  ∃ E' w' v',(execOp ρ o).run P w = .ok (.value v') w'∧bU E w H nid r E' w' v':=by
 unfold Ef at h
 split at h
 ·next s hu =>
  cases h
  have ex:=hx.lit_inv
  refine ⟨_,w.alloc (.stringIter s 0), .pointer (some ⟨w.heap.size,0,none⟩), ?_,Mc hH hf (.stringIter s 0) rfl rfl fun E' w' h1 h2 h3=>?_⟩
  ·have:=run_range_string (P:=P) w t s hu
   simp only [execOp,ho,ex,Sem.run_bind,this,Result.andThen_ok]
   rfl
  ·have:=af.ptr (E:=E') (w:=w') nid 1 0 0 w.heap.size h1 h2 (by omega)
   simpa using this
 ·cases h
theorem Gf (hH:aw E w H) (hf:¬ E.live nid) {t:TypeId} {x:Operand} (ho:o.op = .range t x) {vx:V} (hx:af E w (ρ x) vx) (h:sw P H nid t vx = some r) :
  ∃ E' w' v',(execOp ρ o).run P w = .ok (.value v') w'∧bU E w H nid r E' w' v':=by
 unfold sw at h
 split at h
 ·next k e hu =>
  split at h
  ·next q tm kt vt ks vs hm =>
   cases h
   obtain ⟨bm,ex,hl,hc,hg⟩:=fX hH hx hm
   obtain ⟨_,_,_,b',es,clock,h3,h4,_,h6,_,h8,_⟩:=hH.at_ _ _ hg
   rw [hc] at h3;cases h3
   have hb:Below w.heap.size w (w.alloc (.mapIter (some bm) clock #[] clock)):=(Below.refl _ _).alloc (Nat.le_refl _) _
   have hcc:∀ b,some w.heap.size = some b→w.heap.size≤b∧b < (w.alloc (.mapIter (some bm) clock #[] clock)).heap.size∧¬ E.ok b:=by
    intro b e;cases e
    exact ⟨Nat.le_refl _,by simp,fun h=>by have:=hH.oklt _ h;omega⟩
   have hS:cQ E w [] (E.next nid (some w.heap.size) 0 1 E.ok) (w.alloc (.mapIter (some bm) clock #[] clock)):=ck hf _ 0 1 E.ok hb (fun b h=>(hcc b h).1) (fun _ h=>h) (fun _ h=>.inl h)
   have hN:=cB (cap:=0) (len:=1) hf hH hb hcc (fun _ h=>h) (fun _ h=>.inl h) (fun b h=>by have:=hH.oklt b h;simp;omega)
   have e1:(E.next nid (some w.heap.size) 0 1 E.ok).conc nid = some w.heap.size:=by simp [ar.next]
   have e3:(E.next nid (some w.heap.size) 0 1 E.ok).len nid = 1:=by simp [ar.next]
   refine ⟨_,w.alloc (.mapIter (some bm) clock #[] clock), .pointer (some ⟨w.heap.size,0,none⟩), ?_,hS, ?_, ?_,bA⟩
   ·have:=run_range_map (P:=P) w t k e bm es clock hu h4
    simp only [execOp,ho,ex,Sem.run_bind,this,Result.andThen_ok]
    rfl
   ·refine ic hN (.inl rfl) ⟨e3,_,bm,clock, #[],clock,e1,heap_alloc_new w _,⟨rfl,by rw [h8,h6],rfl⟩, ?_⟩
    rw [← ex]
    exact fk hH hS hx
   ·have:=af.ptr (E:=E.next nid (some w.heap.size) 0 1 E.ok) (w:=w.alloc (.mapIter (some bm) clock #[] clock)) nid 1 0 0 w.heap.size (.inl rfl) e1 (by omega)
    simpa using this
  ·cases h
 ·cases h
theorem B3:∀ (ts:List Ty) (x:HP ts),ts.all M5 = true→∀ d∈eX ts x,d = .lit (s9 d)
 | [],_,_,d,hd=>by simp [eX] at hd
 | [t],x,h,d,hd=>by
  simp only [eX,List.mem_singleton] at hd
  subst hd
  match t,h with
  | .i k,_=>rfl
  | .b,_=>rfl
  | .s,_=>rfl
 | t :: u :: r,x,h,d,hd=>by
  rw [List.all_cons,Bool.and_eq_true] at h
  rw [eX,List.mem_cons] at hd
  rcases hd with rfl | hd
  ·match t,h.1 with
   | .i k,_=>rfl
   | .b,_=>rfl
   | .s,_=>rfl
  ·exact B3 (u :: r) x.2 h.2 d hd
theorem Eb {kt:Ty} (h:kt.key = true) (x:kt.T):af E w (d6 kt x) (encV kt x):=by
 match kt,h,x with
 | .i k,_,x=>exact .c _ _ (.lit _)
 | .b,_,x=>exact .c _ _ (.lit _)
 | .s,_,x=>exact .c _ _ (.lit _)
 | .st k,h,x =>
  refine .agg ((Ty.enc (.st k) x).map s9) ((Ty.enc (.st k) x).map .c) (by simp) fun i v d hv hd=>?_
  rw [List.getElem?_map] at hv hd
  cases hx:(Ty.enc (.st k) x)[i]? with
  | none=>rw [hx] at hv;cases hv
  | some y =>
   rw [hx] at hv hd
   cases hv;cases hd
   refine .c _ _ ?_
   have e:=B3 (lf k) (Cp k x) h y (List.mem_of_getElem? hx)
   rw [e]
   exact .lit _
theorem Fj (hH:aw E w H) {x:Operand} (ho:o.op = .entry x) {vx:V} (hx:af E w (ρ x) vx) (h:se H vx = some r) (hp:∀ p∈r.pre,p):gX P ρ o E w r:=by
 unfold se at h
 split at h
 ·next q k i j =>
  split at h
  ·next m s l hg =>
   cases hb0:Nat.beq (i*k+j) 0 with
   | false=>rw [hb0] at h;cases h
   | true =>
    rw [hb0,cond_true] at h
    have h0:=Nat.eq_of_beq_eq_true hb0
    split at h
    ·next q2 tm kt vt ks vs p l' hm =>
     cases hkt:kt.key with
     | false=>rw [hkt] at h;cases h
     | true =>
     rw [hkt,cond_true] at h
     cases h
     have hks:ak ks.length s = true:=hp _ (by simp)
     have hks:(ks.length:Int) = s:=by simpa [ak] using hks
     have hp0:0≤p:=hp _ (by simp)
     have hp1:p.toNat < ks.length:=hp _ (by simp)
     obtain ⟨_,hlen,b,bm,sn,seen,c,h1,h2,⟨h3,h5,h6⟩,h4⟩:=hH.at_ _ _ hg
     obtain ⟨bm',e1,hl,hc,hg2⟩:=fX hH h4 hm
     cases e1
     obtain ⟨_,_,k2,b',es,clock,g3,g4,g5,g6,g7,g8,g9⟩:=hH.at_ _ _ hg2
     rw [hc] at g3;cases g3
     have ex:ρ x = .pointer (some ⟨b,0,none⟩):=by
      generalize ρ x = v at hx
      cases hx with
      | ptr _ _ _ _ b' g1 g2 g3=>rw [h1] at g2;cases g2;rw [h0]
     have hlt:p.toNat < es.size:=by rw [g6];exact hp1
     have he:es[p.toNat]? = some es[p.toNat]:=Array.getElem?_eq_getElem hlt
     obtain ⟨a1,a2⟩:=g7 _ _ he
     have a3:=g9 _ _ he
     have hseen:∃ sd:Array Nat,seen = sd.push es[p.toNat].born:=by
      have e2:seen.toList.reverse.map (fun q:Nat=>(q:Int)) = p :: l':=h6
      cases hr:seen.toList.reverse with
      | nil=>rw [hr] at e2;cases e2
      | cons y ys =>
       rw [hr,List.map_cons] at e2
       have e3:(y:Int) = p:=(List.cons.inj e2).1
       refine ⟨ys.reverse.toArray, ?_⟩
       have e4:seen.toList = ys.reverse++[y]:=by rw [← List.reverse_reverse seen.toList,hr,List.reverse_cons]
       apply Array.ext'
       rw [e4,Array.toList_push,a3]
       congr 2
       omega
     obtain ⟨sd,rfl⟩:=hseen
     have hcl:c = clock:=by omega
     subst hcl
     have hr:=run_entry_at (P:=P) w b bm sn sd es c es[p.toNat] h2 g4 (by simp) g5.2.1
     refine ⟨rfl,rfl, .tuple #[es[p.toNat].key,es[p.toNat].val], ?_, .tup [es[p.toNat].key,es[p.toNat].val] _ rfl fun i v d hv hd=>?_⟩
     ·simp only [execOp,ho,ex,Sem.run_bind,hr,Result.andThen_ok]
      rfl
     ·match i,hv,hd with
      | 0,hv,hd=>cases hv;cases hd;rw [a1];exact Eb hkt _
      | 1,hv,hd=>cases hv;cases hd;exact a2.rep
    ·cases h
  ·cases h
 ·cases h
theorem I7 (hH:aw E w H) (hf:¬ E.live nid) {x:Operand} (ho:o.op = .next x true) {vx:V} (hx:af E w (ρ x) vx) (h:wD H vx = some r) :
  ∃ E' w' v',(execOp ρ o).run P w = .ok (.value v') w'∧bU E w H nid r E' w' v':=by
 unfold wD at h
 split at h
 ·next q k i j =>
  split at h
  ·next s pos hg =>
   cases hb0:Nat.beq (i*k+j) 0 with
   | false=>simp [hb0] at h
   | true =>
    simp only [hb0,cond_true,Option.some.injEq] at h
    have h0:=Nat.eq_of_beq_eq_true hb0
    obtain ⟨hl,hlen,b,hb,hh⟩:=hH.at_ _ _ hg
    have ex:ρ x = .pointer (some ⟨b,0,none⟩):=by
     generalize ρ x = v at hx
     cases hx with
     | ptr _ _ _ _ b' g1 g2 g3=>rw [hb] at g2;cases g2;rw [h0]
    subst h
    have hlt:=dP hh
    refine ⟨_,dv w b (.stringIter s (bif Nat.blt pos s.size then pos+wF s pos else pos)),Aj (Nat.blt pos s.size) [.int .i64 pos, .int .i32 (gV s pos)], ?_,
     qg hH hf hl hb _ (ob:=.raw (.stringIter s (bif Nat.blt pos s.size then pos+wF s pos else pos))) rfl rfl (fun E' h1 h2 h3 _ _=>⟨h3.trans hlen,b,h1,nE _ hlt⟩) fun _=>.c _ _ (.opt _ _)⟩
    by_cases hp:pos < s.size
    ·have hp':Nat.blt pos s.size = true:=by simpa using hp
     have:(Instr.next (.pointer (some ⟨b,0,none⟩)) true o.type).run P w = .ok (.tuple #[.bool true, .int .i64 pos, .int .i32 (gV s pos)]) (dv w b (.stringIter s (pos+wF s pos))):=by
      simp [Instr.next,getObj,setObj,Sem.run,hh,hp,goInt,gV,wF,dv]
     rw [hp']
     simp only [execOp,ho,ex,Sem.run_bind,this,Result.andThen_ok]
     rfl
    ·have hp':Nat.blt pos s.size = false:=by
      cases hc:Nat.blt pos s.size with
      | false=>rfl
      | true=>rw [Nat.blt_eq] at hc;exact (hp hc).elim
     have hw:dv w b (.stringIter s pos) = w:=by
      unfold dv
      congr 1
      apply Array.ext_getElem?
      intro i
      by_cases e:b = i
      ·subst e;rw [Array.getElem?_setIfInBounds,if_pos rfl,if_pos hlt,hh]
      ·rw [Array.getElem?_setIfInBounds,if_neg e]
     have:(Instr.next (.pointer (some ⟨b,0,none⟩)) true o.type).run P w = .ok (.tuple #[.bool false]) w:=by
      simp [Instr.next,getObj,Sem.run,hh,hp]
     rw [hp']
     simp only [execOp,ho,ex,Sem.run_bind,this,Result.andThen_ok,cond_false,hw]
     rfl
  ·cases h
 ·cases h
theorem xu:∀ (ns:List Int) (s:ByteArray),ns.foldl (fun r n=>r.push (UInt8.ofNat n.toNat)) s = ⟨s.data++(ns.map fun x=>UInt8.ofNat x.toNat).toArray⟩
 | [],s=>by simp
 | n :: ns,s=>by
  rw [List.foldl_cons,xu ns]
  congr 1
  simp [ByteArray.push]
theorem Gw (hH:aw E w H) {s d e:TypeId} (hs:P.underlying s = some (.slice e)) (hd:P.underlying d = some .string) (he:P.underlying e = some (.int .u8)) {x:Operand} (ho:o.op = .convert s d x) {vx:V} (hx:af E w (ρ x) vx)
  (h:zq H vx = some r):gX P ρ o E w r:=by
 unfold zq at h
 cases ha:bN H (.i .u8) vx with
 | none=>rw [ha] at h;cases h
 | some l =>
  rw [ha] at h
  simp only [Option.map_some,Option.some.injEq] at h
  subst h
  obtain ⟨news,hsrc⟩:=l6 hH hx ha
  obtain ⟨a,c,ev,hc,hm,hcell⟩:=hsrc.form
  refine ⟨rfl,rfl, .string (bg l), ?_, .lit _⟩
  have hlen:news.length = l.length:=by have:=hsrc.len;simpa [Ty.k] using this
  have hnews:news = l.map (Value.int .u8):=by
   refine List.ext_getElem? fun i=>?_
   by_cases hi:i < l.length
   ·have h1:i < news.length:=by omega
    have e1:els (.i .u8) l i = [.lit (.int .u8 l[i])]:=by
     rw [d7,List.getD_eq_getElem?_getD,List.getElem?_eq_getElem hi];rfl
    have hr:=hsrc.rep i 0 (.lit (.int .u8 l[i])) (news[i]) hi (by rw [e1];rfl) (by show news[i*1+0]? = _;rw [Nat.mul_one,Nat.add_zero];exact List.getElem?_eq_getElem h1)
    rw [List.getElem?_eq_getElem h1,List.getElem?_map,List.getElem?_eq_getElem hi]
    simp only [Option.map_some,Option.some.injEq]
    generalize news[i] = z at hr
    cases hr with
    | lit=>rfl
   ·rw [List.getElem?_eq_none (by omega),List.getElem?_eq_none (by simp;omega)]
  have key:(Conv.bytesToString (ρ x)).run P w = .ok (.string (bg l)) w:=by
   rw [ev]
   cases l with
   | nil =>
    cases a with
    | none=>rfl
    | some ad =>
     have:=run_bytesToString (P:=P) w ad 0 c [] (by have:=run_loadCells (P:=P) w ad 0 (fun _=>undef) (fun j hj=>by omega);simpa using this)
     rw [List.length_nil,this];rfl
   | cons y l =>
    obtain ⟨ad,rfl,hcl⟩:=hcell (by simp)
    have hload:(loadCells ad (y :: l).length).run P w = .ok ((y :: l).map (Value.int .u8)).toArray w:=by
     have:=run_loadCells_list (P:=P) w ad news (fun j v hv=>hcl j v hv)
     rw [hlen] at this
     rw [this,hnews]
    rw [run_bytesToString w ad (y :: l).length c _ hload,xu]
    simp [bg]
  rw [ev] at key
  simp [execOp,ho,ev,convert,run_underlying hs,run_underlying hd,run_underlying he,key]
theorem Gy {e:TypeId} {z:List D} (h:nu P e = some z):∃ (i:TypeInfo) (v:Value),P.info? e = some i∧i.zero = some v∧v.cells.size = z.length∧(∀ u∈v.cells.toList,u.oneCell' = true) ∧
  ∀ (ok:Nat→Prop) (w:World) (j:Nat) (d:D) (u:Value),z[j]? = some d→v.cells[j]? = some u→aG ok w u d:=by
 have h0:=h
 unfold nu at h0
 split at h0
 ·next zv hzv =>
  obtain ⟨i,v,h1,h2,h3,h4⟩:=jx hzv
  obtain ⟨i',v',g1,g2,g3,g4,g5⟩:=Ca h
  rw [h1] at g1;cases g1
  rw [h2] at g2;cases g2
  refine ⟨i,v,h1,h2,g3,EM v h3 h4 (qI h0),fun ok w j d u hd hu=>?_⟩
  have:=(cm (E:=Nh ok) (w:=w) v h4).2 j u (.c d) (by rw [Array.getElem?_toList];exact hu) (g4 j d hd)
  cases this with
  | c _ _ h=>exact h
 ·cases h0
theorem Jp {t:Ty} {l:List t.T} {y:t.T} {off n i:Nat} (h:off+n≤l.length) (hi:i < l.length):els t (vH y l off n) i = if off≤i∧i < off+n then t.enc y else els t l i:=by
 unfold vH
 rw [AO,List.length_take,Nat.min_eq_left (by omega)]
 by_cases h1:i < off
 ·rw [if_pos h1,if_neg (by omega),d7,d7,List.getD_eq_getElem?_getD,List.getElem?_take_of_lt h1,List.getD_eq_getElem?_getD]
 ·rw [if_neg h1,AO,List.length_replicate]
  by_cases h2:i < off+n
  ·rw [if_pos (by omega),if_pos ⟨by omega,h2⟩,Bg (by omega)]
  ·have a1:¬ (i - off < n):=by omega
   have a2:¬ (off≤i∧i < off+n):=by omega
   rw [if_neg a1,if_neg a2,d7,d7,List.getD_eq_getElem?_getD,List.getElem?_drop,List.getD_eq_getElem?_getD]
   congr 3;omega
theorem IC {T:Type} {l:List T} {y:T} {off n:Nat} (h:off+n≤l.length):(vH y l off n).length = l.length:=by simp [vH];omega
theorem HA (hH:aw E w H) (hf:¬ E.live nid) {c:Call} (ho:o.op = .call c) (hcal:c.callee = .builtin .clear) {x:Operand} (hargs:c.args = #[x]) {t:TypeId} (hat:c.argTypes[0]? = some t) {vx:V} (hx:af E w (ρ x) vx)
  (h:nZ P H t vx = some r) (hp:∀ p∈r.pre,p):∃ E' w' v',(execOp ρ o).run P w = .ok (.value v') w'∧bU E w H nid r E' w' v':=by
 have run:∀ w',(Builtin.clear_ c.argTypes o.type #[ρ x]).run P w = .ok (.tuple #[]) w'→(execOp ρ o).run P w = .ok (.value (.tuple #[])) w':=by
  intro w' hn
  simp [execOp,ho,resolve,hcal,hargs,invoke,builtin,hn]
 have main:∀ (e:TypeId) (z:List D) (q e':Nat) (ty:Ty) (l l':List ty.T) (y:ty.T) (off n:Nat) (a:Option Addr) (cp:Nat),P.underlying t = some (.slice e)→nu P e = some z→ab.get H q = some (.row e' ty l)→je ty z = some y →
   (e' = e∧ty.k = sz P e∧z.length = ty.k∧0 < ty.k)→ρ x = .slice a n cp→n≤cp→E.live q→off+n≤l.length→(0 < n→∃ b,E.conc q = some b∧a = some ⟨b,off*ty.k,none⟩)→l'.length = l.length →
   (∀ i,i < l.length→els ty l' i = if off≤i∧i < off+n then ty.enc y else els ty l i)→r.val = .c .unk→r.eff = [(q,some (.row e' ty l'))]→r.kill = [] →
   ∃ E' w' v',(execOp ρ o).run P w = .ok (.value v') w'∧bU E w H nid r E' w' v':=by
  intro e z q e' ty l l' y off n a cp hu hz hg hy hcs hv hc hn hlen ha hll hel hrv hre hrk
  obtain ⟨rfl,hk1,hk2,hk0⟩:=hcs
  obtain ⟨hl,hob⟩:=hH.at_ _ _ hg
  obtain ⟨i,zv,z1,z2,z3,z4,z5⟩:=Gy hz
  have hyl:=kA ty _ _ hy
  rw [hv] at run
  by_cases hn0:n = 0
  ·subst hn0
   have hS:cQ E w [] (E.next nid none 0 0 E.ok) w:=ck hf none 0 0 E.ok (.refl _ _) (by simp) (fun _ h=>h) (fun _ h=>.inl h)
   have hN:aw (E.next nid none 0 0 E.ok) w H:=cB hf hH (.refl _ _) (by simp) (fun _ h=>h) (fun _ h=>.inl h) hH.oklt
   refine ⟨_,w, .tuple #[],run w ?_,by rw [hrk];exact hS, ?_,by rw [hrv];exact .c _ _ (.unk _),bA⟩
   ·cases a <;> simp [Builtin.clear_,hat,run_underlying hu]
   ·rw [hre,hrk]
    refine ic hN (hN.at_ _ _ hg).1 ?_
    exact zD.congr (hN.at_ _ _ hg).2 rfl hll.symm fun i hi=>by
     rw [hel i hi,if_neg (by omega)];exact .refl _
  ·obtain ⟨b,hb,rfl⟩:=ha (by omega)
   obtain ⟨hlen2,hrow⟩:=hob
   obtain ⟨b',C,c1,c2,c3,c4,c5,c6,c7,c8⟩:=hrow.resolve_left (fun h=>by rw [hb] at h;cases h.1)
   rw [hb] at c1;cases c1
   have hfit:off*ty.k+n*ty.k≤C.size:=by
    rw [c3, ← Nat.add_mul]
    exact Nat.mul_le_mul_right _ (by omega)
   have hzl:(Builtin.zeroCells zv.cells n).toList.length = n*ty.k:=by simp [Builtin.zeroCells,z3,hk2]
   have hzu:∀ q u,(Builtin.zeroCells zv.cells n).toList[q]? = some u→q < n*ty.k∧zv.cells[q % ty.k]? = some u:=by
    intro q u hq
    have hlt:=(List.getElem?_eq_some_iff.1 hq).1
    rw [hzl] at hlt
    refine ⟨hlt, ?_⟩
    have hm:q % ty.k < zv.cells.size:=by rw [z3,hk2];exact Nat.mod_lt _ hk0
    rw [Array.getElem?_toList] at hq
    unfold Builtin.zeroCells at hq
    rw [Array.getElem?_map,z3,hk2,Array.getElem?_range,if_pos hlt] at hq
    simp only [Option.map_some,Option.some.injEq] at hq
    rw [getElem!_pos zv.cells _ hm] at hq
    rw [Array.getElem?_eq_getElem hm,hq]
   have hone:∀ u∈(Builtin.zeroCells zv.cells n).toList,u.oneCell' = true:=by
    intro u hu'
    obtain ⟨q,hq⟩:=List.getElem?_of_mem hu'
    obtain ⟨_,h2⟩:=hzu q u hq
    exact z4 u (List.mem_of_getElem? (by rw [Array.getElem?_toList];exact h2))
   have hst:=run_storeCells_at P b (off*ty.k) e' (Builtin.zeroCells zv.cells n).toList 0 C w c2 (by rw [hzl];exact hfit) hone
   rw [Nat.add_zero] at hst
   rw [hzl] at hst
   generalize hC':(C.toList.take (off*ty.k)++(Builtin.zeroCells zv.cells n).toList++C.toList.drop (off*ty.k+n*ty.k)).toArray = C' at hst
   have hrow':w.setRow b C' = dv w b (.cells C' e' (0,0)):=by
    have hlt:=dP c2
    have h1:=setRow_heap w b C C' e' (0,0) c2
    unfold World.setRow dv
    unfold World.setRow at h1
    congr 1
    apply Array.ext_getElem?
    intro j
    by_cases e:b = j
    ·subst e
     rw [Array.getElem?_setIfInBounds,if_pos rfl,if_pos hlt]
     exact h1
    ·rw [Array.getElem?_setIfInBounds,if_neg e,Array.getElem?_modify,if_neg e]
   have hget:∀ q,C'[q]? = if off*ty.k≤q∧q < off*ty.k+n*ty.k then (Builtin.zeroCells zv.cells n).toList[q - off*ty.k]? else C[q]?:=by
    intro q
    rw [← hC',List.getElem?_toArray]
    have ht:(C.toList.take (off*ty.k)).length = off*ty.k:=by rw [List.length_take,Array.length_toList];omega
    by_cases h1:q < off*ty.k
    ·rw [if_neg (by omega),List.append_assoc,List.getElem?_append_left (by omega),List.getElem?_take_of_lt h1,Array.getElem?_toList]
    ·by_cases h2:q < off*ty.k+n*ty.k
     ·rw [if_pos ⟨by omega,h2⟩,List.append_assoc,List.getElem?_append_right (by omega),ht,List.getElem?_append_left (by omega)]
     ·rw [if_neg (by omega),List.getElem?_append_right (by rw [List.length_append];omega),List.length_append,ht,hzl,List.getElem?_drop,Array.getElem?_toList]
      congr 1;omega
   have hsz:C'.size = C.size:=by
    rw [← hC']
    simp [hzl]
    omega
   refine ⟨_,dv w b (.cells C' e' (0,0)), .tuple #[],run _ ?_,qg hH hf hl hb _ (ob:=.row e' ty l') hre hrk (fun E' h1 h2 h3 hr hd=>⟨(h3.trans hlen2).trans hll.symm, .inr ⟨b,C',h1,nE _ (dP c2),by rw [hsz,h2];exact c3,by rw [h2,hll];exact c4,by rw [h2];exact c5,fun i hi=>dB ty l' i, ?_, ?_⟩⟩) fun _=>by rw [hrv];exact .c _ _ (.unk _)⟩
   ·obtain ⟨n',rfl⟩:∃ n',n = n'+1:=⟨n - 1,by omega⟩
    have hzv:=ff (P:=P) (w:=w) z1 z2
    simp [Builtin.clear_,hat,run_underlying hu,hzv,hst,hrow']
   ·intro q' j u hq hj hu'
    rw [hll] at hq
    rw [hget] at hu'
    split at hu'
    ·exact hone u (List.mem_of_getElem? hu')
    ·exact c7 q' j u hq hj hu'
   ·intro q' j d u hq hd' hu'
    rw [hll] at hq
    rw [hget] at hu'
    rw [hel q' hq] at hd'
    by_cases hc:off≤q'∧q' < off+n
    ·rw [if_pos hc] at hd'
     have hj:j < ty.k:=by rw [← kc ty y];exact (List.getElem?_eq_some_iff.1 hd').1
     have a1:off*ty.k≤q'*ty.k:=Nat.mul_le_mul_right _ hc.1
     have a2:(q'+1)*ty.k≤(off+n)*ty.k:=Nat.mul_le_mul_right _ hc.2
     rw [Nat.add_mul,Nat.one_mul,Nat.add_mul] at a2
     rw [if_pos ⟨by omega,by omega⟩] at hu'
     obtain ⟨_,h2⟩:=hzu _ _ hu'
     have:(q'*ty.k+j - off*ty.k) % ty.k = j:=by
      obtain ⟨p,rfl⟩:∃ p,q' = off+p:=⟨q' - off,by omega⟩
      rw [Nat.add_mul,show off*ty.k+p*ty.k+j - off*ty.k = j+p*ty.k by omega,Nat.add_mul_mod_self_right,Nat.mod_eq_of_lt hj]
     rw [this] at h2
     obtain ⟨d0,hd0,hdd⟩:=hyl.at hd'
     exact (z5 _ _ j d0 u hd0 h2).le hdd
    ·rw [if_neg hc] at hd'
     have hj:j < ty.k:=by rw [← c6 q' hq];exact (List.getElem?_eq_some_iff.1 hd').1
     have hno:¬ (off*ty.k≤q'*ty.k+j∧q'*ty.k+j < off*ty.k+n*ty.k):=by
      rintro ⟨g1,g2⟩
      by_cases h1:off≤q'
      ·have h2:off+n≤q':=by omega
       have:=Nat.mul_le_mul_right ty.k h2
       rw [Nat.add_mul] at this
       omega
      ·have:(q'+1)*ty.k≤off*ty.k:=Nat.mul_le_mul_right _ (by omega)
       rw [Nat.add_mul,Nat.one_mul] at this
       omega
     rw [if_neg hno] at hu'
     exact hd _ _ (c8 q' j d u hq hd' hu')
 unfold nZ at h
 split at h
 ·next e hu =>
  split at h
  ·next z hz =>
   split at h
   ·next q k =>
    split at h
    ·next e' ty l hg =>
     split at h
     ·next y hy =>
      cases hs:(Nat.beq e' e&&Nat.beq ty.k k&&Nat.beq k (sz P e)&&Nat.beq z.length k&&Nat.blt 0 k&&eU P e) with
      | false=>simp [hs] at h
      | true =>
       simp only [hs,cond_true,Option.some.injEq] at h
       simp only [Bool.and_eq_true,Nat.beq_eq,Nat.blt_eq] at hs
       obtain ⟨⟨⟨⟨⟨rfl,rfl⟩,hk1⟩,hk2⟩,hk0⟩,hkn⟩:=hs
       subst h
       have hlen:E.len q = l.length:=(hH.at_ _ _ hg).2.1
       generalize hv:ρ x = v at hx
       cases hx with
       | row _ _ a n cp hn hl hc hm h0 =>
        have hnl:n = l.length:=hl.trans hlen
        subst hnl
        exact main e' z q e' ty l _ y 0 l.length a cp hu hz hg hy ⟨rfl,hk1,hk2,hk0⟩ hv hc hn (by omega) (fun h=>by
         rcases h0 with ⟨_,h0,_⟩ | ⟨b,hb,ha,_⟩
         ·omega
         ·exact ⟨b,hb,by rw [ha,Nat.zero_mul]⟩) (by simp) (fun i hi=>by rw [Bg hi,if_pos (by omega)]) rfl rfl rfl
     ·cases h
    ·cases h
   ·next q k off n =>
    split at h
    ·next e' ty l hg =>
     split at h
     ·next y hy =>
      cases hs:(Nat.beq e' e&&Nat.beq ty.k k&&Nat.beq k (sz P e)&&Nat.beq z.length k&&Nat.blt 0 k&&eU P e) with
      | false=>simp [hs] at h
      | true =>
       simp only [hs,cond_true,Option.some.injEq] at h
       simp only [Bool.and_eq_true,Nat.beq_eq,Nat.blt_eq] at hs
       obtain ⟨⟨⟨⟨⟨rfl,rfl⟩,hk1⟩,hk2⟩,hk0⟩,hkn⟩:=hs
       subst h
       have hp1:off+n≤l.length:=hp _ (by simp)
       generalize hv:ρ x = v at hx
       cases hx with
       | sub _ _ _ _ a cp hn hc hm hl ha =>
        exact main e' z q e' ty l _ y off n a cp hu hz hg hy ⟨rfl,hk1,hk2,hk0⟩ hv hc hn hp1 ha (IC hp1) (fun i hi=>Jp hp1 hi) rfl rfl rfl
     ·cases h
    ·cases h
   ·cases h
  ·cases h
 ·cases h
end
end Go.Ax
namespace Go.Ax
open Go.RowKit
def dw (ok:Nat→Prop):ar:=⟨fun _=>none,fun _=>0,fun _=>0,fun _=>False,ok⟩
def tV (ok:Nat→Prop) (w w':World) (v:Value):gW→Prop
 | .data d=>af (dw fun b=>ok b∨(w.heap.size≤b∧b < w'.heap.size)) w' v d
 | .new d=>af (dw fun b=>(w.heap.size≤b∧b < w'.heap.size)∧∃ C t,w'.heap[b]? = some (.cells C t (0,0))) w' v d
 | .own fr e t l=>∃ xs,w'.ownsRow w.heap.size e t.k v l.length xs∧(∀ i j u,i < l.length→j < t.k→xs[i*t.k+j]? = some u→u.oneCell' = true) ∧
   ∀ i j d u,i < l.length→(els t l i)[j]? = some d→xs[i*t.k+j]? = some u→aG (fun b=>(fr = false∧ok b)∨(w.heap.size≤b∧b < w'.heap.size∧v.ownBlock≠some b)) w' u d
def ik (P:Program) (f:FuncId) (args:Array Value) (w:World) (R:Value→World→Prop):Prop :=
 ((callFunc f args).run P w = .ok (.enter f args) w∧Calls P f args w fun e w'=>∃ v,e = .returned v∧R v w')∨∃ v w',(callFunc f args).run P w = .ok (.value v) w'∧R v w'
theorem ik.mono {P:Program} {f:FuncId} {args:Array Value} {w:World} {R R':Value→World→Prop} (h:ik P f args w R) (hr:∀ v w',R v w'→R' v w'):ik P f args w R':=by
 rcases h with ⟨h1,h2⟩ | ⟨v,w',h1,h2⟩
 ·refine .inl ⟨h1,h2.mono ?_⟩
  rintro e w' ⟨v,rfl,h⟩
  exact ⟨v,rfl,hr v w' h⟩
 ·exact .inr ⟨v,w',h1,hr v w' h2⟩
def Ic (P:Program) (f:FuncId) (con:G1):Prop :=
 ∀ (ok:Nat→Prop) (w:World) (xs:List Value) (vs:List V) (p:Bool) (out:gW),aI (dw ok) w xs vs→(∀ b,ok b→b < w.heap.size)→con vs = some (p,out)→p = true →
  ik P f xs.toArray w fun v w'=>Below w.heap.size w w'∧tV ok w w' v out
def bq (P:Program) (f:FuncId):CC→Prop
 | .pure c=>Ic P f c
 | .mut m=>∀ (E:ar) (w:World) (H:ab) (nid:Nat) (xs:List Value) (args:List V) (r:aB),aw E w H→eA E nid→aI E w xs args→m (bu (aO H args) H) nid args = some r→(∀ p∈r.pre,p) →
  ik P f xs.toArray w fun v w'=>∃ E',bU E w H nid r E' w' v
section
variable {P:Program} {ρ:Operand→Value} {E:ar} {w w':World} {o:Oper} {r:aB} {H:ab} {nid:Nat}
theorem fy (H:ab):∀ vs:List V,(V.views H vs).length = vs.length
 | []=>rfl
 | _ :: r=>by simp [V.views,fy H r]
theorem jy (H:ab):∀ (vs:List V) (i:Nat),(V.views H vs)[i]? = (vs[i]?).map (V.view H)
 | [],i=>by simp [V.views]
 | v :: r,0=>by simp [V.views]
 | v :: r,i+1=>by simp [V.views,jy H r i]
theorem pn {ok':Nat→Prop} (hok:∀ b,E.ok b→ok' b) (hown:∀ q b,E.live q→E.conc q = some b→ok' b) {v:Value} {t:Ty} {l:List t.T} {news:List Value} (h:EA E w v t.k l.length (els t l) news):aG ok' w v (.sl t l):=by
 obtain ⟨a,c,rfl,hc,hm,hcell⟩:=h.form
 have hlt:∀ i j,i < l.length→j < t.k→i*t.k+j < news.length:=by
  intro i j hi hj
  rw [h.len]
  have:(i+1)*t.k≤l.length*t.k:=Nat.mul_le_mul_right _ hi
  rw [Nat.add_mul,Nat.one_mul] at this
  omega
 refine .sl t l a l.length c t.k (els t l) (fun i j=>news.getD (i*t.k+j) undef) rfl rfl (fun _ _=>rfl) hc hm (fun hn=>?_) (fun i j hi hj=>?_) h.els (fun i j d hi hd=>?_)
 ·obtain ⟨ad,rfl,hq⟩:=hcell hn
  refine ⟨ad,rfl, ?_,fun i j hi hj=>hq _ _ ?_⟩
  ·rcases h.blk ad _ c rfl hn with h | ⟨q,h1,h2⟩
   ·exact hok _ h
   ·exact hown q _ h1 h2
  ·rw [List.getD_eq_getElem?_getD,List.getElem?_eq_getElem (hlt i j hi hj)];rfl
 ·refine h.one _ ?_
  show news.getD (i*t.k+j) undef∈news
  rw [List.getD_eq_getElem?_getD,List.getElem?_eq_getElem (hlt i j hi hj)]
  exact List.getElem_mem _
 ·have hj:j < t.k:=by rw [← h.els i hi];exact (List.getElem?_eq_some_iff.1 hd).1
  refine (h.rep i j d (news.getD (i*t.k+j) undef) hi hd ?_).mono hok (fun _ _=>rfl)
  rw [List.getD_eq_getElem?_getD,List.getElem?_eq_getElem (hlt i j hi hj)]
  rfl
theorem kf (t:Ty) (l:List t.T):kL t t l = some l:=by rw [kL,dif_pos rfl]
theorem Ep {ok':Nat→Prop} (hH:aw E w H) (hok:∀ b,E.ok b→ok' b) (hown:∀ q b,E.live q→E.conc q = some b→ok' b) {v:Value} {o' k:Nat} (h:af E w v (.row o' k)) :
  ∃ d,pP H o' k = .c d∧aG ok' w v d:=by
 unfold pP
 split
 ·next e t l hg =>
  cases hs:Nat.beq t.k k with
  | false=>exact ⟨.unk,rfl, .unk _⟩
  | true =>
   have ha:bN H t (.row o' k) = some l:=by simp [bN,hg,hs,kf]
   obtain ⟨news,hsrc⟩:=l6 hH h ha
   exact ⟨_,rfl,pn hok hown hsrc⟩
 ·exact ⟨.unk,rfl, .unk _⟩
theorem Ee {ok':Nat→Prop} (hH:aw E w H) (hok:∀ b,E.ok b→ok' b) (hown:∀ q b,E.live q→E.conc q = some b→ok' b) {v:Value} {o' k off n:Nat} (h:af E w v (.sub o' k off n)) :
  ∃ d,pH H o' k off n = .c d∧aG ok' w v d:=by
 unfold pH
 split
 ·next e t l hg =>
  cases hs:Nat.beq t.k k with
  | false=>exact ⟨.unk,rfl, .unk _⟩
  | true =>
   have ha:bN H t (.sub o' k off n) = some (aj l off n):=by simp [bN,hg,hs,kf]
   obtain ⟨news,hsrc⟩:=l6 hH h ha
   exact ⟨_,rfl,pn hok hown hsrc⟩
 ·exact ⟨.unk,rfl, .unk _⟩
theorem JP {ok':Nat→Prop} (hH:aw E w H) (hok:∀ b,E.ok b→ok' b) (hown:∀ q b,E.live q→E.conc q = some b→ok' b) {v:Value} {d:V} (h:af E w v d):aG ok' w v (ng H d):=by
 unfold ng
 split
 ·cases h with | c _ _ h=>exact h.mono hok fun _ _=>rfl
 ·next o' k =>
  obtain ⟨d,hd,hr⟩:=Ep hH hok hown h
  rw [hd]
  exact hr
 ·next o' k off n =>
  obtain ⟨d,hd,hr⟩:=Ee hH hok hown h
  rw [hd]
  exact hr
 ·exact .unk _
theorem yM {ok':Nat→Prop} (hH:aw E w H) (hok:∀ b,E.ok b→ok' b) {v:Value} {d:V} (h:af E w v d) :
    ((∀ q b,E.live q→E.conc q = some b→ok' b)∨d.refs = [])→af (dw ok') w v (d.view H):=by
  induction h with
  | c v d h =>
    intro _
    exact .c _ _ (h.mono hok fun _ _=>rfl)
  | agg vs ds hl h ih =>
    intro hd
    rw [V.view]
    refine .agg _ _ (by rw [fy,hl]) fun i v d hv hd'=>?_
    rw [jy] at hd'
    cases hx:ds[i]? with
    | none=>rw [hx] at hd'; cases hd'
    | some x =>
      rw [hx] at hd'; cases hd'
      exact ih i v x hv hx (hd.imp id fun hr=>refs_nil hr hx)
  | tup vs ds hl h ih =>
    intro hd
    rw [V.view]
    refine .tup _ _ (by rw [fy,hl]) fun i v d hv hd'=>?_
    rw [jy] at hd'
    cases hx:ds[i]? with
    | none=>rw [hx] at hd'; cases hd'
    | some x =>
      rw [hx] at hd'; cases hd'
      exact ih i v x hv hx (hd.imp id fun hr=>refs_nil hr hx)
  | ptr o' k i j b hn hb hi =>
    intro hd
    have hown:∀ q b,E.live q→E.conc q = some b→ok' b:=hd.resolve_right (by simp [V.refs])
    rw [V.view]
    unfold Ea
    split
    · next e ty l hg =>
      cases hs:Nat.beq ty.k k with
      | false=>exact .unk _
      | true =>
        have hkk:ty.k = k:=Nat.eq_of_beq_eq_true hs
        subst hkk
        simp only [cond_true]
        obtain ⟨C,h2,h3,h4,h6,h7,h8⟩:=mJ hH hg hb
        obtain ⟨_,hlen,_⟩:=hH.at_ _ _ hg
        have him:i < l.length:=by omega
        have hik:(i+1)*ty.k≤E.cap o'*ty.k:=Nat.mul_le_mul_right _ (by omega)
        rw [Nat.add_mul,Nat.one_mul] at hik
        have hq:∀ q,q < ty.k→C[i*ty.k+q]? = some (C.getD (i*ty.k+q) undef):=by
          intro q hq
          have:i*ty.k+q < C.size:=by omega
          simp [Array.getD,this]
        have:=af.dptr (E:=dw ok') (w:=w) ty.k (els ty l i) j ⟨b,i*ty.k,none⟩ (fun q=>C.getD (i*ty.k+q) undef) (hown o' b hn hb)
          (fun q hq'=>by rw [bQ,cell_of_row w b _ C e (0,0) h2];exact hq q hq') (h6 i him)
          (fun q d hd'=>by
            have hqk:q < ty.k:=by rw [← h6 i him];exact (List.getElem?_eq_some_iff.1 hd').1
            exact (h8 i q d _ him hd' (hq q hqk)).mono hok fun _ _=>rfl)
        rwa [bQ] at this
    · next cs hg =>
      cases hs:Nat.beq cs.length k with
      | false=>exact .unk _
      | true =>
        have hkk:cs.length = k:=Nat.eq_of_beq_eq_true hs
        simp only [cond_true]
        obtain ⟨_,hlen,b',C,te,h1,h2,h3⟩:=hH.at_ _ _ hg
        rw [h1] at hb;cases hb
        have hi0:i = 0:=by omega
        subst hi0
        have hq:∀ q,q < k→C[q]? = some (C.getD q undef):=by
          intro q hq
          have:q < C.size:=by have:=h3.1;simp at this;omega
          simp [Array.getD,this]
        have:=af.dptr (E:=dw ok') (w:=w) k (cs.map (ng H)) j ⟨b,0,none⟩ (fun q=>C.getD q undef) (hown o' b hn h1)
          (fun q hq'=>by rw [bQ,Nat.zero_add,cell_of_row w b _ C te (0,0) h2];exact hq q hq') (by simpa using hkk)
          (fun q d hd'=>by
            rw [List.getElem?_map] at hd'
            cases hx:cs[q]? with
            | none=>rw [hx] at hd'; cases hd'
            | some x =>
              rw [hx] at hd'; cases hd'
              have hqk:q < k:=by rw [← hkk];exact (List.getElem?_eq_some_iff.1 hx).1
              exact JP hH hok hown (h3.2 q _ x (by rw [Array.getElem?_toList];exact hq q hqk) hx))
        rw [bQ,Nat.zero_add] at this
        simpa using this
    · exact .c _ _ (.unk _)
    · exact .c _ _ (.unk _)
    · exact .c _ _ (.unk _)
    · exact .c _ _ (.unk _)
  | row o' k a n c hn hl hc hm h0 =>
    intro hd
    have hown:∀ q b,E.live q→E.conc q = some b→ok' b:=hd.resolve_right (by simp [V.refs])
    rw [V.view]
    obtain ⟨d,hd',hr⟩:=Ep hH hok hown (.row o' k a n c hn hl hc hm h0)
    rw [hd']
    exact .c _ _ hr
  | sub o' k off n a c hn hc hm hl ha =>
    intro hd
    have hown:∀ q b,E.live q→E.conc q = some b→ok' b:=hd.resolve_right (by simp [V.refs])
    rw [V.view]
    obtain ⟨d,hd',hr⟩:=Ee hH hok hown (.sub o' k off n a c hn hc hm hl ha)
    rw [hd']
    exact .c _ _ hr
  | dptr k cs j ad u hok' hcell hl hu =>
    intro _
    rw [V.view]
    exact .dptr k cs j ad u (hok _ hok') hcell hl fun i d hd=>(hu i d hd).mono hok fun _ _=>rfl
  | fn f vs ds hl h ih =>
    intro hd
    rw [V.view]
    refine .fn _ _ _ (by rw [fy,hl]) fun i v d hv hd'=>?_
    rw [jy] at hd'
    cases hx:ds[i]? with
    | none=>rw [hx] at hd'; cases hd'
    | some x =>
      rw [hx] at hd'; cases hd'
      exact ih i v x hv hx (hd.imp id fun hr=>refs_nil hr hx)
where
  refs_nil {ds:List V} {i:Nat} {x:V} (h:V.refss ds = []) (hx:ds[i]? = some x):x.refs = []:=by
    cases hr:x.refs with
    | nil=>rfl
    | cons a l =>
      have:a∈V.refss ds:=bS hx (by rw [hr];simp)
      rw [h] at this
      simp at this
theorem Ff {vs:List V} (h:fe vs = false):V.refss vs = []:=by
 unfold fe at h
 split at h
 ·assumption
 ·cases h
mutual
theorem scalar_rep {ok:Nat→Prop} {w w':World} {E':ar}:∀ (d:V) {v:Value},d.scalar = true→af (dw ok) w v d→af E' w' v d
 | .c d,v,hs,h=>by
  cases h with
  | c _ _ h =>
   cases h with
   | unk=>exact .unk _
   | nil=>exact .c _ _ .nil
   | lit=>exact .lit _
   | opt=>simp [V.scalar] at hs
   | any v h1=>exact .c _ _ (.any v h1)
   | sl=>simp [V.scalar] at hs
 | .agg ds,v,hs,h=>by
  cases h with
  | agg vs _ hl h=>exact .agg _ _ hl fun i v d hv hd=>scalars_rep ds (by simpa [V.scalar] using hs) i d v hd (h i v d hv hd)
 | .tup ds,v,hs,h=>by
  cases h with
  | tup vs _ hl h=>exact .tup _ _ hl fun i v d hv hd=>scalars_rep ds (by simpa [V.scalar] using hs) i d v hd (h i v d hv hd)
 | .ptr ..,v,hs,h=>by simp [V.scalar] at hs
 | .row ..,v,hs,h=>by simp [V.scalar] at hs
 | .sub ..,v,hs,h=>by simp [V.scalar] at hs
 | .dptr ..,v,hs,h=>by simp [V.scalar] at hs
 | .fn ..,v,hs,h=>by simp [V.scalar] at hs
theorem scalars_rep {ok:Nat→Prop} {w w':World} {E':ar}:∀ (ds:List V),V.scalars ds = true→∀ (i:Nat) (d:V) (v:Value),ds[i]? = some d→af (dw ok) w v d→af E' w' v d
 | [],hs,i,d,v,hd,h=>by simp at hd
 | x :: r,hs,0,d,v,hd,h=>by
  simp only [V.scalars,Bool.and_eq_true] at hs
  simp at hd;subst hd
  exact scalar_rep x hs.1 h
 | x :: r,hs,i+1,d,v,hd,h=>by
  simp only [V.scalars,Bool.and_eq_true] at hs
  exact scalars_rep r hs.2 i d v (by simpa using hd) h
end
theorem B7 {ok:Nat→Prop} {E':ar} (hok:∀ b,ok b→E'.ok b) {v:Value} {d:V} (h:af (dw ok) w v d):af E' w v d :=
 h.mono (E:=dw ok) (kl:=[]) hok (fun _ _=>rfl) (fun o (ho:False)=>ho.elim) (fun o (ho:False)=>ho.elim) (CU d)
theorem Ao (hH:aw E w H) (hf:eA E nid) {C:FuncId→Option CC} (hC:∀ f con,C f = some con→bq P f con) {f:FuncId} {args:List V} {xs:List Value} (hx:aI E w xs args)
  (h:gP C H nid f args = some r) (hp:∀ p∈r.pre,p) :
  ik P f xs.toArray w fun v w'=>∃ E',bU E w H nid r E' w' v:=by
 unfold gP at h
 split at h
 ·cases h
 ·next m hm=>exact hC f (.mut m) hm E w H nid xs args r hH hf hx h hp
 ·next con hcon =>
  have hmeet:Ic P f con:=hC f (.pure con) hcon
  have view:∀ ok':Nat→Prop,(∀ b,E.ok b→ok' b)→((∀ q b,E.live q→E.conc q = some b→ok' b)∨fe args = false)→aI (dw ok') w xs (V.views H args):=by
   intro ok' h1 h2
   refine ⟨by rw [fy];exact hx.1,fun i v d hv hd=>?_⟩
   rw [jy] at hd
   cases hy:args[i]? with
   | none=>rw [hy] at hd;cases hd
   | some y =>
    rw [hy] at hd;cases hd
    exact yM hH h1 (hx.2 i v y hv hy) (h2.imp id fun h=>yM.refs_nil (Ff h) hy)
  have dat:∀ (w':World),Below w.heap.size w w'→cQ E w [] (E.next nid none 0 0 fun b=>E.ok b∨(w.heap.size≤b∧b < w'.heap.size)) w'∧aw (E.next nid none 0 0 fun b=>E.ok b∨(w.heap.size≤b∧b < w'.heap.size)) w' H:=by
   intro w' hb
   refine ⟨ck hf.one none 0 0 _ hb (by simp) (fun _ h=>.inl h) (fun b h=>h.imp id (·.1)),cB hf.one hH hb (by simp) (fun _ h=>.inl h) (fun b h=>h.imp id (·.1)) fun b h=>?_⟩
   rcases h with h | h
   ·have:=hH.oklt b h;have:=hb.size;omega
   ·exact h.2
  have full:∀ q b,E.live q→E.conc q = some b→(fun b=>E.ok b∨∃ q,E.live q∧E.conc q = some b) b:=fun q b hq hb=>.inr ⟨q,hq,hb⟩
  have fulllt:∀ b,(fun b=>E.ok b∨∃ q,E.live q∧E.conc q = some b) b→b < w.heap.size:=by
   rintro b (h | ⟨q,h1,h2⟩)
   ·exact hH.oklt b h
   ·exact hH.lt q b h1 h2
  split at h
  ·cases h
  ·next p v hcv =>
   cases hs:((!fe args)||v.scalar) with
   | false=>simp [hs] at h
   | true =>
    simp only [hs,cond_true,Option.some.injEq] at h
    subst h
    have hpp:p = true:=hp _ (by simp)
    cases ha:fe args with
    | false =>
     refine (hmeet E.ok w xs _ p _ (view E.ok (fun _ h=>h) (.inr ha)) hH.oklt hcv hpp).mono ?_
     rintro u w' ⟨hb,hout⟩
     obtain ⟨hS,hN⟩:=dat w' hb
     exact ⟨_,hS,hN,B7 (fun _ h=>h) hout,bA⟩
    | true =>
     have hsc:v.scalar = true:=by simpa [ha] using hs
     refine (hmeet _ w xs _ p _ (view _ (fun _ h=>.inl h) (.inl full)) fulllt hcv hpp).mono ?_
     rintro u w' ⟨hb,hout⟩
     obtain ⟨hS,hN⟩:=dat w' hb
     exact ⟨_,hS,hN,scalar_rep v hsc hout,bA⟩
  ·next p v hcv =>
   cases h
   have hpp:p = true:=hp _ (by simp)
   refine (hmeet _ w xs _ p _ (view _ (fun _ h=>.inl h) (.inl full)) fulllt hcv hpp).mono ?_
   rintro u w' ⟨hb,hout⟩
   obtain ⟨hS,hN⟩:=dat w' hb
   exact ⟨_,hS,hN,B7 (E':=E.next nid none 0 0 fun b=>E.ok b∨(w.heap.size≤b∧b < w'.heap.size)) (fun _ h=>Or.inr h.1) hout,bA⟩
  ·next p fr e t l hcv =>
   cases hs:((!fe args)||fr) with
   | false=>simp [hs] at h
   | true =>
    simp only [hs,cond_true,Option.some.injEq] at h
    subst h
    have hpp:p = true:=hp _ (by simp)
    have fin:∀ (ok:Nat→Prop) (w':World) (u:Value),(fr = false→∀ b,ok b→E.ok b)→Below w.heap.size w w'→tV ok w w' u (.own fr e t l) →
      ∃ E',bU E w H nid { pre:=[p = true],val:=.row nid t.k,eff:=[(nid,some (.row e t l))] } E' w' u:=by
     rintro ok w' u hfr hb ⟨ys,hown,h7,h8⟩
     have hlt:=hown.lt
     have hown0:w'.ownsRow 0 e t.k u l.length ys:=⟨hown.1,hown.2.imp id fun ⟨g,cap,cur,a,_,c⟩=>⟨g,cap,cur,a,Nat.zero_le _,c⟩⟩
     let ok':Nat→Prop:=fun b=>E.ok b∨(w.heap.size≤b∧b < w'.heap.size∧u.ownBlock≠some b)
     have h1:∀ b,u.ownBlock = some b→w.heap.size≤b∧b < w'.heap.size∧¬ ok' b:=by
      intro b hb'
      obtain ⟨a1,a2⟩:=hlt b hb'
      refine ⟨a1,a2, ?_⟩
      rintro (h | ⟨_,_,h⟩)
      ·have:=hH.oklt b h;omega
      ·exact h hb'
     have h2:∀ b,ok' b→E.ok b∨w.heap.size≤b:=fun b h=>h.imp id (·.1)
     have h3:∀ b,ok' b→b < w'.heap.size:=by
      rintro b (h | h)
      ·have:=hH.oklt b h;have:=hb.size;omega
      ·exact h.2.1
     have hS:cQ E w [] (E.next nid u.ownBlock (nk u) l.length ok') w':=ck hf.one _ _ _ ok' hb (fun b h=>(h1 b h).1) (fun _ h=>.inl h) h2
     have hN:=cB (cap:=nk u) (len:=l.length) hf.one hH hb h1 (fun _ h=>.inl h) h2 h3
     have hob:=uh (E':=E.next nid u.ownBlock (nk u) l.length ok') (q:=nid) hown0 (by simp [ar.next]) (by simp [ar.next]) (by intro a m c e;simp [ar.next,e,nk]) h7
      (fun i j d x hi hd hx=>(h8 i j d x hi hd hx).mono (fun b hb'=>by
       rcases hb' with ⟨h,h'⟩ | h
       ·exact .inl (hfr h b h')
       ·exact .inr h) fun _ _=>rfl)
     exact ⟨_,hS,ic hN (.inl rfl) hob.1,hob.2 (.inl rfl),bA⟩
    cases ha:fe args with
    | false =>
     refine (hmeet E.ok w xs _ p _ (view E.ok (fun _ h=>h) (.inr ha)) hH.oklt hcv hpp).mono ?_
     rintro u w' ⟨hb,hout⟩
     obtain ⟨E',hP⟩:=fin _ w' u (fun _ _ h=>h) hb hout
     exact ⟨E',hP⟩
    | true =>
     have hfr:fr = true:=by simpa [ha] using hs
     refine (hmeet _ w xs _ p _ (view _ (fun _ h=>.inl h) (.inl full)) fulllt hcv hpp).mono ?_
     rintro u w' ⟨hb,hout⟩
     obtain ⟨E',hP⟩:=fin _ w' u (fun h=>by rw [hfr] at h;cases h) hb hout
     exact ⟨E',hP⟩
theorem aI.cons_inv {x:Value} {xs:List Value} {ds:List V} (h:aI E w (x :: xs) ds):∃ d ds',ds = d :: ds'∧af E w x d∧aI E w xs ds':=by
 match ds with
 | []=>have:=h.1;simp at this
 | d :: ds'=>exact ⟨d,ds',rfl,h.2 0 _ _ rfl rfl,by have:=h.1;simpa using this,fun i v d a b=>h.2 (i+1) v d a b⟩
theorem aI.nil_inv {ds:List V} (h:aI E w [] ds):ds = []:=List.eq_nil_of_length_eq_zero h.1.symm
def ar.fz (E:ar) (o:Nat):ar where
  conc q:=if q = o then none else E.conc q
  cap:=E.cap
  len q:=if q = o then 0 else E.len q
  live:=E.live
  ok b:=E.ok b∨E.conc o = some b
theorem iu (o:Nat) (t:Ty) (l:List t.T):∀ vs:List V,(V.fzs o t l vs).length = vs.length
 | []=>rfl
 | _ :: r=>by simp [V.fzs,iu o t l r]
theorem mS (o:Nat) (t:Ty) (l:List t.T):∀ (vs:List V) (i:Nat),(V.fzs o t l vs)[i]? = (vs[i]?).map (V.fz o t l)
 | [],i=>by simp [V.fzs]
 | v :: r,0=>by simp [V.fzs]
 | v :: r,i+1=>by simp [V.fzs,mS o t l r i]
theorem qT {q o:Nat} (h:q≠o):(E.fz o).conc q = E.conc q∧(E.fz o).cap q = E.cap q∧(E.fz o).len q = E.len q:=by simp [ar.fz,h]
theorem lw {q o b:Nat} (h:(E.fz o).conc q = some b):q≠o∧E.conc q = some b:=by
 by_cases e:q = o
 ·simp [ar.fz,e] at h
 ·exact ⟨e,by rwa [(qT e).1] at h⟩
theorem BT {o:Nat} (ho:E.live o):cQ E w [o] (E.fz o) w :=
 ⟨rfl,rfl,rfl,Nat.le_refl _,fun _ h=>h,fun _ _ _=>rfl,fun _ h=>.inl h,fun b h=>h.elim .inl fun h=>.inr (.inr ⟨o,ho,h⟩),fun q _ hq=>qT (by simpa using hq),fun q b hq h=>.inl ⟨q,hq,(lw h).2⟩⟩
theorem BW {o:Nat} (hH:aw E w H) {e:TypeId} {t:Ty} {l:List t.T} (hg:H.get o = some (.row e t l)):aw (E.fz o) w ((o,some (.row e t [])) :: dt [o] H):=by
 have ho:=(hH.at_ o _ hg).1
 have hrv:∀ v d,af E w v d→af (E.fz o) w v (d.kill o):=fun v d h=>af.step (BT ho) hH.sep hH.oklt h
 have hrd:∀ v d,aG E.ok w v d→aG (E.fz o).ok w v d:=fun v d h=>h.mono (fun _ h=>.inl h) fun _ _=>rfl
 refine ⟨fun q ob hq=>?_,fun q q' b hq hq' h h'=>hH.inj q q' b hq hq' (lw h).2 (lw h').2,fun q b hq h=>?_,fun q b hq h=>hH.lt q b hq (lw h).2,fun b h=>h.elim (hH.oklt b) (hH.lt o b ho)⟩
 ·rw [ab.get_cons] at hq
  split at hq
  ·next e1 =>
   subst e1;cases hq
   exact ⟨ho,by simp [ar.fz], .inl ⟨by simp [ar.fz],rfl⟩⟩
  ·next hne =>
   rw [dY] at hq
   obtain ⟨y,hy,hky⟩:=xk hq
   obtain ⟨h1,h2⟩:=hH.at_ q y hy
   refine ⟨h1, ?_⟩
   obtain ⟨c1,c2,c3⟩:=qT (E:=E) (fun e=>hne e.symm:q≠o)
   cases y with
   | box cs =>
    cases hky
    obtain ⟨hl,b,C,te,g1,g2,g3⟩:=h2
    refine ⟨c3.trans hl,b,C,te,c1.trans g1,g2,by rw [gZ];exact g3.1,fun i v d hv hd=>?_⟩
    rw [lz] at hd
    cases hx':cs[i]? with
    | none=>rw [hx'] at hd;cases hd
    | some y=>rw [hx'] at hd;cases hd;exact hrv _ _ (g3.2 i v y hv hx')
   | raw x =>
    cases hky
    obtain ⟨hl,b,g1,g2⟩:=h2
    exact ⟨c3.trans hl,b,c1.trans g1,g2⟩
   | map t kt vt ks vs =>
    cases hky
    exact nv.mp h2 c1 c3 (fun _ _=>rfl) hrd
   | iter m s0 l0 =>
    cases hky
    obtain ⟨hl,b,bm,s,seen,c,g1,g2,g3,g4⟩:=h2
    exact ⟨c3.trans hl,b,bm,s,seen,c,c1.trans g1,g2,g3,hrv _ _ g4⟩
   | row te tt ll =>
    cases hky
    obtain ⟨hl,hh⟩:=h2
    refine ⟨c3.trans hl, ?_⟩
    rcases hh with ⟨g1,g2⟩ | ⟨b,C,g1,g2,g3,g4,g5,g6,g7,g8⟩
    ·exact .inl ⟨c1.trans g1,g2⟩
    ·exact .inr ⟨b,C,c1.trans g1,g2,by rw [c2];exact g3,by rw [c2];exact g4,by rw [c2];exact g5,g6,g7,fun i j d u a b c=>hrd _ _ (g8 i j d u a b c)⟩
 ·obtain ⟨h1,h2⟩:=lw h
  rintro (h3 | h3)
  ·exact hH.sep q b hq h2 h3
  ·exact h1 (hH.inj q o b hq ho h2 h3)
theorem vp {o:Nat} (hH:aw E w H) {e:TypeId} {t:Ty} {l:List t.T} (hg:H.get o = some (.row e t l)) {v:Value} {d:V} (h:af E w v d):af (E.fz o) w v (d.fz o t l):=by
 induction h with
 | c v d h=>exact .c v d (h.mono (fun _ h=>.inl h) fun _ _=>rfl)
 | agg vs ds hl h ih =>
  rw [V.fz]
  refine .agg _ _ (by rw [iu,hl]) fun i v d hv hd=>?_
  rw [mS] at hd
  cases hx:ds[i]? with
  | none=>rw [hx] at hd;cases hd
  | some x=>rw [hx] at hd;cases hd;exact ih i v x hv hx
 | tup vs ds hl h ih =>
  rw [V.fz]
  refine .tup _ _ (by rw [iu,hl]) fun i v d hv hd=>?_
  rw [mS] at hd
  cases hx:ds[i]? with
  | none=>rw [hx] at hd;cases hd
  | some x=>rw [hx] at hd;cases hd;exact ih i v x hv hx
 | ptr o' k i j b hn hb hi =>
  rw [V.fz]
  cases hq:Nat.beq o' o
  ·have hne:o'≠o:=fun e=>by subst e;simp at hq
   obtain ⟨c1,c2,c3⟩:=qT (E:=E) hne
   exact .ptr o' k i j b hn (c1.trans hb) (by rw [c3];exact hi)
  ·exact .c _ _ (.unk _)
 | row o' k' a n' c hn hl hc hm h0 =>
  rw [V.fz]
  cases hq:Nat.beq o' o
  ·have hne:o'≠o:=fun e=>by subst e;simp at hq
   obtain ⟨c1,c2,c3⟩:=qT (E:=E) hne
   exact .row o' k' a n' c hn (by rw [c3];exact hl) hc hm (by rw [c1,c2];exact h0)
  ·have:=Nat.eq_of_beq_eq_true hq
   subst this
   rw [cond_true]
   cases hk:Nat.beq t.k k' with
   | false=>exact .c _ _ (.unk _)
   | true =>
    rw [cond_true]
    have hr:=af.row o' k' a n' c hn hl hc hm h0 (w:=w)
    obtain ⟨news,hsrc⟩:=l6 hH hr (show bN H t (.row o' k') = some l by simp [bN,hg,hk,kf])
    have hsrc':EA { E with live:=fun q=>q = o' } w (.slice a n' c) t.k l.length (els t l) news :=
     ⟨hsrc.form,fun ad n2 c2 he hn2=>by
      cases he
      rcases h0 with ⟨h0,_⟩ | ⟨b,hb,hab,_⟩
      ·cases h0
      ·cases hab
       exact .inr ⟨o',rfl,hb⟩,hsrc.len,hsrc.one,hsrc.els,hsrc.rep⟩
    exact .c _ _ (pn (E:={ E with live:=fun q=>q = o' }) (ok':=(E.fz o').ok) (fun _ h=>.inl h) (fun q b hq hb=>by
     have e1:q = o':=hq
     subst e1;exact .inr hb) hsrc')
 | sub o' k' off n' a c hn hc hm hl ha =>
  rw [V.fz]
  cases hq:Nat.beq o' o
  ·have hne:o'≠o:=fun e=>by subst e;simp at hq
   obtain ⟨c1,c2,c3⟩:=qT (E:=E) hne
   exact .sub o' k' off n' a c hn hc hm (by rw [c3];exact hl) (by rw [c1];exact ha)
  ·have:=Nat.eq_of_beq_eq_true hq
   subst this
   rw [cond_true]
   cases hk:Nat.beq t.k k' with
   | false=>exact .c _ _ (.unk _)
   | true =>
    rw [cond_true]
    have hr:=af.sub o' k' off n' a c hn hc hm hl ha (w:=w)
    have hlen:E.len o' = l.length:=(hH.at_ _ _ hg).2.1
    obtain ⟨news,hsrc⟩:=l6 hH hr (show bN H t (.sub o' k' off n') = some (aj l off n') by simp [bN,hg,hk,kf])
    have hsl:(aj l off n').length = n':=x7 (by omega)
    have hsrc':EA { E with live:=fun q=>q = o' } w (.slice a n' c) t.k (aj l off n').length (els t (aj l off n')) news :=
     ⟨hsrc.form,fun ad n2 c2 he hn2=>by
      cases he
      obtain ⟨b,hb,hab⟩:=ha (by rw [hsl] at hn2;exact hn2)
      cases hab
      exact .inr ⟨o',rfl,hb⟩,hsrc.len,hsrc.one,hsrc.els,hsrc.rep⟩
    exact .c _ _ (pn (E:={ E with live:=fun q=>q = o' }) (ok':=(E.fz o').ok) (fun _ h=>.inl h) (fun q b hq hb=>by
     have e1:q = o':=hq
     subst e1;exact .inr hb) hsrc')
 | dptr k' cs j ad u hok hcell hl hu=>exact .dptr k' cs j ad u (.inl hok) hcell hl fun i d hd=>(hu i d hd).mono (fun _ h=>.inl h) fun _ _=>rfl
 | fn f vs ds hl h ih =>
  rw [V.fz]
  refine .fn _ _ _ (by rw [iu,hl]) fun i v d hv hd=>?_
  rw [mS] at hd
  cases hx:ds[i]? with
  | none=>rw [hx] at hd;cases hd
  | some x=>rw [hx] at hd;cases hd;exact ih i v x hv hx
theorem cQ.trans1 {E1 E2:ar} {o:Nat} {kl:List Nat} {w1:World} (h:cQ E w [o] E1 w) (h':cQ E1 w kl E2 w1) (hl:∀ q,E1.live q→E.live q) (hc:∀ q b,E1.conc q = some b→E.conc q = some b):cQ E w (o :: kl) E2 w1 :=
 ⟨h'.os,h'.tape,h'.output,h'.size,fun q hq=>h'.live q (h.live q hq),fun b hb hn=>h'.blk b hb fun q hq hcq=>hn q (hl q hq) (hc q b hcq),fun b hb=>h'.ok b (h.ok b hb),fun b hb=>by
  rcases h'.okold b hb with g | g | ⟨q,g1,g2⟩
  ·exact h.okold b g
  ·exact .inr (.inl g)
  ·exact .inr (.inr ⟨q,hl q g1,hc q b g2⟩),fun q hq hn=>by
  have a1:=h.conc q hq (by simp at hn;simp [hn.1])
  have a2:=h'.conc q (h.live q hq) (by simp at hn;exact hn.2)
  exact ⟨a2.1.trans a1.1,a2.2.1.trans a1.2.1,a2.2.2.trans a1.2.2⟩,fun q b hq hb=>by
  rcases h'.concnew q b hq hb with ⟨q',g1,g2⟩ | g
  ·exact .inl ⟨q',hl q' g1,hc q' b g2⟩
  ·exact .inr g⟩
theorem sy (kl:List Nat) (o:Nat) (e:TypeId) (t:Ty) (l:List t.T):∀ H:ab,dt kl ((o,some (.row e t l)) :: H) = (o,some (.row e t l)) :: dt kl H:=by
 induction kl with
 | nil=>intro H;rfl
 | cons x r ih=>intro H;rw [dt,List.map_cons,dt];exact ih _
theorem ux {ws:List Value} {f:ab→List V→Option aB} {nid:Nat} {R:World→Value→Prop}
  (hf0:∀ (E:ar) (H:ab) (vs:List V) (r:aB),aw E w H→eA E nid→aI E w ws vs→f H vs = some r→(∀ p∈r.pre,p)→∃ E' w' v',R w' v'∧bU E w H nid r E' w' v'):∀ (fl:List Nat) (E:ar) (H:ab) (vs:List V) (r:aB),aw E w H→eA E nid→aI E w ws vs →
  iF f fl H vs = some r→(∀ p∈r.pre,p)→∃ E' w' v',R w' v'∧bU E w H nid r E' w' v'
 | [],E,H,vs,r,hH,hf,hv,h,hp=>hf0 E H vs r hH hf hv h hp
 | q :: fl,E,H,vs,r,hH,hf,hv,h,hp=>by
  rw [iF] at h
  split at h
  ·next e t l hg =>
   have hq:=(hH.at_ q _ hg).1
   cases hb:iF f fl ((q,some (.row e t [])) :: dt [q] H) (V.fzs q t l vs) with
   | none=>rw [hb] at h;cases h
   | some r0 =>
    rw [hb] at h;cases h
    obtain ⟨E',w',v',h1,h2⟩:=ux hf0 fl (E.fz q) _ _ r0 (BW hH hg) hf ⟨by rw [iu];exact hv.1,fun i v d hi hd=>by
     rw [mS] at hd
     cases hx:vs[i]? with
     | none=>rw [hx] at hd;cases hd
     | some x=>rw [hx] at hd;cases hd;exact vp hH hg (hv.2 i v x hi hx)⟩ hb hp
    refine ⟨E',w',v',h1,(BT hq).trans1 h2.st (fun _ h=>h) (fun _ _ h=>(lw h).2), ?_,h2.val,h2.live⟩
    have:=h2.heap
    rw [sy] at this
    rw [List.append_assoc]
    exact this
  ·cases h
theorem HX {C:FuncId→Option CC} {f:FuncId} {args:List V} (h:o7 C f nid H args = some r):gP C H nid f args = some r:=by
 unfold o7 at h
 cases hb:V.noPs args with
 | false=>rw [hb] at h;cases h
 | true =>
  rw [hb,cond_true] at h
  split at h
  ·exact h
  ·cases h
theorem ED {ws:List Value} {f:ab→List V→Option aB} {nid:Nat} {g:FuncId}
  (hf0:∀ (E:ar) (H:ab) (vs:List V) (r:aB),aw E w H→eA E nid→aI E w ws vs→f H vs = some r→(∀ p∈r.pre,p)→ik P g ws.toArray w fun v w'=>∃ E',bU E w H nid r E' w' v):∀ (fl:List Nat) (E:ar) (H:ab) (vs:List V) (r:aB),aw E w H→eA E nid→aI E w ws vs →
  iF f fl H vs = some r→(∀ p∈r.pre,p)→ik P g ws.toArray w fun v w'=>∃ E',bU E w H nid r E' w' v
 | [],E,H,vs,r,hH,hf,hv,h,hp=>hf0 E H vs r hH hf hv h hp
 | q :: fl,E,H,vs,r,hH,hf,hv,h,hp=>by
  rw [iF] at h
  split at h
  ·next e t l hg =>
   have hq:=(hH.at_ q _ hg).1
   cases hb:iF f fl ((q,some (.row e t [])) :: dt [q] H) (V.fzs q t l vs) with
   | none=>rw [hb] at h;cases h
   | some r0 =>
    rw [hb] at h;cases h
    refine (ED hf0 fl (E.fz q) _ _ r0 (BW hH hg) hf ⟨by rw [iu];exact hv.1,fun i v d hi hd=>by
     rw [mS] at hd
     cases hx:vs[i]? with
     | none=>rw [hx] at hd;cases hd
     | some x=>rw [hx] at hd;cases hd;exact vp hH hg (hv.2 i v x hi hx)⟩ hb hp).mono ?_
    rintro v' w' ⟨E',h2⟩
    refine ⟨E',(BT hq).trans1 h2.st (fun _ h=>h) (fun _ _ h=>(lw h).2), ?_,h2.val,h2.live⟩
    have:=h2.heap
    rw [sy] at this
    rw [List.append_assoc]
    exact this
  ·cases h
theorem IU (hH:aw E w H) (hf:eA E nid) {C:FuncId→Option CC} (hC:∀ f con,C f = some con→bq P f con) {f:FuncId} {args:List V} {xs:List Value} (hx:aI E w xs args)
  (h:no C H nid f args = some r) (hp:∀ p∈r.pre,p) :
  ik P f xs.toArray w fun v w'=>∃ E',bU E w H nid r E' w' v:=by
 unfold no at h
 split at h
 ·next r' hr=>cases h;exact Ao hH hf hC hx hr hp
 ·exact ED (fun E H vs r hH hf hv h hp=>Ao hH hf hC hv (HX h) hp) _ E H args r hH hf hx h hp
theorem Gd {o:Oper} {nid:Nat} {t:TypeId} {len:Nat} {parts:Array (Nat × Operand)} {ρ:Operand→Value} (ho:o.op = .buildSlice t len parts) (hH:aw E w H) (hf:eA E nid) {vs:List V} {r:aB} (hv:aI E w (parts.toList.map fun p=>ρ p.2) vs)
  (h:JA P nid t len (parts.toList.map (·.1)) H vs = some r) (hp:∀ p∈r.pre,p):∃ E' w' v',(execOp ρ o).run P w = .ok (.value v') w'∧bU E w H nid r E' w' v' :=
 ux (R:=fun w' v'=>(execOp ρ o).run P w = .ok (.value v') w') (fun E H vs r hH hf hv h _=>An hH hf.one ho hv h) _ E H vs r hH hf hv h hp
theorem Gc {o:Oper} {nid:Nat} {ρ:Operand→Value} (hH:aw E w H) (hf:eA E nid) {t:TypeId} {a x:Operand} (ho:o.op = .store t a x) {va vx:V} {r:aB} (ha:af E w (ρ a) va) (hx:af E w (ρ x) vx) (h:sj P H t va vx = some r) (hp:∀ p∈r.pre,p) :
  ∃ E' w',(execOp ρ o).run P w = .ok .skip w'∧bU E w H nid r E' w' undef:=by
 unfold sj at h
 split at h
 ·split at h
  ·obtain ⟨E',w',v',⟨rfl,h1⟩,h2⟩:=ux (ws:=[ρ a,ρ x]) (R:=fun w' v'=>v' = undef∧(execOp ρ o).run P w = .ok .skip w') (fun E H vs r hH hf hv h hp=>by
    unfold sM at h
    split at h
    ·next a' x' =>
     obtain ⟨E',w',h1,h2⟩:=tN hH hf.one ho (hv.2 0 _ _ rfl rfl) (hv.2 1 _ _ rfl rfl) h hp
     exact ⟨E',w',undef,⟨rfl,h1⟩,h2⟩
    ·cases h) _ E H _ r hH hf ⟨rfl,fun i v d h1 h2=>by
     match i with
     | 0=>simp at h1 h2;subst h1 h2;exact ha
     | 1=>simp at h1 h2;subst h1 h2;exact hx
     | i+2=>simp at h1⟩ h hp
   exact ⟨E',w',h1,h2⟩
  ·exact tN hH hf.one ho ha hx h hp
 ·exact tN hH hf.one ho ha hx h hp
theorem Lt (hH:aw E w H) (hf:eA E nid) {C:FuncId→Option CC} (hC:∀ f con,C f = some con→bq P f con) {a:Act} {vs:List V} (hv:aI E w ((cS o.op).map a.eval) vs)
  (h:oB P C H nid o vs = some r) (hp:∀ p∈r.pre,p) {K:Act→World→Prop} {Q:Exit→Act→World→Prop} (hK:∀ E' w' v',bU E w H nid r E' w' v'→K (a.put o.dst v') w'):o.wp P a w K Q:=by
 have fin:(∃ E' w' v',(execOp a.eval o).run P w = .ok (.value v') w'∧bU E w H nid r E' w' v')→o.wp P a w K Q:=by
  rintro ⟨E',w',v',h1,h2⟩
  unfold Oper.wp
  rw [h1]
  exact hK E' w' v' h2
 have finq:gX P a.eval o E w r→o.wp P a w K Q:=fun hq=>by
  obtain ⟨v',h1,h2⟩:=If hH hf.one hq
  exact fin ⟨_,w,v',h1,h2⟩
 unfold oB at h
 split at h
 ·next x d ho =>
  rw [ho] at hv
  cases h
  exact finq ⟨rfl,rfl,H3 ho (hv.2 0 _ _ rfl rfl)⟩
 ·next x d ho =>
  rw [ho] at hv
  cases h
  exact finq ⟨rfl,rfl,Fo ho (hv.2 0 _ _ rfl rfl)⟩
 ·next t ho =>
  split at h
  ·next z hz=>exact fin (HF hH hf.one ho hz h)
  ·cases h
 ·next t x d ho =>
  rw [ho] at hv
  exact fin (KA hH hf.one ho (hv.2 0 _ _ rfl rfl) h)
 ·next t parts vs ho =>
  rw [ho] at hv
  exact finq (Gl ho (by simpa [cS,Op.operands,List.map_map,Function.comp_def] using hv) h)
 ·next t len parts vs ho =>
  rw [ho] at hv
  exact fin (Gd ho hH hf (by simpa [cS,Op.operands,List.map_map,Function.comp_def] using hv) h hp)
 ·next t x d ho =>
  rw [ho] at hv
  exact finq (zg hH ho (hv.2 0 _ _ rfl rfl) h hp)
 ·next t x y d e ho =>
  rw [ho] at hv
  obtain ⟨E',w',h1,h2⟩:=Gc hH hf ho (hv.2 0 _ _ rfl rfl) (hv.2 1 _ _ rfl rfl) h hp
  unfold Oper.wp
  rw [h1]
  exact hK E' w' undef h2
 ·next x d ho =>
  rw [ho] at hv
  exact finq (BD ho (hv.2 0 _ _ rfl rfl) h)
 ·next op t x y ty d e ho =>
  rw [ho] at hv
  exact finq (J7 ho (hv.2 0 _ _ rfl rfl) (hv.2 1 _ _ rfl rfl) h hp)
 ·next op t x d ho =>
  rw [ho] at hv
  exact finq (Kv ho (hv.2 0 _ _ rfl rfl) h)
 ·next s t x d ho =>
  rw [ho] at hv
  split at h
  ·next e hs hd =>
   split at h
   ·next he=>exact finq (Gw hH hs hd he ho (hv.2 0 _ _ rfl rfl) h)
   ·cases h
  ·exact finq (IL ho (hv.2 0 _ _ rfl rfl) h)
 ·next t x f d ho =>
  rw [ho] at hv
  exact finq (Ad ho (hv.2 0 _ _ rfl rfl) h)
 ·next t x f d ho =>
  rw [ho] at hv
  exact finq (GA ho (hv.2 0 _ _ rfl rfl) h)
 ·next t x y d e ho =>
  rw [ho] at hv
  exact finq (yY hH ho (hv.2 0 _ _ rfl rfl) (hv.2 1 _ _ rfl rfl) h hp)
 ·next t x y d e ho =>
  rw [ho] at hv
  exact finq (GC ho (hv.2 0 _ _ rfl rfl) (hv.2 1 _ _ rfl rfl) h hp)
 ·next t x d ho =>
  rw [ho] at hv
  exact finq (m4 hH (dlo:=none) (dhi:=none) ho (hv.2 0 _ _ rfl rfl) (by simp) (by simp) (by simp) (by simp) h hp)
 ·next t x l d e ho =>
  rw [ho] at hv
  exact finq (m4 hH (dlo:=some e) (dhi:=none) ho (hv.2 0 _ _ rfl rfl) (fun y hy=>by cases hy;exact ⟨_,rfl,hv.2 1 _ _ rfl rfl⟩) (by simp) (by simp) (by simp) h hp)
 ·next t x l d e ho =>
  rw [ho] at hv
  exact finq (m4 hH (dlo:=none) (dhi:=some e) ho (hv.2 0 _ _ rfl rfl) (by simp) (by simp) (fun y hy=>by cases hy;exact ⟨_,rfl,hv.2 1 _ _ rfl rfl⟩) (by simp) h hp)
 ·next t x l hh d e g ho =>
  rw [ho] at hv
  exact finq (m4 hH (dlo:=some e) (dhi:=some g) ho (hv.2 0 _ _ rfl rfl) (fun y hy=>by cases hy;exact ⟨_,rfl,hv.2 1 _ _ rfl rfl⟩) (by simp) (fun y hy=>by cases hy;exact ⟨_,rfl,hv.2 2 _ _ rfl rfl⟩) (by simp) h hp)
 ·next t l c d e ho =>
  rw [ho] at hv
  exact fin (Br hH hf.one ho (hv.2 0 _ _ rfl rfl) (hv.2 1 _ _ rfl rfl) h hp)
 ·next vs f first caps ho =>
  rw [ho] at hv
  cases hf:(first.isEmpty&&Nat.blt f 1000000000) with
  | false=>rw [hf] at h;cases h
  | true =>
   rw [hf] at h
   simp only [cond_true,Option.some.injEq] at h
   subst h
   rw [Bool.and_eq_true] at hf
   have h0:first = #[]:=by simpa using hf.1
   subst h0
   exact finq ⟨rfl,rfl,Bt ho rfl hf.2 (by simpa [cS,Op.operands] using hv)⟩
 ·next t ho=>exact fin (EU hH hf.one ho h)
 ·next t x y ok m k ho =>
  rw [ho] at hv
  exact finq (DS hH ho (hv.2 0 _ _ rfl rfl) (hv.2 1 _ _ rfl rfl) h)
 ·next t x y z m k v ho =>
  rw [ho] at hv
  obtain ⟨E',w',v',⟨rfl,h1⟩,h2⟩:=ux (ws:=[a.eval x,a.eval y,a.eval z]) (R:=fun w' v'=>v' = undef∧(execOp a.eval o).run P w = .ok .skip w') (fun E H vs r hH hf hv h hp=>by
   obtain ⟨E',w',h1,h2⟩:=ID hH hf.one ho hv h
   exact ⟨E',w',undef,⟨rfl,h1⟩,h2⟩) _ E H _ r hH hf (by simpa [cS,Op.operands] using hv) h hp
  unfold Oper.wp
  rw [h1]
  exact hK E' w' undef h2
 ·next t x d ho =>
  rw [ho] at hv
  split at h
  ·next e hu =>
   cases hc:(V.isCell d&&Nat.blt t 1000000000) with
   | false=>rw [hc] at h;cases h
   | true =>
    rw [hc] at h
    simp only [cond_true,Option.some.injEq] at h
    subst h
    rw [Bool.and_eq_true] at hc
    have hlt:=hc.2
    exact finq ⟨rfl,rfl,uR hlt ho hu (hv.2 0 _ _ rfl rfl)⟩
  ·cases h
 ·next x ix d ho =>
  rw [ho] at hv
  exact finq (Dg ho (hv.2 0 _ _ rfl rfl) h hp)
 ·next t x d ho =>
  rw [ho] at hv
  split at h
  ·next r' hr'=>cases h;exact fin (Ik hH hf.one ho (hv.2 0 _ _ rfl rfl) hr')
  ·exact fin (Gf hH hf.one ho (hv.2 0 _ _ rfl rfl) h)
 ·next x d ho =>
  rw [ho] at hv
  exact fin (I7 hH hf.one ho (hv.2 0 _ _ rfl rfl) h)
 ·next x d ho =>
  rw [ho] at hv
  exact finq (Fj hH ho (hv.2 0 _ _ rfl rfl) h hp)
 ·next args argTypes d ho =>
  rw [ho] at hv
  obtain ⟨x,hx⟩:∃ x,args.toList = [x]:=by
   have h2:args.toList.length = 1:=by have:=hv.1;simpa [cS] using this
   match hl:args.toList,h2 with
   | [p],_=>exact ⟨p,rfl⟩
  have hargs:args = #[x]:=by rw [← Array.toArray_toList (xs:=args),hx]
  subst hargs
  split at h
  ·next t ht =>
   cases hu:P.underlying t with
   | none=>simp [tj,hu] at h
   | some dd=>exact finq (Jr hH ho rfl rfl ht hu (hv.2 0 _ _ rfl rfl) h)
  ·cases h
 ·next args argTypes d ho =>
  rw [ho] at hv
  obtain ⟨x,hx⟩:∃ x,args.toList = [x]:=by
   have h2:args.toList.length = 1:=by have:=hv.1;simpa [cS] using this
   match hl:args.toList,h2 with
   | [p],_=>exact ⟨p,rfl⟩
  have hargs:args = #[x]:=by rw [← Array.toArray_toList (xs:=args),hx]
  subst hargs
  split at h
  ·next t ht=>exact fin (HA hH hf.one ho rfl rfl ht (hv.2 0 _ _ rfl rfl) h hp)
  ·cases h
 ·next vs _ _ args argTypes ho =>
  rw [ho] at hv
  cases hm:Hz vs with
  | none=>simp [hm] at h
  | some m =>
   simp only [hm,Option.map_some,Option.some.injEq] at h
   subst h
   exact finq ⟨rfl,rfl,Jk ho rfl (by simpa [cS] using hv) hm⟩
 ·next vs _ _ args argTypes ho =>
  rw [ho] at hv
  cases hm:IM vs with
  | none=>simp [hm] at h
  | some m =>
   simp only [hm,Option.map_some,Option.some.injEq] at h
   subst h
   exact finq ⟨rfl,rfl,JC ho rfl (by simpa [cS] using hv) hm⟩
 ·next args argTypes s x ho =>
  rw [ho] at hv
  obtain ⟨s',x',hsx⟩:∃ s' x',args.toList = [s',x']:=by
   have h2:args.toList.length = 2:=by have:=hv.1;simpa [cS] using this
   match hl:args.toList,h2 with
   | [p,q],_=>exact ⟨p,q,rfl⟩
  have hargs:args = #[s',x']:=by rw [← Array.toArray_toList (xs:=args),hsx]
  subst hargs
  split at h
  ·next t t' ht =>
   cases hb:Nat.beq t t' with
   | false=>simp [hb] at h
   | true =>
    have htt:t = t':=Nat.eq_of_beq_eq_true hb
    subst htt
    simp only [hb,cond_true] at h
    have hat:argTypes = #[t,t]:=by rw [← Array.toArray_toList (xs:=argTypes),ht]
    exact fin (GJ hH hf.one ho rfl rfl hat (hv.2 0 _ _ rfl rfl) (hv.2 1 _ _ rfl rfl) h hp)
  ·cases h
 ·next f args argTypes g caps ds ho =>
  rw [ho] at hv
  obtain ⟨_,_,e,hf,ha⟩:=aI.cons_inv hv
  cases e
  generalize hfv:a.eval f = fv at hf
  cases hglt:Nat.blt g 1000000000 with
  | false=>rw [hglt] at h;cases h
  | true =>
  rw [hglt] at h
  simp only [cond_true] at h
  cases hf with
  | fn _ cs _ hcl hch =>
   rw [pW hglt] at hfv
   have hall:aI E w (args.toList.map a.eval++cs) (ds++caps):=by
    refine ⟨by rw [List.length_append,List.length_append,ha.1,hcl],fun i v d hv' hd'=>?_⟩
    rw [List.getElem?_append] at hv' hd'
    rw [← ha.1] at hd'
    split at hv'
    ·next hlt=>rw [if_pos hlt] at hd'; exact ha.2 i v d hv' hd'
    ·next hge=>rw [if_neg hge] at hd'; exact hch _ v d hv' hd'
   have hcalls:=IU hH hf hC hall h hp
   have hargs:args.map a.eval++cs.toArray = (args.toList.map a.eval++cs).toArray:=by
    rw [← Array.toArray_toList (xs:=args.map a.eval++cs.toArray)]
    simp
   have hrun:(execOp a.eval o).run P w = (callFunc g (args.toList.map a.eval++cs).toArray).run P w:=by
    simp only [execOp,ho,resolve,hfv,Deferred.ofValue,invoke,Sem.run_bind,Sem.run_pure,Result.andThen_ok,Array.empty_append,hargs]
   unfold Oper.wp
   rw [hrun]
   rcases hcalls with ⟨h1,h2⟩ | ⟨v,w',h1,E',hP⟩
   ·rw [h1]
    refine Calls.mono h2 ?_
    rintro e w' ⟨v,rfl,E',hP⟩
    exact hK E' w' v hP
   ·rw [h1]
    exact hK E' w' v hP
 ·cases h
end
end Go.Ax
namespace Go.Ax
open Go.RowKit
def jn (tm:List (Nat × az)) (E:ar) (w:World) (v:Value) (s:az):Prop :=
 (holds tm s.ch = true→af E w v s.v)∧(s.ch.all (fun x=>cP tm x.1) = true→holds tm s.ch = false→v = undef)
structure eL where
  W:World
  ok:Nat→Prop
  mb:Nat→Prop
  gh:Nat→Value:=fun _=>undef
def cA (B:eL) (a:Act) (t:Nat):Value:=if t < 1000000 then a.tmps.getD t undef else B.gh t
theorem jP {B:eL} {a:Act} {t:Nat} (h:t < 1000000):cA B a t = a.tmps.getD t undef:=if_pos h
structure rY (M:Nat→Prop) (n:Nat) (w w':World):Prop where
  os:w'.os = w.os
  tape:w'.tape = w.tape
  output:w'.output = w.output
  size:w.heap.size≤w'.heap.size
  block:∀ k,k < n→¬ M k→w'.heap[k]? = w.heap[k]?
theorem rY.refl (M:Nat→Prop) (n:Nat) (w:World):rY M n w w:=⟨rfl,rfl,rfl,Nat.le_refl _,fun _ _ _=>rfl⟩
theorem rY.below {n:Nat} {w w':World} (h:rY (fun _=>False) n w w'):Below n w w':=⟨h.os,h.tape,h.output,h.size,fun k hk=>h.block k hk (fun h=>h)⟩
structure bd (N:Nat) (B:eL) (σ:St) (E:ar) (a:Act) (w:World):Prop where
  size:a.tmps.size = N
  small:N≤1000000
  defers:a.defers = []
  live:∀ q,σ.nx≤q→¬ E.live q
  heap:aw E w σ.hp
  slots:∀ t s,au σ.tm t = some s→jn σ.tm E w (cA B a t) s
  base:rY B.mb B.W.heap.size B.W w
  own:∀ o b,E.live o→E.conc o = some b→B.W.heap.size≤b∨B.mb b
  okold:∀ b,E.ok b→B.ok b∨B.W.heap.size≤b∨B.mb b
section
variable {P:Program} {N:Nat} {B:eL} {σ:St} {E:ar} {a:Act} {w:World}
theorem zy {a b:Nat} (h:a≠b):Nat.beq a b = false:=by
 cases hb:Nat.beq a b
 ·rfl
 ·exact (h (Nat.eq_of_beq_eq_true hb)).elim
theorem aY (t':Nat) (s:az) (r:List (Nat × az)) (t:Nat):au ((t',s) :: r) t = if t' = t then some s else au r t:=by
 rw [au]
 by_cases h:t' = t
 ·subst h;simp
 ·rw [zy h];simp [h]
theorem jR:∀ (tm:List (Nat × az)) (t:Nat) (s:az) (t':Nat),au (fo tm t s) t' = if t = t' then some s else au tm t'
 | [],t,s,t'=>by rw [fo,aY]
 | (q,x) :: r,t,s,t'=>by
  rw [fo]
  by_cases h:q = t
  ·subst h
   rw [show Nat.beq q q = true by simp,cond_true,aY,aY]
   split <;> rfl
  ·rw [zy h,cond_false]
   cases Nat.blt t q
   ·rw [cond_false,aY,jR r,aY]
    by_cases h1:q = t'
    ·rw [if_pos h1,if_pos h1,if_neg (by omega)]
    ·rw [if_neg h1,if_neg h1]
   ·rw [cond_true,aY]
theorem tJ (f:az→az):∀ (tm:List (Nat × az)) (t:Nat),au (tm.map fun x=>(x.1,f x.2)) t = (au tm t).map f
 | [],t=>rfl
 | (q,x) :: r,t=>by
  rw [List.map_cons,aY,aY,tJ f r]
  split <;> rfl
theorem j8:∀ (kl:List Nat) (tm:List (Nat × az)) (t:Nat),au (oO kl tm) t = (au tm t).map fun s=>{ ch:=s.ch,v:=s.v.killAll kl }
 | [],tm,t=>by simp [oO,V.killAll]
 | o :: r,tm,t=>by
  rw [oO,j8 r,tJ (fun s=>{ ch:=s.ch,v:=s.v.kill o })]
  cases au tm t <;> simp [V.killAll]
def aW:Option az→Option Bool
 | some { v:=.c (.lit (.bool b)), .. }=>some b
 | _=>none
theorem kI {s:Option az} {b:Bool} (h:aW s = some b):∃ ch,s = some { ch,v:=.c (.lit (.bool b)) }:=by
 unfold aW at h
 split at h
 ·next ch b'=>cases h;exact ⟨ch,rfl⟩
 ·cases h
theorem dU (tm:List (Nat × az)) (t:Nat) (w:Bool) (r:aL):holds tm ((t,w) :: r) = ((match aW (au tm t) with | some b=>(b == w) | none=>false)&&holds tm r):=by
 rw [holds]
 congr 1
 cases hb:aW (au tm t) with
 | some b =>
  obtain ⟨ch,e⟩:=kI hb
  rw [e]
  cases w <;> cases b <;> rfl
 | none =>
  split
  ·next h=>rw [h] at hb;simp [aW] at hb
  ·rfl
theorem gn {tm tm':List (Nat × az)}:∀ (ch:aL),(∀ x∈ch,aW (au tm' x.1) = aW (au tm x.1))→holds tm' ch = holds tm ch
 | [],_=>rfl
 | (t,w) :: r,h=>by
  rw [dU,dU,h (t,w) (by simp),gn r fun x hx=>h x (by simp [hx])]
theorem we:∀ (kl:List Nat) (b:Bool),(V.c (.lit (.bool b))).killAll kl = .c (.lit (.bool b))
 | [],_=>rfl
 | o :: r,b=>by rw [V.killAll,V.kill,we r]
theorem Di (o:Nat) (v:V) (b:Bool) (h:v.kill o = .c (.lit (.bool b))):v = .c (.lit (.bool b)):=by
 cases v with
 | c d=>simpa [V.kill] using h
 | agg vs=>simp [V.kill] at h
 | tup vs=>simp [V.kill] at h
 | ptr o' k i j=>rw [V.kill] at h;cases hb:Nat.beq o' o <;> simp [hb] at h
 | row o' k=>rw [V.kill] at h;cases hb:Nat.beq o' o <;> simp [hb] at h
 | sub o' k i j=>rw [V.kill] at h;cases hb:Nat.beq o' o <;> simp [hb] at h
 | dptr k cs j=>simp [V.kill] at h
 | fn f vs=>simp [V.kill] at h
theorem qf:∀ (kl:List Nat) (v:V) (b:Bool),v.killAll kl = .c (.lit (.bool b))→v = .c (.lit (.bool b))
 | [],v,b,h=>h
 | o :: r,v,b,h=>Di o v b (qf r _ b h)
theorem xp (kl:List Nat) (s:Option az):aW (s.map fun s=>{ ch:=s.ch,v:=s.v.killAll kl }) = aW s:=by
 cases s with
 | none=>rfl
 | some s =>
  obtain ⟨ch,v⟩:=s
  by_cases h:∃ b,v = .c (.lit (.bool b))
  ·obtain ⟨b,rfl⟩:=h
   simp [aW,we]
  ·have h2:aW (some { ch,v }) = none:=by
    cases hb:aW (some { ch,v }) with
    | none=>rfl
    | some b=>obtain ⟨ch',e⟩:=kI hb;cases e;exact (h ⟨b,rfl⟩).elim
   rw [h2]
   cases hb:aW (Option.map (fun s:az=>{ ch:=s.ch,v:=s.v.killAll kl }) (some { ch,v })) with
   | none=>rfl
   | some b =>
    obtain ⟨ch',e⟩:=kI hb
    simp only [Option.map_some,Option.some.injEq,az.mk.injEq] at e
    exact (h ⟨b,qf kl v b e.2⟩).elim
theorem GH (kl:List Nat) (tm:List (Nat × az)) (ch:aL):holds (oO kl tm) ch = holds tm ch :=
 gn ch fun x _=>by rw [j8,xp]
theorem Cc {tm:List (Nat × az)} {ch':aL} (h':holds tm ch' = true):∀ (ch:aL),m9 ch ch' = true→holds tm ch = true
 | [],_=>rfl
 | (t,w) :: r,h=>by
  simp only [m9,List.all_cons,Bool.and_eq_true] at h
  obtain ⟨h1,h2⟩:=h
  rw [dU,Bool.and_eq_true]
  refine ⟨?_,Cc h' r h2⟩
  unfold KW at h1
  obtain ⟨y,hy,hyt⟩:=List.any_eq_true.1 h1
  simp only [Bool.and_eq_true,Nat.beq_eq,beq_iff_eq] at hyt
  obtain ⟨e1,e2⟩:=hyt
  have key:∀ (ch':aL),y∈ch'→holds tm ch' = true→(match aW (au tm y.1) with | some b=>(b == y.2) | none=>false) = true:=by
   intro ch'
   induction ch' with
   | nil=>intro hy;simp at hy
   | cons z l ih =>
    intro hy hh
    obtain ⟨zt,zw⟩:=z
    rw [dU,Bool.and_eq_true] at hh
    rcases List.mem_cons.1 hy with rfl | hy
    ·exact hh.1
    ·exact ih hy hh.2
  have:=key ch' hy h'
  rw [← e1, ← e2] at this
  exact this
theorem Lb (f:FuncId) (hlt:Nat.blt f 1000000000 = true):af E w (.func (.func f) #[] #[]) (.fn f []):=by
 have e:lS f [] = .func (.func f) #[] #[]:=pW hlt []
 rw [← e]
 exact .fn f [] [] rfl fun i v d h=>by simp at h
theorem bX (hs:bd N B σ E a w) {ch:aL} (hh:holds σ.tm ch = true) {x:Operand} {v:V} (h:bC σ ch x = some v):af E w (a.eval x) v:=by
 unfold bC at h
 split at h
 ·next t =>
  cases hlow:Nat.blt t 1000000 with
  | false=>simp [hlow] at h
  | true =>
  rw [hlow,cond_true] at h
  split at h
  ·next s hg =>
   cases hc:m9 s.ch ch with
   | false=>simp [hc] at h
   | true =>
    simp only [hc,cond_true,Option.some.injEq] at h
    subst h
    have:=(hs.slots t s hg).1 (Cc hh _ hc)
    rw [jP (by simpa using hlow)] at this
    exact this
  ·cases h
 ·cases h;exact rI _
 ·next f =>
  cases hlt:Nat.blt f 1000000000 with
  | false=>rw [hlt] at h;cases h
  | true=>rw [hlt] at h;cases h;exact Lb _ hlt
 ·cases h
theorem xD (hs:bd N B σ E a w) {ch:aL} (hh:holds σ.tm ch = true):∀ {xs:List Operand} {vs:List V},jN σ ch xs = some vs→aI E w (xs.map a.eval) vs
 | [],vs,h=>by simp [jN] at h;subst h;exact .nil
 | x :: xs,vs,h=>by
  unfold jN at h
  rw [List.mapM_cons] at h
  simp only [Option.bind_eq_bind,Option.pure_def,Option.bind_eq_some_iff,Option.some.injEq] at h
  obtain ⟨d,hd,ds,hds,rfl⟩:=h
  have ih:=xD hs hh (xs:=xs) hds
  refine ⟨by simp [ih.1],fun i v d' hv hd'=>?_⟩
  match i with
  | 0=>simp at hv hd'; subst hv;subst hd'; exact bX hs hh hd
  | i+1=>exact ih.2 i v d' (by simpa using hv) (by simpa using hd')
theorem ky {ops:Array Oper} (hs:bd N B σ E a w) {o:Oper} {ch:aL} (h:ce ops.toList σ.tm o.guard = some ch) (hb:ch.all (fun x=>cP σ.tm x.1) = true):Region.wanted o (yielded ops a.tmps) = holds σ.tm ch:=by
 unfold ce at h
 split at h
 ·next hg=>cases h;simp [Region.wanted,hg,holds]
 ·next j wt hg =>
  split at h
  ·next oj hj =>
   split at h
   ·next t ht =>
    cases hlow:Nat.blt t 1000000 with
    | false=>simp [hlow] at h
    | true =>
    rw [hlow,cond_true] at h
    split at h
    ·next ch' b hgt =>
     cases h
     have hj':ops[j]? = some oj:=by rw [← Array.getElem?_toList];exact hj
     rw [dU,hgt]
     simp only [aW,Region.wanted,hg,yielded,hj',Option.bind_some,ht]
     have hsl:=hs.slots t _ hgt
     rw [jP (by simpa using hlow)] at hsl
     cases hh:holds σ.tm ch' with
     | true =>
      have hr:=(hsl.1 hh).lit_inv
      have:a.tmps[t]? = some (.bool b):=by
       rw [Array.getD_eq_getD_getElem?] at hr
       cases hx:a.tmps[t]? with
       | none=>rw [hx] at hr;simp [undef] at hr
       | some x=>rw [hx] at hr;simpa using hr
      rw [this]
      cases b <;> cases wt <;> rfl
     | false =>
      have hr:=hsl.2 (by simp only [List.all_cons,Bool.and_eq_true] at hb;exact hb.2) hh
      rw [Bool.and_false]
      rw [Array.getD_eq_getD_getElem?] at hr
      cases hx:a.tmps[t]? with
      | none=>rfl
      | some x=>rw [hx] at hr;simp at hr;subst hr;rfl
    ·cases h
   ·cases h
  ·cases h
theorem GG (hs:bd N B σ E a w) {ch:aL} (hh:holds σ.tm ch = true) {c x y:Operand} {v:V} (h:qW σ ch c x y = some v) :
  ∃ b:Bool,a.eval c = .bool b∧af E w (if b then a.eval x else a.eval y) v:=by
 unfold qW at h
 split at h
 ·next b hc =>
  have hcb:=(bX hs hh hc).lit_inv
  refine ⟨b,hcb, ?_⟩
  have key:∀ (want:Bool),b = want→∀ (z:Operand) (u:V),bC σ (nA c want ch) z = some u→af E w (a.eval z) u:=by
   intro want hw z u hz
   cases c with
   | tmp t =>
    have:holds σ.tm ((t,want) :: ch) = true:=by
     rw [dU,hh,Bool.and_true]
     cases hg:au σ.tm t with
     | none=>simp [bC,hg] at hc
     | some s =>
      cases hsc:m9 s.ch ch with
      | false=>simp [bC,hg,hsc] at hc
      | true =>
       have hl:Nat.blt t 1000000 = true:=by
        cases hl:Nat.blt t 1000000 with
        | true=>rfl
        | false=>simp [bC,hl] at hc
       simp only [bC,hg,hsc,hl,cond_true,Option.some.injEq] at hc
       have:aW (some s) = some b:=by obtain ⟨sc,sv⟩:=s;simp only at hc;subst hc;rfl
       rw [this,hw]
       cases want <;> rfl
    exact bX hs this hz
   | const _=>exact bX hs hh hz
   | global _=>exact bX hs hh hz
   | func _=>exact bX hs hh hz
  have bv:∀ {o:Option V} {v:V},Dy o = some v→o = some v:=by
   intro o v h
   unfold Dy at h
   split at h
   ·cases h;rfl
   ·cases h
  cases b with
  | true=>rw [cond_true] at h;exact key true rfl _ _ (bv h)
  | false=>rw [cond_false] at h;exact key false rfl _ _ (bv h)
 ·cases h
theorem IQ (hs:bd N B σ E a w) {ch:aL} (hh:holds σ.tm ch = true) {c x y:Operand} {v:V} (h:m6 σ ch c x y = some v) :
  ∃ b:Bool,a.eval c = .bool b∧af E w (if b then a.eval x else a.eval y) v:=by
 unfold m6 at h
 split at h
 ·next b hc =>
  have hcb:=(bX hs hh hc).lit_inv
  refine ⟨b,hcb, ?_⟩
  split at h
  ·next p q hx hy =>
   cases h
   have key:∀ (want:Bool),b = want→∀ (z:Operand) (u:V),bC σ (nA c want ch) z = some u→af E w (a.eval z) u:=by
    intro want hw z u hz
    cases c with
    | tmp t =>
     have:holds σ.tm ((t,want) :: ch) = true:=by
      rw [dU,hh,Bool.and_true]
      cases hg:au σ.tm t with
      | none=>simp [bC,hg] at hc
      | some s =>
       cases hsc:m9 s.ch ch with
       | false=>simp [bC,hg,hsc] at hc
       | true =>
        have hl:Nat.blt t 1000000 = true:=by
         cases hl:Nat.blt t 1000000 with
         | true=>rfl
         | false=>simp [bC,hl] at hc
        simp only [bC,hg,hsc,hl,cond_true,Option.some.injEq] at hc
        have:aW (some s) = some b:=by obtain ⟨sc,sv⟩:=s;simp only at hc;subst hc;rfl
        rw [this,hw]
        cases want <;> rfl
     exact bX hs this hz
    | const _=>exact bX hs hh hz
    | global _=>exact bX hs hh hz
    | func _=>exact bX hs hh hz
   cases hb:b with
   | true =>
    subst hb
    have:=key true rfl x _ hx
    simpa using this
   | false =>
    subst hb
    have:=key false rfl y _ hy
    simpa using this
  ·cases h
 ·cases h
theorem KB {t t':Nat} {v:Value} (ht:t < a.tmps.size):(a.put (some t) v).tmps.getD t' undef = if t = t' then v else a.tmps.getD t' undef:=by
 simp only [Act.put,Array.getD_eq_getD_getElem?,Array.getElem?_setIfInBounds]
 by_cases h:t = t'
 ·subst h;simp [ht]
 ·simp [h]
theorem Js {t t':Nat} {v:Value} (ht:t < a.tmps.size) (hl:t < 1000000):cA B (a.put (some t) v) t' = if t = t' then v else cA B a t':=by
 unfold cA
 rw [KB ht]
 by_cases h:t = t'
 ·subst h;rw [if_pos hl,if_pos rfl,if_pos rfl]
 ·simp only [if_neg h]
theorem pr (d:Nat) (tm:List (Nat × az)) (t:Nat):au (ld d tm) t = (au tm t).map fun s=>bif s.ch.any (fun y=>Nat.beq y.1 d) then ⟨[], .c .unk⟩ else s :=
 tJ (fun s=>bif s.ch.any (fun y=>Nat.beq y.1 d) then ⟨[], .c .unk⟩ else s) tm t
theorem Ms {d:Nat} {ch:aL} (h:ch.any (fun y=>Nat.beq y.1 d) = false):∀ x∈ch,x.1≠d:=by
 intro x hx e
 have:=List.any_eq_false.1 h x hx
 rw [e] at this
 simp at this
theorem FW {d:Nat} {ch:aL} (h:fQ (some d) ch = true):∀ x∈ch,x.1≠d:=by
 intro x hx e
 have:=List.all_eq_true.1 h x hx
 rw [e] at this
 simp at this
theorem iM {tm:List (Nat × az)} {t:Nat}:cP tm t = (aW (au tm t)).isSome:=by
 unfold cP
 cases h:au tm t with
 | none=>rfl
 | some s =>
  obtain ⟨ch,v⟩:=s
  simp only
  unfold V.isBool aW
  split <;> simp_all
theorem xL {tm:List (Nat × az)}:∀ (ch:aL),holds tm ch = true→ch.all (fun x=>cP tm x.1) = true
 | [],_=>rfl
 | (t,w) :: r,h=>by
  rw [dU,Bool.and_eq_true] at h
  simp only [List.all_cons,Bool.and_eq_true]
  refine ⟨?_,xL r h.2⟩
  rw [iM]
  cases hb:aW (au tm t) with
  | none=>rw [hb] at h;simp at h
  | some b=>rfl
theorem e8 {tm tm':List (Nat × az)} {E':ar} {w':World} {v:Value} {s:az} (h:jn tm E' w' v s) (hb:∀ x∈s.ch,cP tm' x.1 = true→aW (au tm' x.1) = aW (au tm x.1)):jn tm' E' w' v s:=by
 have key:s.ch.all (fun x=>cP tm' x.1) = true→holds tm' s.ch = holds tm s.ch∧s.ch.all (fun x=>cP tm x.1) = true:=by
  intro ha
  have h1:∀ x∈s.ch,aW (au tm' x.1) = aW (au tm x.1):=fun x hx=>hb x hx (List.all_eq_true.1 ha x hx)
  refine ⟨gn _ h1,List.all_eq_true.2 fun x hx=>?_⟩
  have:=List.all_eq_true.1 ha x hx
  rw [iM] at this ⊢
  rw [← h1 x hx];exact this
 refine ⟨fun hh=>?_,fun ha hh=>?_⟩
 ·have:=key (xL _ hh)
  exact h.1 (by rw [← this.1];exact hh)
 ·have:=key ha
  exact h.2 this.2 (by rw [← this.1];exact hh)
theorem EX {d:Nat} {tm:List (Nat × az)} {t:Nat} (h:cP (ld d tm) t = true):aW (au (ld d tm) t) = aW (au tm t):=by
 rw [iM] at h
 rw [pr] at h ⊢
 cases hx:au tm t with
 | none=>rfl
 | some s =>
  rw [hx] at h
  simp only [Option.map_some] at h ⊢
  cases hc:s.ch.any (fun y=>Nat.beq y.1 d) with
  | false=>rfl
  | true=>rw [hc] at h;simp [aW] at h
theorem CK {tm:List (Nat × az)} {E':ar} {w':World} {ch:aL} {d:Nat} {v:V} {v':Value} (hlt:d < a.tmps.size) (hlow:d < 1000000) (hsl:∀ t s,au tm t = some s→jn tm E' w' (cA B a t) s)
  (hcd:∀ x∈ch,x.1≠d) (hv:jn tm E' w' v' { ch,v }):∀ t s,au (fo (ld d tm) d { ch,v }) t = some s→jn (fo (ld d tm) d { ch,v }) E' w' (cA B (a.put (some d) v') t) s:=by
 have hb:∀ c:aL,(∀ x∈c,x.1≠d)→∀ x∈c,cP (fo (ld d tm) d { ch,v }) x.1 = true→aW (au (fo (ld d tm) d { ch,v }) x.1) = aW (au tm x.1):=by
  intro c hc x hx h
  rw [iM,jR,if_neg (fun e=>hc x hx e.symm)] at h
  rw [jR,if_neg (fun e=>hc x hx e.symm)]
  exact EX (by rw [iM];exact h)
 intro t s hg
 rw [jR] at hg
 rw [Js hlt hlow]
 split at hg
 ·next e =>
  subst e;cases hg
  rw [if_pos rfl]
  exact e8 hv (hb ch hcd)
 ·next e =>
  rw [if_neg e]
  rw [pr] at hg
  cases hx:au tm t with
  | none=>rw [hx] at hg;cases hg
  | some y =>
   rw [hx] at hg
   simp only [Option.map_some,Option.some.injEq] at hg
   cases hc:y.ch.any (fun y=>Nat.beq y.1 d) with
   | true =>
    rw [hc,cond_true] at hg;subst hg
    exact ⟨fun _=>.unk _,fun _ h=>by simp [holds] at h⟩
   | false =>
    rw [hc,cond_false] at hg;subst hg
    exact e8 (hsl t _ hx) (hb _ (Ms hc))
theorem H9 {kl:List Nat} {tm:List (Nat × az)} {E':ar} {w':World} (hr:∀ v d,af E w v d→af E' w' v (d.killAll kl)) (hsl:∀ t s,au tm t = some s→jn tm E w (cA B a t) s) :
  ∀ t s,au (oO kl tm) t = some s→jn (oO kl tm) E' w' (cA B a t) s:=by
 intro t s hg
 rw [j8] at hg
 cases hx:au tm t with
 | none=>rw [hx] at hg;cases hg
 | some y =>
  rw [hx] at hg;cases hg
  refine e8 (tm:=tm) ⟨fun h=>hr _ _ ((hsl t y hx).1 h),(hsl t y hx).2⟩ fun x _ _=>?_
  rw [j8,xp]
theorem qQ (hs:bd N B σ E a w) {rc:bj} {E':ar} {w':World} {v':Value} {M:Nat} (hM:σ.nx≤M) (hnid:rc.nid+8≤M) (hP:bU E w σ.hp rc.nid rc.res E' w' v') (hh:holds σ.tm rc.ch = true)
  (hd:gg N rc.dst = true) (hn:rc.ch.isEmpty = true∨fQ rc.dst rc.ch = true):bd N B { after σ rc with nx:=M } E' (a.put rc.dst v') w':=by
 have hlive:∀ q,M≤q→¬ E'.live q:=by
  intro q hq h
  rcases hP.live q h with h | h
  ·exact hs.live q (by omega) h
  ·omega
 have hown:∀ o b,E'.live o→E'.conc o = some b→B.W.heap.size≤b∨B.mb b:=by
  intro o b ho h
  rcases hP.st.concnew o b ho h with ⟨o,h1,h2⟩ | h
  ·exact hs.own o b h1 h2
  ·have:=hs.base.size;exact .inl (by omega)
 have hold:∀ b,E'.ok b→B.ok b∨B.W.heap.size≤b∨B.mb b:=by
  intro b hb
  rcases hP.st.okold b hb with h | h | ⟨o,h1,h2⟩
  ·exact hs.okold b h
  ·have:=hs.base.size;exact .inr (.inl (by omega))
  ·exact .inr (hs.own o b h1 h2)
 have hbase:rY B.mb B.W.heap.size B.W w':=by
  refine ⟨hP.st.os.trans hs.base.os,hP.st.tape.trans hs.base.tape,hP.st.output.trans hs.base.output,Nat.le_trans hs.base.size hP.st.size,fun k hk hm=>?_⟩
  rw [hP.st.blk k (by have:=hs.base.size;omega) fun o ho h=>by
   rcases hs.own o k ho h with h | h
   ·omega
   ·exact hm h]
  exact hs.base.block k hk hm
 have hkill:=H9 (kl:=rc.res.kill) (E':=E') (w':=w') (fun v d h=>h.step hP.st hs.heap.sep hs.heap.oklt) hs.slots
 cases hdst:rc.dst with
 | none =>
  refine ⟨hs.size,hs.small,hs.defers,hlive,hP.heap,fun t s hg=>?_,hbase,hown,hold⟩
  simp only [after,hdst] at hg ⊢
  exact hkill t s hg
 | some d =>
  rw [hdst] at hd hn
  simp only [gg,Nat.blt_eq] at hd
  have hlt:d < a.tmps.size:=by rw [hs.size];exact hd
  have hcd:∀ x∈rc.ch,x.1≠d:=by
   rcases hn with hn | hn
   ·intro x hx;rw [List.isEmpty_iff.1 hn] at hx;simp at hx
   ·exact FW hn
  refine ⟨by simp [Act.put,hs.size],hs.small,hs.defers,hlive,hP.heap, ?_,hbase,hown,hold⟩
  simp only [after,hdst]
  refine CK hlt (by have:=hs.small;omega) hkill hcd ⟨fun _=>hP.val,fun _ h=>?_⟩
  rw [GH,hh] at h
  cases h
end
end Go.Ax
namespace Go.Ax
open Go.RowKit
section
variable {P:Program} {N:Nat} {B:eL} {σ σ':St} {E:ar} {a:Act} {w:World} {C:FuncId→Option CC}
theorem yW (hs:bd N B σ E a w) {rc:bj} {M:Nat} (hf:¬ E.live rc.nid) (hM:σ.nx≤M) (hnid:rc.nid+8≤M) (hh:holds σ.tm rc.ch = false) (he:rc.res.eff = []) (hk:rc.res.kill = []) (hn:fQ rc.dst rc.ch = true)
  (hd:gg N rc.dst = true):bd N B { after σ rc with nx:=M } (E.next rc.nid none 0 0 E.ok) (a.put rc.dst undef) w:=by
 have hS:cQ E w [] (E.next rc.nid none 0 0 E.ok) w:=ck hf none 0 0 E.ok (.refl _ _) (by simp) (fun _ h=>h) (fun _ h=>.inl h)
 have hN:aw (E.next rc.nid none 0 0 E.ok) w σ.hp:=cB hf hs.heap (.refl _ _) (by simp) (fun _ h=>h) (fun _ h=>.inl h) hs.heap.oklt
 have hown:∀ o b,(E.next rc.nid none 0 0 E.ok).live o→(E.next rc.nid none 0 0 E.ok).conc o = some b→B.W.heap.size≤b∨B.mb b:=by
  intro o b ho h
  rcases hS.concnew o b ho h with ⟨o,h1,h2⟩ | h
  ·exact hs.own o b h1 h2
  ·have:=hs.base.size;exact .inl (by omega)
 have hlive:∀ q,M≤q→¬ (E.next rc.nid none 0 0 E.ok).live q:=by
  rintro q hq (h | h)
  ·omega
  ·exact hs.live q (by omega) h
 have hslot:∀ t s,au σ.tm t = some s→jn σ.tm (E.next rc.nid none 0 0 E.ok) w (cA B a t) s:=fun t s hg =>
  ⟨fun h=>fk hs.heap hS ((hs.slots t s hg).1 h),(hs.slots t s hg).2⟩
 have hkT:oO rc.res.kill σ.tm = σ.tm:=by rw [hk];rfl
 have hkH:rc.res.eff++dt rc.res.kill σ.hp = σ.hp:=by rw [he,hk];rfl
 cases hdst:rc.dst with
 | none =>
  refine ⟨hs.size,hs.small,hs.defers,hlive,by simp only [after];rw [hkH];exact hN,fun t s hg=>?_,hs.base,hown,hs.okold⟩
  simp only [after,hdst] at hg ⊢
  rw [hkT] at hg ⊢
  exact hslot t s hg
 | some d =>
  rw [hdst] at hd hn
  simp only [gg,Nat.blt_eq] at hd
  have hlt:d < a.tmps.size:=by rw [hs.size];exact hd
  refine ⟨by simp [Act.put,hs.size],hs.small,hs.defers,hlive,by simp only [after];rw [hkH];exact hN, ?_,hs.base,hown,hs.okold⟩
  simp only [after,hdst]
  rw [hkT]
  refine CK hlt (by have:=hs.small;omega) hslot (FW hn) ⟨fun h=>?_,fun _ _=>rfl⟩
  have h':holds σ.tm rc.ch = true:=h
  rw [hh] at h'
  cases h'
theorem Kq {tm:List (Nat × az)} {ch:aL} {ps:List Prop} (h:∀ p∈la tm ch ps,p) (hh:holds tm ch = true):∀ p∈ps,p:=by
 intro p hp
 cases ch with
 | nil=>exact h p hp
 | cons x l=>exact h _ (List.mem_map.2 ⟨p,hp,rfl⟩) hh
theorem ot {tm:List (Nat × az)} {c ch:aL} (h:ch.all (fun x=>cU tm c x.1) = true):ch.all (fun x=>cP tm x.1) = true:=by
 refine List.all_eq_true.2 fun x hx=>?_
 have:=List.all_eq_true.1 h x hx
 unfold cU at this
 unfold cP
 split at this
 ·simp only [Bool.and_eq_true] at this;exact this.1
 ·cases this
theorem lJ {ops:List Oper} {nid:Nat} {o:Oper} {rc:bj} (h:qe P C N ops σ nid o = some rc) :
  gg N o.dst = true∧ce ops σ.tm o.guard = some rc.ch∧rc.ch.all (fun x=>cU σ.tm rc.ch x.1) = true∧jH P C σ nid rc.ch o = some (rc.vs,rc.res) ∧
   (rc.ch.isEmpty||fQ o.dst rc.ch) = true∧rc.dst = o.dst∧rc.nid = nid∧rc.rds = jB (cS o.op)++rc.ch.map (·.1)∧rc.reach = aO σ.hp (lk o rc.vs)∧rc.rws = lE σ.hp (lk o rc.vs):=by
 unfold qe at h
 cases hd:gg N o.dst with
 | false=>simp [hd] at h
 | true =>
  simp only [hd,cond_true] at h
  split at h
  ·next ch hch =>
   cases hb:ch.all (fun x=>cU σ.tm ch x.1) with
   | false=>simp [hb] at h
   | true =>
    simp only [hb,cond_true] at h
    split at h
    ·next vs r hr =>
     cases hc:(ch.isEmpty||fQ o.dst ch) with
     | false=>simp [hc] at h
     | true =>
      simp only [hc,cond_true,Option.some.injEq] at h
      subst h
      exact ⟨rfl,hch,hb,hr,hc,rfl,rfl,rfl,rfl,rfl⟩
    ·cases h
  ·cases h
theorem BH {ops:List Oper} {nid:Nat} {o:Oper} {rc:bj} (h:mr P C N ops σ nid o = some rc):qe P C N ops σ nid o = some rc∧wA rc = true:=by
 unfold mr at h
 split at h
 ·next r hr =>
  cases hn:wA r with
  | false=>rw [hn] at h;cases h
  | true=>rw [hn] at h;cases h;exact ⟨hr,hn⟩
 ·cases h
def eC (P:Program) (C:FuncId→Option CC) (N:Nat) (ops:List Oper) (σ:St) (nid:Nat) (o:Oper) (rc:bj):Prop :=
 (qe P C N ops σ nid o = some rc∧(holds σ.tm rc.ch = true∨wA rc = true)) ∨
 (rc = LL P o rc.ch nid∧gg N o.dst = true∧ce ops σ.tm o.guard = some rc.ch∧rc.ch.all (fun x=>cU σ.tm rc.ch x.1) = true∧fQ o.dst rc.ch = true∧holds σ.tm rc.ch = false)
theorem eC.of {ops:List Oper} {nid:Nat} {o:Oper} {rc:bj} (h:mr P C N ops σ nid o = some rc):eC P C N ops σ nid o rc:=.inl ⟨(BH h).1, .inr (BH h).2⟩
theorem KO {H:ab} {nid:Nat} {ch:aL} {o:Oper} {vs:List V} {r:aB} (h:wm P C H nid ch o vs = some r) (hp:∀ p∈r.pre,p):oB P C H nid o vs = some r:=by
 unfold wm at h
 split at h
 ·next r' hr=>cases h;exact hr
 ·cases hc:ch.isEmpty with
  | true=>rw [hc] at h;cases h
  | false =>
   rw [hc] at h;cases h
   have:=hp (false = true) (by simp)
   cases this
theorem AE (hC:∀ f con,C f = some con→bq P f con) (hs:bd N B σ E a w) {ops:Array Oper} {i:Nat} {o:Oper} (hi:ops[i]? = some o) {nid M:Nat} (hf:eA E nid) (hM:σ.nx≤M) (hnid:nid+8≤M)
  {rc:bj} (h0:eC P C N ops.toList σ nid o rc) (hp:∀ p∈la σ.tm rc.ch rc.res.pre,p) {K:Act→World→Prop} {Q:Exit→Act→World→Prop}
  (hK:∀ E' a' w',bd N B { after σ rc with nx:=M } E' a' w'→(∀ q,E'.live q→E.live q∨nid≤q∧q < nid+8)→K a' w'):wpOp P ops Q i K a w:=by
 rcases h0 with ⟨h,hne0⟩ | ⟨e,hd,hch,hb,hn,hh⟩
 rotate_left
 ·have e1:rc.dst = o.dst:=by rw [e];rfl
  have e2:rc.nid = nid:=by rw [e];rfl
  rw [← e1] at hd hn
  rw [← e2] at hnid hf hK
  unfold wpOp
  rw [hi]
  simp only
  rw [ky hs hch (ot hb), ← e1,hh,if_neg (by simp)]
  exact hK _ _ _ (yW hs hf.one hM hnid hh (by rw [e];rfl) (by rw [e];rfl) hn hd) bA
 obtain ⟨hd,hch,hb,hr,hc,e1,e2,_,_⟩:=lJ h
 rw [← e1] at hd hc
 rw [← e2] at hnid hf hK
 unfold wpOp
 rw [hi]
 simp only
 rw [ky hs hch (ot hb), ← e1]
 cases hh:holds σ.tm rc.ch with
 | false =>
  rw [if_neg (by simp)]
  have hne:rc.ch.isEmpty = false:=by
   cases hx:rc.ch with
   | nil=>rw [hx] at hh;simp [holds] at hh
   | cons=>rfl
  rw [hne,Bool.false_or] at hc
  have hno:=hne0.resolve_left (by rw [hh];simp)
  unfold wA at hno
  rw [hne,Bool.false_or] at hno
  simp only [Bool.and_eq_true,List.isEmpty_iff] at hno
  exact hK _ _ _ (yW hs hf.one hM hnid hh hno.1 hno.2 hc hd) bA
 | true =>
  rw [if_pos rfl]
  left
  have hpp:=Kq hp hh
  have hn:rc.ch.isEmpty = true∨fQ rc.dst rc.ch = true:=by
   simpa only [Bool.or_eq_true] using hc
  unfold jH at hr
  split at hr
  ·next c x y ho =>
   have hpk:∃ v,rc.res = { val:=v }∧∃ b:Bool,a.eval c = .bool b∧af E w (if b then a.eval x else a.eval y) v:=by
    cases hv:m6 σ rc.ch c x y with
    | some v =>
     simp only [hv,Option.some.injEq,Prod.mk.injEq] at hr
     exact ⟨v,hr.2.symm,IQ hs hh hv⟩
    | none =>
     simp only [hv] at hr
     cases hv2:qW σ rc.ch c x y with
     | none=>simp [hv2] at hr
     | some v =>
      simp only [hv2,Option.map_some,Option.some.injEq,Prod.mk.injEq] at hr
      exact ⟨v,hr.2.symm,GG hs hh hv2⟩
   obtain ⟨v,hrv,b,hb,hrep⟩:=hpk
   have hr:([]:List V) = []∧({ val:=v }:aB) = rc.res:=⟨rfl,hrv.symm⟩
   ·unfold Oper.wp
    have hrun:(execOp a.eval o).run P w = .ok (.value (if b then a.eval x else a.eval y)) w:=by
     simp [execOp,ho,hb,asBool]
    rw [hrun]
    have hP:bU E w σ.hp rc.nid rc.res (E.next rc.nid none 0 0 E.ok) w (if b then a.eval x else a.eval y):=by
     have hS:cQ E w [] (E.next rc.nid none 0 0 E.ok) w:=ck hf.one none 0 0 E.ok (.refl _ _) (by simp) (fun _ h=>h) (fun _ h=>.inl h)
     rw [← hr.2]
     exact ⟨hS,cB hf.one hs.heap (.refl _ _) (by simp) (fun _ h=>h) (fun _ h=>.inl h) hs.heap.oklt,fk hs.heap hS hrep,bA⟩
    have hfin:=hK _ _ _ (qQ hs hM hnid hP hh hd hn) hP.live
    rw [e1] at hfin
    exact hfin
  ·next op hnp =>
   split at hr
   ·next vs hvs =>
    cases hov0:wm P C σ.hp nid rc.ch o vs with
    | none=>simp [hov0] at hr
    | some r =>
     simp only [hov0,Option.map_some,Option.some.injEq,Prod.mk.injEq] at hr
     obtain ⟨rfl,rfl⟩:=hr
     have hov:=KO hov0 hpp
     rw [← e2] at hov
     refine Lt hs.heap hf hC (xD hs hh hvs) hov hpp fun E' w' v' hP=>?_
     have hfin:=hK _ _ _ (qQ hs hM hnid hP hh hd hn) hP.live
     rw [e1] at hfin
     exact hfin
   ·cases hr
theorem Gz (tm:List (Nat × az)) (t:Nat):au (lW tm) t = (au tm t).map fun s=>bif s.ch.isEmpty then s else ⟨[], .c .unk⟩ :=
 tJ (fun s=>bif s.ch.isEmpty then s else ⟨[], .c .unk⟩) tm t
theorem yD (hs:bd N B σ E a w):bd N B { σ with tm:=lW σ.tm } E a w:=by
 refine ⟨hs.size,hs.small,hs.defers,hs.live,hs.heap,fun t s hg=>?_,hs.base,hs.own,hs.okold⟩
 simp only at hg ⊢
 rw [Gz] at hg
 cases hx:au σ.tm t with
 | none=>rw [hx] at hg;cases hg
 | some y =>
  rw [hx] at hg
  simp only [Option.map_some,Option.some.injEq] at hg
  cases hc:y.ch.isEmpty with
  | false =>
   rw [hc,cond_false] at hg;subst hg
   exact ⟨fun _=>.unk _,fun _ h=>by simp [holds] at h⟩
  | true =>
   rw [hc,cond_true] at hg;subst hg
   have hch:y.ch = []:=List.isEmpty_iff.1 hc
   have:=hs.slots t y hx
   exact ⟨fun _=>this.1 (by rw [hch];rfl),fun _ h=>by rw [hch] at h;simp [holds] at h⟩
inductive wG (P:Program) (C:FuncId→Option CC) (N:Nat) (all:List Oper):List Oper→St→St→Prop
  | nil (σ:St):wG P C N all [] σ { σ with tm:=lW σ.tm }
  | cons (o:Oper) (r:List Oper) (σ σ':St) (rc:bj) (h:eC P C N all σ σ.nx o rc) (hp:∀ p∈la σ.tm rc.ch rc.res.pre,p) (hr:wG P C N all r { after σ rc with nx:=σ.nx+8 } σ'):wG P C N all (o :: r) σ σ'
theorem yS (hC:∀ f con,C f = some con→bq P f con) {ops:Array Oper} {Q:Exit→Act→World→Prop}:∀ (rest:List Oper) (i:Nat) (σ σ':St) (E:ar) (a:Act) (w:World),
  ops.toList.drop i = rest→wG P C N ops.toList rest σ σ'→bd N B σ E a w→(∀ E' a' w',bd N B σ' E' a' w'→Q .normal a' w')→wpOps P ops Q (List.range' i rest.length) a w
 | [],i,σ,σ',E,a,w,hd,hg,hs,hQ=>by
  cases hg
  exact hQ _ _ _ (yD hs)
 | o :: rest,i,σ,σ',E,a,w,hd,hg,hs,hQ=>by
  cases hg with
  | cons _ _ _ _ rc h1 hp hr =>
   have hi:ops[i]? = some o:=by
    have:=congrArg (·[0]?) hd
    simpa using this
   rw [List.length_cons,List.range'_succ,wpOps_cons]
   refine AE (M:=σ.nx+8) hC hs hi (.of hs.live (Nat.le_refl _)) (Nat.le_add_right _ _) (Nat.le_refl _) h1 hp fun E' a' w' hs' _=>?_
   refine yS hC rest (i+1) { after σ rc with nx:=σ.nx+8 } _ E' a' w' ?_ hr hs' hQ
   rw [← List.drop_drop,hd]
   rfl
theorem J3 (hC:∀ f con,C f = some con→bq P f con) {id:Nat} {ops:Array Oper} {Q:Exit→Act→World→Prop} (hg:wG P C N ops.toList ops.toList σ σ')
  (hs:bd N B σ E a w) (hQ:∀ E' a' w',bd N B σ' E' a' w'→Q .normal a' w'):(Code.region id ops false).wp P Q a w:=by
 refine wp_region ?_
 have:=yS hC (Q:=Q) ops.toList 0 σ σ' E a w rfl hg hs hQ
 rw [List.range_eq_range']
 simpa using this
end
end Go.Ax
namespace Go.Ax
open Go.RowKit
section
variable {P:Program} {N:Nat} {B:eL} {σ σ':St} {E:ar} {a:Act} {w:World} {C:FuncId→Option CC}
theorem zc:∀ {ps:List Prop} {Q:Prop},AP ps Q→(∀ p∈ps,p)∧Q
 | [],_,h=>⟨fun p hp=>by simp at hp,h⟩
 | p :: ps,Q,h=>by
  obtain ⟨h1,h2⟩:=zc h.2
  refine ⟨fun q hq=>?_,h2⟩
  rcases List.mem_cons.1 hq with rfl | hq
  ·exact h.1
  ·exact h1 q hq
theorem Kb {ps:List Prop} {Q Q':Prop} (hq:Q→Q'):AP ps Q→AP ps Q':=by
 induction ps with
 | nil=>exact hq
 | cons p ps ih=>exact fun h=>⟨h.1,ih h.2⟩
theorem E4 (hs:bd N B σ E a w) {t:Nat} {s:az} (hg:au σ.tm t = some s):bd N B { σ with tm:=fo σ.tm t s } E a w:=by
 have hx:∀ x,au (fo σ.tm t s) x = au σ.tm x:=by
  intro x
  rw [jR]
  split
  ·next e=>subst e;exact hg.symm
  ·rfl
 refine ⟨hs.size,hs.small,hs.defers,hs.live,hs.heap,fun q y hq=>?_,hs.base,hs.own,hs.okold⟩
 simp only at hq ⊢
 rw [hx] at hq
 exact e8 (tm:=σ.tm) (hs.slots q y hq) fun z _ _=>by rw [hx]
theorem Fn (hC:∀ f con,C f = some con→bq P f con) (hs:bd N B σ E a w) {ops:Array Oper} {i:Nat} {o:Oper} (hi:ops[i]? = some o) {ch:aL} (hch:ce ops.toList σ.tm o.guard = some ch)
  (hb:ch.all (fun x=>cP σ.tm x.1) = true) (hh:holds σ.tm ch = true) {k:St→Prop} (h:nb P C N ops.toList σ o k) {K:Act→World→Prop} {Q:Exit→Act→World→Prop}
  (hK:∀ σ' E' a' w',k σ'→bd N B σ' E' a' w'→K a' w'):wpOp P ops Q i K a w:=by
 unfold nb at h
 split at h
 ·next rc hr =>
  obtain ⟨hp,hk⟩:=zc h
  have hr':mr P C N (#[{ o with guard:=none }]:Array Oper).toList σ σ.nx { o with guard:=none } = some rc:=hr
  have hch0:rc.ch = []:=by
   obtain ⟨_,h1,_⟩:=lJ (BH hr).1
   have:ce ops.toList σ.tm none = some rc.ch:=h1
   simpa [ce] using this.symm
  have:=AE (Q:=Q) (M:=σ.nx+8) hC hs (ops:=#[{ o with guard:=none }]) (i:=0) rfl (.of hs.live (Nat.le_refl _)) (Nat.le_add_right _ _) (Nat.le_refl _) (.of hr') (by rw [hch0];exact hp)
   (K:=K) fun E' a' w' hs' _=>hK _ E' a' w' hk hs'
  unfold wpOp at this ⊢
  rw [hi]
  simp only
  rw [ky hs hch hb,hh,if_pos rfl]
  have e:(#[{ o with guard:=none }]:Array Oper)[0]? = some { o with guard:=none }:=rfl
  rw [e] at this
  simp only [Region.wanted,if_true] at this
  exact this
 ·exact h.elim
theorem BQ (hs:bd N B σ E a w) {ops:Array Oper} {i:Nat} {o:Oper} (hi:ops[i]? = some o) {ch:aL} (hch:ce ops.toList σ.tm o.guard = some ch)
  (hb:ch.all (fun x=>cP σ.tm x.1) = true) (hh:holds σ.tm ch = false) {k:St→Prop} (h:nf N σ o ch k) {K:Act→World→Prop} {Q:Exit→Act→World→Prop}
  (hK:∀ σ' E' a' w',k σ'→bd N B σ' E' a' w'→K a' w'):wpOp P ops Q i K a w:=by
 unfold nf at h
 cases hc:(gg N o.dst&&fQ o.dst ch) with
 | false=>rw [hc] at h;exact h.elim
 | true =>
  rw [hc,cond_true] at h
  rw [Bool.and_eq_true] at hc
  unfold wpOp
  rw [hi]
  simp only
  rw [ky hs hch hb,hh,if_neg (by simp)]
  exact hK _ _ _ _ h (yW hs (rc:=AG o ch σ.nx) (hs.live _ (Nat.le_refl _)) (Nat.le_add_right _ _) (Nat.le_refl _) hh rfl rfl hc.2 hc.1)
theorem J6 (hC:∀ f con,C f = some con→bq P f con) {ops:Array Oper} {Q:Exit→Act→World→Prop}:∀ (rest:List Oper) (i:Nat) (σ:St) (K:St→Prop) (E:ar) (a:Act) (w:World),
  ops.toList.drop i = rest→qB P C N ops.toList rest σ K→bd N B σ E a w→(∀ σ' E' a' w',K σ'→bd N B σ' E' a' w'→Q .normal a' w')→wpOps P ops Q (List.range' i rest.length) a w
 | [],i,σ,K,E,a,w,hd,hg,hs,hQ=>by
  rw [qB] at hg
  exact hQ _ _ _ _ hg (yD hs)
 | o :: rest,i,σ,K,E,a,w,hd,hg,hs,hQ=>by
  have hi:ops[i]? = some o:=by
   have:=congrArg (·[0]?) hd
   simpa using this
  have hd':ops.toList.drop (i+1) = rest:=by
   rw [← List.drop_drop,hd];rfl
  have next:∀ σ' E' a' w',qB P C N ops.toList rest σ' K→bd N B σ' E' a' w'→wpOps P ops Q (List.range' (i+1) rest.length) a' w' :=
   fun σ' E' a' w' h hs'=>J6 hC rest (i+1) σ' K E' a' w' hd' h hs' hQ
  rw [List.length_cons,List.range'_succ,wpOps_cons]
  rw [qB] at hg
  split at hg
  ·next hgn=>exact Fn hC hs hi (ch:=[]) (by rw [hgn];rfl) rfl rfl hg next
  ·next g hgn =>
   split at hg
   ·next t wt ch hch =>
    cases hb:((t,wt) :: ch).all (fun x=>cU σ.tm ((t,wt) :: ch) x.1) with
    | false=>rw [hb] at hg;exact hg.elim
    | true =>
     rw [hb,cond_true] at hg
     have hbs:=ot hb
     rw [← hgn] at hch
     split at hg
     ·next c0 b hgt =>
      cases hh:holds σ.tm ch with
      | false =>
       rw [hh,cond_false] at hg
       exact BQ hs hi hch hbs (by rw [dU,hh,Bool.and_false]) hg next
      | true =>
       rw [hh,cond_true] at hg
       have hhold:holds σ.tm ((t,wt) :: ch) = (b == wt):=by rw [dU,hh,Bool.and_true,hgt];rfl
       have hsame:∀ b',b = b'→(∀ x,au (fo σ.tm t ⟨c0,bl b'⟩) x = au σ.tm x):=by
        intro b' e x
        subst e
        rw [jR]
        split
        ·next e=>subst e;exact hgt.symm
        ·rfl
       have hgc:∀ b',b = b'→ce ops.toList (fo σ.tm t ⟨c0,bl b'⟩) o.guard = some ((t,wt) :: ch):=by
        intro b' e
        rw [← hch]
        unfold ce
        split
        ·rfl
        ·split
         ·split
          ·rw [hsame b' e]
          ·rfl
         ·rfl
       have hbc:∀ b',b = b'→((t,wt) :: ch).all (fun x=>cP (fo σ.tm t ⟨c0,bl b'⟩) x.1) = true:=by
        intro b' e
        rw [← hbs]
        congr 1
        funext x
        unfold cP
        rw [hsame b' e]
       have hho:∀ b',b = b'→holds (fo σ.tm t ⟨c0,bl b'⟩) ((t,wt) :: ch) = (b' == wt):=by
        intro b' e
        rw [gn (tm:=σ.tm) _ fun x _=>by rw [hsame b' e],hhold,e]
       cases hbv:b with
       | true =>
        rw [hbv,cond_true] at hg
        have hs':=E4 hs hgt
        rw [hbv] at hs'
        cases wt with
        | true=>rw [cond_true] at hg;exact Fn hC hs' hi (hgc true hbv) (hbc true hbv) (hho true hbv) hg next
        | false=>rw [cond_false] at hg;exact BQ hs' hi (hgc true hbv) (hbc true hbv) (hho true hbv) hg next
       | false =>
        rw [hbv,cond_false] at hg
        have hs':=E4 hs hgt
        rw [hbv] at hs'
        cases wt with
        | true=>rw [cond_true] at hg;exact BQ hs' hi (hgc false hbv) (hbc false hbv) (hho false hbv) hg next
        | false=>rw [cond_false] at hg;exact Fn hC hs' hi (hgc false hbv) (hbc false hbv) (hho false hbv) hg next
     ·exact hg.elim
   ·exact hg.elim
theorem HQ (hC:∀ f con,C f = some con→bq P f con) {id:Nat} {ops:Array Oper} {Q:Exit→Act→World→Prop} {K:St→Prop} (hg:qB P C N ops.toList ops.toList σ K)
  (hs:bd N B σ E a w) (hQ:∀ σ' E' a' w',K σ'→bd N B σ' E' a' w'→Q .normal a' w'):(Code.region id ops false).wp P Q a w:=by
 refine wp_region ?_
 have:=J6 hC (Q:=Q) ops.toList 0 σ K E a w rfl hg hs hQ
 rw [List.range_eq_range']
 simpa using this
theorem tw {all:List Oper} {o:Oper} {k k':St→Prop} (hk:∀ σ,k σ→k' σ) (h:nb P C N all σ o k):nb P C N all σ o k':=by
 unfold nb at h ⊢
 split at h
 ·next rc hr=>exact Kb (hk _) h
 ·exact h.elim
theorem sP {o:Oper} {ch:aL} {k k':St→Prop} (hk:∀ σ,k σ→k' σ) (h:nf N σ o ch k):nf N σ o ch k':=by
 unfold nf at h ⊢
 cases hc:(gg N o.dst&&fQ o.dst ch) with
 | false=>rw [hc] at h;exact h.elim
 | true=>rw [hc,cond_true] at h;rw [cond_true];exact hk _ h
end
end Go.Ax
namespace Go.Ax
open Go.RowKit
section
variable {P:Program} {N:Nat} {B:eL} {σ σ':St} {E:ar} {a:Act} {w:World} {C:FuncId→Option CC}
mutual
theorem kill_noUnk (o:Nat):∀ v:V,(v.kill o).noUnk = true→v.kill o = v
 | .c _,_=>rfl
 | .agg vs,h=>by simp only [V.kill,V.noUnk] at h ⊢; rw [kills_noUnk o vs h]
 | .tup vs,h=>by simp only [V.kill,V.noUnk] at h ⊢; rw [kills_noUnk o vs h]
 | .ptr o' k i j,h=>by
  rw [V.kill] at h ⊢
  cases hb:Nat.beq o' o
  ·rfl
  ·rw [hb] at h;simp [V.noUnk] at h
 | .row o' k,h=>by
  rw [V.kill] at h ⊢
  cases hb:Nat.beq o' o
  ·rfl
  ·rw [hb] at h;simp [V.noUnk] at h
 | .sub o' k i j,h=>by
  rw [V.kill] at h ⊢
  cases hb:Nat.beq o' o
  ·rfl
  ·rw [hb] at h;simp [V.noUnk] at h
 | .dptr ..,_=>rfl
 | .fn _ vs,h=>by simp only [V.kill,V.noUnk] at h ⊢; rw [kills_noUnk o vs h]
theorem kills_noUnk (o:Nat):∀ vs:List V,V.noUnks (V.kills o vs) = true→V.kills o vs = vs
 | [],_=>rfl
 | v :: r,h=>by
  simp only [V.kills,V.noUnks,Bool.and_eq_true] at h ⊢
  rw [kill_noUnk o v h.1,kills_noUnk o r h.2]
end
theorem kO:∀ (kl:List Nat) (v:V),(v.killAll kl).noUnk = true→v.killAll kl = v
 | [],_,_=>rfl
 | o :: r,v,h=>by
  rw [V.killAll] at h ⊢
  have h1:=kO r _ h
  rw [h1] at h ⊢
  exact kill_noUnk o v h
mutual
theorem kill_norefs (o:Nat):∀ v:V,v.refs = []→v.kill o = v
 | .c _,_=>rfl
 | .agg vs,h=>by simp only [V.kill];rw [kills_norefs o vs h]
 | .tup vs,h=>by simp only [V.kill];rw [kills_norefs o vs h]
 | .ptr o' k i j,h=>by simp [V.refs] at h
 | .row o' k,h=>by simp [V.refs] at h
 | .sub o' k i j,h=>by simp [V.refs] at h
 | .dptr ..,_=>rfl
 | .fn _ vs,h=>by simp only [V.kill];rw [kills_norefs o vs h]
theorem kills_norefs (o:Nat):∀ vs:List V,V.refss vs = []→V.kills o vs = vs
 | [],_=>rfl
 | v :: r,h=>by
  simp only [V.refss,List.append_eq_nil_iff] at h
  simp only [V.kills]
  rw [kill_norefs o v h.1,kills_norefs o r h.2]
end
mutual
theorem kill_disj (o:Nat):∀ (v:V),o ∉ v.refs→v.kill o = v
 | .c _,_=>rfl
 | .agg vs,h=>by rw [V.kill,kills_disj o vs (by rw [V.refs] at h;exact h)]
 | .tup vs,h=>by rw [V.kill,kills_disj o vs (by rw [V.refs] at h;exact h)]
 | .ptr o' k i j,h=>by
  rw [V.kill]
  cases hb:Nat.beq o' o with
  | false=>rfl
  | true=>exact (h (by rw [V.refs,Nat.eq_of_beq_eq_true hb];simp)).elim
 | .row o' k,h=>by
  rw [V.kill]
  cases hb:Nat.beq o' o with
  | false=>rfl
  | true=>exact (h (by rw [V.refs,Nat.eq_of_beq_eq_true hb];simp)).elim
 | .sub o' k i j,h=>by
  rw [V.kill]
  cases hb:Nat.beq o' o with
  | false=>rfl
  | true=>exact (h (by rw [V.refs,Nat.eq_of_beq_eq_true hb];simp)).elim
 | .dptr ..,_=>rfl
 | .fn f vs,h=>by rw [V.kill,kills_disj o vs (by rw [V.refs] at h;exact h)]
theorem kills_disj (o:Nat):∀ (vs:List V),o ∉ V.refss vs→V.kills o vs = vs
 | [],_=>rfl
 | v :: r,h=>by
  rw [V.refss,List.mem_append] at h
  rw [V.kills,kill_disj o v (fun e=>h (.inl e)),kills_disj o r (fun e=>h (.inr e))]
end
theorem gK:∀ (kl:List Nat) (v:V),(∀ q∈v.refs,q ∉ kl)→v.killAll kl = v
 | [],_,_=>rfl
 | o :: r,v,h=>by
  rw [V.killAll,kill_disj o v (fun ho=>h o ho (by simp)),gK r v fun q hq hr=>h q hq (by simp [hr])]
theorem jQ {a b:List Nat} (h:Im a b = true):∀ x∈a,x ∉ b:=by
 intro x hx hb
 have:=List.all_eq_true.1 h x hx
 simp only [Bool.not_eq_true'] at this
 have:=List.any_eq_false.1 this x hb
 simp at this
theorem tX {H H':ab} {o k:Nat} (h:H.get o = H'.get o):pP H o k = pP H' o k:=by unfold pP;rw [h]
theorem ui {H H':ab} {o k off n:Nat} (h:H.get o = H'.get o):pH H o k off n = pH H' o k off n:=by unfold pH;rw [h]
theorem Dd {H:ab} {vs:List V} {o:Nat} {cs:List V} (ho:o∈V.refss vs) (hb:H.get o = some (.box cs)) {q:Nat} (hq:q∈V.refss cs):q∈aO H vs :=
 List.mem_append_right _ (List.mem_flatMap.2 ⟨o,ho,by rw [hb];exact hq⟩)
theorem A6 {H:ab} {vs:List V} {o:Nat} {m:V} (ho:o∈V.refss vs) {s:Int} {l:List Int} (hb:H.get o = some (.iter m s l)) {q:Nat} (hq:q∈V.refs m):q∈aO H vs :=
 List.mem_append_right _ (List.mem_flatMap.2 ⟨o,ho,by rw [hb];exact hq⟩)
theorem JV {H:ab} {vs:List V} {o:Nat} (ho:o∈V.refss vs):o∈aO H vs:=List.mem_append_left _ ho
theorem xi {H H':ab}:∀ (os:List Nat),(∀ o∈os,H.get o = H'.get o)→bu os H = bu os H'
 | [],_=>rfl
 | o :: r,h=>by
  unfold bu
  rw [h o (by simp),xi r fun o ho=>h o (by simp [ho])]
structure gB (H H':ab) (os:List Nat):Prop where
  one:∀ o∈os,H.get o = H'.get o
  two:∀ o∈os, ∀ cs,H.get o = some (.box cs)→∀ q∈V.refss cs,H.get q = H'.get q
  three:∀ o∈os, ∀ m s l,H.get o = some (.iter m s l)→∀ q∈V.refs m,H.get q = H'.get q
theorem gB.sub {H H':ab} {os os':List Nat} (h:gB H H' os) (hs:∀ o∈os',o∈os):gB H H' os':=⟨fun o ho=>h.one o (hs o ho),fun o ho=>h.two o (hs o ho),fun o ho=>h.three o (hs o ho)⟩
theorem xo {H H':ab} {vs:List V} (h:∀ o∈aO H vs,H.get o = H'.get o):gB H H' (V.refss vs) :=
 ⟨fun o ho=>h o (JV ho),fun o ho cs hb q hq=>h q (Dd ho hb hq),fun o ho m s l hb q hq=>h q (A6 ho hb hq)⟩
theorem rJ {H H':ab} {vs:List V} (h:gB H H' (V.refss vs)):aO H vs = aO H' vs:=by
 unfold aO
 congr 1
 have:∀ (l:List Nat),(∀ o∈l,H.get o = H'.get o)→l.flatMap (fun o=>match H.get o with | some (.box cs)=>V.refss cs | some (.iter m _ _)=>V.refs m | _=>[]) = l.flatMap (fun o=>match H'.get o with | some (.box cs)=>V.refss cs | some (.iter m _ _)=>V.refs m | _=>[]):=by
  intro l
  induction l with
  | nil=>intro _;rfl
  | cons x l ih =>
   intro hl
   rw [List.flatMap_cons,List.flatMap_cons,hl x (by simp),ih fun o ho=>hl o (by simp [ho])]
 exact this _ h.one
theorem JK {H H':ab} {vs:List V} (h:gB H H' (V.refss vs)) {o:Nat} (ho:o∈aO H vs):H.get o = H'.get o:=by
 unfold aO at ho
 rcases List.mem_append.1 ho with ho | ho
 ·exact h.one o ho
 ·obtain ⟨q,hq,ho⟩:=List.mem_flatMap.1 ho
  cases hg:H.get q with
  | none=>rw [hg] at ho;simp at ho
  | some b =>
   rw [hg] at ho
   cases b with
   | box cs=>exact h.two q hq cs hg o ho
   | row t k n=>simp at ho
   | raw x=>simp at ho
   | map=>simp at ho
   | iter m s l=>exact h.three q hq m s l hg o ho
theorem Df {H H':ab} {vs:List V} (h:gB H H' (V.refss vs)):lE H vs = lE H' vs:=by
 unfold lE
 rw [← rJ h]
 have key:∀ l:List Nat,(∀ o∈l,H.get o = H'.get o)→(l.all fun o=>Dv (H.get o)) = (l.all fun o=>Dv (H'.get o))∧(l.flatMap fun o=>mR (H.get o)) = l.flatMap fun o=>mR (H'.get o):=by
  intro l
  induction l with
  | nil=>intro _;exact ⟨rfl,rfl⟩
  | cons x l ih =>
   intro h
   obtain ⟨i1,i2⟩:=ih fun o ho=>h o (by simp [ho])
   rw [List.all_cons,List.all_cons,List.flatMap_cons,List.flatMap_cons,h x (by simp),i1,i2]
   exact ⟨rfl,rfl⟩
 obtain ⟨k1,k2⟩:=key _ fun o ho=>JK h ho
 rw [k1,k2]
theorem Gn {H H':ab} {v:V} (h:∀ o∈v.refs,H.get o = H'.get o):ng H v = ng H' v:=by
 cases v with
 | row o k=>simp only [ng,tX (h o (by simp [V.refs]))]
 | sub o k off n=>simp only [ng,ui (h o (by simp [V.refs]))]
 | _=>rfl
theorem HI {H H':ab} {o k i j:Nat} (h:gB H H' [o]):Ea H o k i j = Ea H' o k i j:=by
 unfold Ea
 have h1:=h.one o (by simp)
 cases hg:H.get o with
 | none=>rw [← h1,hg]
 | some ob =>
  cases ob with
  | row t k' n=>rw [← h1,hg]
  | raw x=>rw [← h1,hg]
  | map=>rw [← h1,hg]
  | iter m s l=>rw [← h1,hg]
  | box cs =>
   have:cs.map (ng H) = cs.map (ng H'):=List.map_congr_left fun v hv=>Gn fun q hq=>by
    obtain ⟨i,hi⟩:=List.getElem?_of_mem hv
    exact h.two o (by simp) cs hg q (bS hi hq)
   rw [← h1,hg]
   simp only [this]
mutual
theorem view_agree {H H':ab}:∀ (v:V),gB H H' v.refs→v.view H = v.view H'
 | .c .nil,_=>rfl
 | .c .unk,_=>rfl
 | .c (.lit _),_=>rfl
 | .c (.opt ..),_=>rfl
 | .c .any,_=>rfl
 | .c (.sl ..),_=>rfl
 | .agg vs,h=>by rw [V.view,V.view,views_agree vs h]
 | .tup vs,h=>by rw [V.view,V.view,views_agree vs h]
 | .ptr o k i j,h=>by rw [V.view,V.view];exact HI h
 | .row o k,h=>by rw [V.view,V.view];exact tX (h.one o (by simp [V.refs]))
 | .sub o k off n,h=>by rw [V.view,V.view];exact ui (h.one o (by simp [V.refs]))
 | .dptr ..,_=>by rw [V.view,V.view]
 | .fn f vs,h=>by rw [V.view,V.view,views_agree vs h]
theorem views_agree {H H':ab}:∀ (vs:List V),gB H H' (V.refss vs)→V.views H vs = V.views H' vs
 | [],_=>rfl
 | v :: r,h=>by
  rw [V.views,V.views,view_agree v (h.sub fun o ho=>by simp [V.refss,ho]),views_agree r (h.sub fun o ho=>by simp [V.refss,ho])]
end
mutual
theorem viewN_agree {H H':ab}:∀ (v:V),v.noP = true→(∀ o∈v.refs,H.get o = H'.get o)→v.view H = v.view H'
 | .c d,_,_=>by cases d <;> rfl
 | .agg vs,hn,h=>by rw [V.view,V.view,viewsN_agree vs (by simpa [V.noP] using hn) h]
 | .tup vs,hn,h=>by rw [V.view,V.view,viewsN_agree vs (by simpa [V.noP] using hn) h]
 | .ptr o k i j,hn,_=>by simp [V.noP] at hn
 | .row o k,_,h=>by rw [V.view,V.view];exact tX (h o (by simp [V.refs]))
 | .sub o k off n,_,h=>by rw [V.view,V.view];exact ui (h o (by simp [V.refs]))
 | .dptr ..,_,_=>by rw [V.view,V.view]
 | .fn f vs,hn,h=>by rw [V.view,V.view,viewsN_agree vs (by simpa [V.noP] using hn) h]
theorem viewsN_agree {H H':ab}:∀ (vs:List V),V.noPs vs = true→(∀ o∈V.refss vs,H.get o = H'.get o)→V.views H vs = V.views H' vs
 | [],_,_=>rfl
 | v :: r,hn,h=>by
  rw [V.noPs,Bool.and_eq_true] at hn
  rw [V.views,V.views,viewN_agree v hn.1 (fun o ho=>h o (by simp [V.refss,ho])),viewsN_agree r hn.2 (fun o ho=>h o (by simp [V.refss,ho]))]
end
theorem Gh {C:FuncId→Option CC} {f:FuncId} {nid:Nat} {H H':ab} {vs:List V} (h:∀ o∈V.refss vs,H.get o = H'.get o):o7 C f nid H vs = o7 C f nid H' vs:=by
 unfold o7
 cases hn:V.noPs vs with
 | false=>rfl
 | true =>
  rw [cond_true,cond_true]
  cases hc:C f with
  | none=>rfl
  | some con =>
   match con,hc with
   | .mut m,hc=>rfl
   | .pure con,hc =>
    simp only
    unfold gP
    rw [hc]
    simp only
    rw [viewsN_agree vs hn h]
theorem I2 (o:Nat) (t:Ty) (l:List t.T):∀ vs:List V, ∀ x∈V.refss (V.fzs o t l vs),x∈V.refss vs:=fzr2 o t l
where
  fzr1 (o:Nat) (t:Ty) (l:List t.T):∀ d:V, ∀ x∈(d.fz o t l).refs,x∈d.refs
  | .c _,x,h=>by simp [V.fz,V.refs] at h
  | .agg vs,x,h=>by rw [V.fz,V.refs] at h;rw [V.refs];exact fzr2 o t l vs x h
  | .tup vs,x,h=>by rw [V.fz,V.refs] at h;rw [V.refs];exact fzr2 o t l vs x h
  | .ptr o' k' i j,x,h=>by
    rw [V.fz] at h
    cases hb:Nat.beq o' o with
    | false=>rw [hb,cond_false] at h;exact h
    | true=>rw [hb,cond_true] at h;simp [V.refs] at h
  | .row o' k',x,h=>by
    rw [V.fz] at h
    cases hb:Nat.beq o' o with
    | false=>rw [hb,cond_false] at h;exact h
    | true =>
      rw [hb,cond_true] at h
      cases hk:Nat.beq t.k k' <;> rw [hk] at h <;> simp [V.refs] at h
  | .sub o' k' i j,x,h=>by
    rw [V.fz] at h
    cases hb:Nat.beq o' o with
    | false=>rw [hb,cond_false] at h;exact h
    | true =>
      rw [hb,cond_true] at h
      cases hk:Nat.beq t.k k' <;> rw [hk] at h <;> simp [V.refs] at h
  | .dptr ..,x,h=>by rw [V.fz] at h;exact h
  | .fn _ vs,x,h=>by rw [V.fz,V.refs] at h;rw [V.refs];exact fzr2 o t l vs x h
  fzr2 (o:Nat) (t:Ty) (l:List t.T):∀ vs:List V, ∀ x∈V.refss (V.fzs o t l vs),x∈V.refss vs
  | [],x,h=>by simp [V.fzs,V.refss] at h
  | v :: r,x,h=>by
    rw [V.fzs,V.refss,List.mem_append] at h
    rw [V.refss,List.mem_append]
    exact h.imp (fzr1 o t l v x) (fzr2 o t l r x)
theorem oc {f:ab→List V→Option aB} (hf:∀ H H' vs,(∀ o∈V.refss vs,ab.get H o = ab.get H' o)→f H vs = f H' vs):∀ (fl:List Nat) (H H':ab) (vs:List V),(∀ o∈fl,H.get o = H'.get o)→(∀ o∈V.refss vs,H.get o = H'.get o)→iF f fl H vs = iF f fl H' vs
 | [],H,H',vs,_,h=>hf H H' vs h
 | q :: fl,H,H',vs,h,h2=>by
  rw [iF,iF, ← h q (by simp)]
  split
  ·next e t l hg =>
   refine congrArg _ (oc hf fl _ _ _ (fun o ho=>?_) fun o ho=>?_)
   ·simp only [ab.get_cons,dY,h o (by simp [ho])]
   ·simp only [ab.get_cons,dY,h2 o (I2 q t l vs o ho)]
  ·rfl
theorem zH {H H':ab} {t:Ty} {v:V} (h:∀ o∈v.refs,H.get o = H'.get o):bN H t v = bN H' t v:=by
 unfold bN
 cases v with
 | row q k=>simp only [h q (by simp [V.refs])]
 | sub q k off n=>simp only [h q (by simp [V.refs])]
 | c d=>cases d <;> rfl
 | _=>rfl
theorem GF {P:Program} {H H':ab} {t:TypeId} {a:V} (h:∀ o∈a.refs,H.get o = H'.get o):mi P H t a = mi P H' t a:=by
 unfold mi
 cases a with
 | ptr q k i j=>simp only [h q (by simp [V.refs])]
 | _=>rfl
theorem qa {P:Program} {H H':ab} {t:TypeId} {a b:V} (h:∀ o∈a.refs,H.get o = H'.get o):nV P H t a b = nV P H' t a b:=by
 unfold nV
 cases a with
 | ptr q k i j=>simp only [h q (by simp [V.refs])]
 | _=>rfl
theorem FQ {P:Program} {H H':ab} {t:TypeId} {vs:List V} (h:∀ o∈V.refss vs,H.get o = H'.get o):sM P t H vs = sM P t H' vs:=by
 unfold sM
 split
 ·next a x=>exact qa fun q hq=>h q (by simp [V.refss,hq])
 ·rfl
theorem Ej {P:Program} {H H':ab} {t:TypeId} {a b:V} (h:∀ o∈V.refss [a,b],H.get o = H'.get o):sj P H t a b = sj P H' t a b:=by
 unfold sj
 cases a with
 | ptr q k i j =>
  have hq:=h q (by simp [V.refss,V.refs])
  simp only [← hq]
  split
  ·exact oc (f:=sM P t) (fun H H' vs h=>FQ h) (V.refs b) H H' _ (fun o ho=>h o (by simp [V.refss,ho])) h
  ·exact qa fun o ho=>h o (by simp [V.refss,ho])
 | _=>exact qa fun o ho=>h o (by simp [V.refss,ho])
theorem kG {H H':ab} {m:V} (h:∀ o∈m.refs,H.get o = H'.get o):kS H m = kS H' m:=by
 unfold kS
 split
 ·next f o k i j=>rw [h o (by simp [V.refs,V.refss])]
 ·rfl
theorem HS {P:Program} {H H':ab} {t:TypeId} {a:V} (h:∀ o∈a.refs,H.get o = H'.get o):tj P H t a = tj P H' t a:=by
 unfold tj
 generalize P.underlying t = u
 cases u with
 | none=>rfl
 | some u =>
  cases a with
  | row q k =>
   have hq:=h q (by simp [V.refs])
   cases u <;> first | rfl | simp only [hq]
  | c d =>
   cases d with
   | lit v=>cases v <;> cases u <;> rfl
   | _=>cases u <;> rfl
  | fn f vs =>
   have e:=kG (m:=.fn f vs) h
   cases u <;> first | rfl | simp only [e]
  | _=>cases u <;> rfl
theorem l8 {P:Program} {H H':ab} {t:TypeId} {a:V} {lo hi:Option V} (h:∀ o∈a.refs,H.get o = H'.get o):lY P H t a lo hi = lY P H' t a lo hi:=by
 unfold lY
 generalize P.underlying t = u
 cases u with
 | none=>rfl
 | some u =>
  cases a with
  | row q k =>
   have hq:=h q (by simp [V.refs])
   cases u <;> first | rfl | simp only [hq]
  | c d =>
   cases d with
   | lit v=>cases v <;> cases u <;> rfl
   | _=>cases u <;> rfl
  | _=>cases u <;> rfl
theorem xY {P:Program} {H H':ab} {t:TypeId} {a b:V} (h:∀ o∈a.refs,H.get o = H'.get o):j5 P H t a b = j5 P H' t a b:=by
 unfold j5
 generalize P.underlying t = u
 by_cases hb:∃ kk i,b = .c (.lit (.int kk i))
 ·obtain ⟨kk,i,rfl⟩:=hb
  cases u with
  | none=>rfl
  | some u =>
   cases a with
   | row q k =>
    have hq:=h q (by simp [V.refs])
    cases u <;> first | rfl | simp only [hq]
   | ptr q k i j =>
    have hq:=h q (by simp [V.refs])
    cases u <;> first | rfl | simp only [hq]
   | c d=>cases d <;> cases u <;> rfl
   | _=>cases u <;> rfl
 ·split <;> first | rfl | exact (hb ⟨_,_,rfl⟩).elim | (split <;> first | rfl | exact (hb ⟨_,_,rfl⟩).elim)
theorem D0 {P:Program} {H H':ab} {t:TypeId} {a:V} (h:∀ o∈a.refs,H.get o = H'.get o):nZ P H t a = nZ P H' t a:=by
 unfold nZ
 cases a with
 | row q k=>simp only [h q (by simp [V.refs])]
 | sub q k off n=>simp only [h q (by simp [V.refs])]
 | _=>rfl
theorem Dm {P:Program} {H H':ab} {nid:Nat} {t:TypeId} {s x:V} (h:∀ o∈s.refs,H.get o = H'.get o) (hx:∀ o∈x.refs,H.get o = H'.get o):lu P H nid t s x = lu P H' nid t s x:=by
 unfold lu
 have e:∀ ty,bN H ty x = bN H' ty x:=fun ty=>zH hx
 cases s with
 | row q k=>simp only [h q (by simp [V.refs]),e]
 | c d=>cases d <;> simp only [e]
 | _=>rfl
theorem Gu {H H':ab} {a:V} (h:∀ o∈a.refs,H.get o = H'.get o):wD H a = wD H' a:=by
 unfold wD
 cases a with
 | ptr q k i j=>simp only [h q (by simp [V.refs])]
 | _=>rfl
theorem C9 {H H':ab} {t:TypeId} {m k:V} {ok:Bool} (h:∀ o∈m.refs,H.get o = H'.get o):pm P H t m k ok = pm P H' t m k ok:=by
 unfold pm
 rw [kG h]
theorem Gm {H H':ab} {t:TypeId} {vs:List V} (h:∀ o∈V.refss vs,H.get o = H'.get o):tv P t H vs = tv P t H' vs:=by
 unfold tv
 split
 ·next m k v=>rw [kG fun o ho=>h o (by simp [V.refss,ho])]
 ·rfl
theorem FY {H H':ab} {a:V} (h:gB H H' a.refs):se H a = se H' a:=by
 unfold se
 cases a with
 | ptr q k i j =>
  have e:=h.one q (by simp [V.refs])
  simp only [e]
  cases hg:H'.get q with
  | none=>rfl
  | some b =>
   cases b with
   | iter m s l=>simp only [kG fun o ho=>h.three q (by simp [V.refs]) m s l (e.trans hg) o ho]
   | _=>rfl
 | _=>rfl
theorem Eo {P:Program} {H H':ab} {nid:Nat} {t:TypeId} {a:V} (h:∀ o∈a.refs,H.get o = H'.get o):sw P H nid t a = sw P H' nid t a:=by
 unfold sw
 rw [kG h]
theorem Jd {H H':ab} {nid:Nat} {o:Oper} {vs:List V} (h:gB H H' (V.refss vs)):oB P C H nid o vs = oB P C H' nid o vs:=by
 unfold oB
 split <;> try rfl
 ·exact oc (fun _ _ _ _=>rfl) _ _ _ _ (fun o ho=>h.one o ho) fun o ho=>h.one o ho
 ·exact GF fun q hq=>h.one q (by simp [V.refss,hq])
 ·exact Ej fun q hq=>h.one q hq
 ·next a b x d _ =>
  have hx:bN H (.i .u8) d = bN H' (.i .u8) d:=zH fun q hq=>h.one q (by simp [V.refss,hq])
  unfold zq
  rw [hx]
 ·exact xY fun q hq=>h.one q (by simp [V.refss,hq])
 ·exact l8 fun q hq=>h.one q (by simp [V.refss,hq])
 ·exact l8 fun q hq=>h.one q (by simp [V.refss,hq])
 ·exact l8 fun q hq=>h.one q (by simp [V.refss,hq])
 ·exact l8 fun q hq=>h.one q (by simp [V.refss,hq])
 ·exact C9 fun q hq=>h.one q (by simp [V.refss,hq])
 ·next t x y z m k v _=>exact oc (f:=tv P t) (fun _ _ _ h=>Gm h) (V.refs v) _ _ _ (fun o ho=>h.one o (by simp [V.refss,ho])) fun o ho=>h.one o ho
 ·next t x d _=>rw [Eo (P:=P) (H:=H) (H':=H') fun q hq=>h.one q (by simp [V.refss,hq])]
 ·exact Gu fun q hq=>h.one q (by simp [V.refss,hq])
 ·exact FY (h.sub fun q hq=>by simp [V.refss,hq])
 ·next args ats x _ =>
  have hc:∀ t,tj P H t x = tj P H' t x:=fun t=>HS fun q hq=>h.one q (by simp [V.refss,hq])
  simp only [hc]
 ·next args ats x _ =>
  have hc:∀ t,nZ P H t x = nZ P H' t x:=fun t=>D0 fun q hq=>h.one q (by simp [V.refss,hq])
  simp only [hc]
 ·next args ats s x _ =>
  have ha:∀ t,lu P H nid t s x = lu P H' nid t s x:=fun t=>Dm (fun q hq=>h.one q (by simp [V.refss,hq])) fun q hq=>h.one q (by simp [V.refss,hq])
  simp only [ha]
 ·next f args ats g caps ds _ =>
  unfold no
  have hag:gB H H' (V.refss (ds++caps)):=by
   refine h.sub fun q hq=>?_
   have:∀ (l1 l2:List V),q∈V.refss (l1++l2)→q∈V.refss l1∨q∈V.refss l2:=by
    intro l1 l2
    induction l1 with
    | nil=>intro h;exact .inr h
    | cons x l ih =>
     intro h
     simp only [List.cons_append,V.refss,List.mem_append] at h ⊢
     rcases h with h | h
     ·exact .inl (.inl h)
     ·exact (ih h).imp .inr id
   simp only [V.refss,V.refs,List.mem_append]
   exact (this _ _ hq).symm
  have hr:bu (aO H (ds++caps)) H = bu (aO H' (ds++caps)) H':=by
   rw [← rJ hag]
   refine xi _ fun o ho=>?_
   rcases List.mem_append.1 ho with ho | ho
   ·exact hag.one o ho
   ·obtain ⟨q,hq,ho⟩:=List.mem_flatMap.1 ho
    cases hg:H.get q with
    | none=>rw [hg] at ho;simp at ho
    | some b =>
     cases b with
     | box cs=>rw [hg] at ho;exact hag.two q hq cs hg o ho
     | row t k n=>rw [hg] at ho;simp at ho
     | raw x=>rw [hg] at ho;simp at ho
     | map=>rw [hg] at ho;simp at ho
     | iter m s l=>rw [hg] at ho;exact hag.three q hq m s l hg o ho
  have h0:gP C H nid g (ds++caps) = gP C H' nid g (ds++caps):=by
   unfold gP
   rw [views_agree _ hag,hr]
  have h1:=oc (f:=o7 C g nid) (fun _ _ _ h=>Gh h) (V.refss (ds++caps)) H H' (ds++caps) hag.one hag.one
  rw [h0,h1]
end
end Go.Ax
namespace Go.Ax
open Go.RowKit
section
variable {P:Program} {N:Nat} {B:eL} {σ σ':St} {E:ar} {a:Act} {w:World} {C:FuncId→Option CC} {all:List Oper}
def cd:List Nat→Option Ob→Option Ob
 | [],b=>b
 | o :: r,b=>cd r (kz o b)
theorem wa:∀ (kl:List Nat) (H:ab) (q:Nat),ab.get (dt kl H) q = cd kl (ab.get H q)
 | [],H,q=>rfl
 | o :: r,H,q=>by
  have h1:=dY o H q
  rw [dt,wa r,cd]
  simp only [dt] at h1
  rw [h1]
theorem pe:∀ (A H:ab) (q:Nat),ab.get (A++H) q = if q∈cC A then ab.get A q else ab.get H q
 | [],H,q=>by simp [cC]
 | (p,b) :: A,H,q=>by
  rw [List.cons_append,ab.get_cons,ab.get_cons,pe A H q]
  by_cases h:p = q
  ·subst h;simp [cC]
  ·simp only [if_neg h,cC,List.map_cons,List.mem_cons]
   have:¬ q = p:=fun e=>h e.symm
   simp only [this,false_or]
   rfl
theorem gf (r:bj) (q:Nat):ab.get (after σ r).hp q = if q∈cC r.res.eff then ab.get r.res.eff q else cd r.res.kill (ab.get σ.hp q):=by
 rw [after,pe,wa]
def mz (dst:Option Nat) (s:az):az:=match dst with | some d=>bif s.ch.any (fun y=>Nat.beq y.1 d) then ⟨[], .c .unk⟩ else s | none=>s
theorem fR (r:bj) (t:Nat):au (after σ r).tm t = if r.dst = some t then some ⟨r.ch,r.res.val⟩ else (au σ.tm t).map fun s=>mz r.dst ⟨s.ch,s.v.killAll r.res.kill⟩:=by
 unfold after mz
 cases hd:r.dst with
 | none=>simp only [reduceCtorEq,if_false];rw [j8]
 | some d =>
  simp only [Option.some.injEq]
  rw [jR]
  split
  ·rfl
  ·rw [pr,j8]
   cases au σ.tm t <;> rfl
theorem sS {d:Option Nat} {t:Nat}:t∈kw d↔d = some t:=by
 cases d with
 | none=>simp [kw]
 | some x=>simp [kw,eq_comm]
theorem Jm {r:bj} {t:Nat} {s:az} (h:au (after σ r).tm t = some s) (ht:t ∉ kw r.dst) (hn:s.v.noUnk = true):au σ.tm t = some s:=by
 rw [fR,if_neg (fun e=>ht (sS.2 e))] at h
 cases hx:au σ.tm t with
 | none=>rw [hx] at h;cases h
 | some y =>
  rw [hx] at h
  simp only [Option.map_some,Option.some.injEq] at h
  have:mz r.dst ⟨y.ch,y.v.killAll r.res.kill⟩ = ⟨y.ch,y.v.killAll r.res.kill⟩:=by
   unfold mz
   cases hd:r.dst with
   | none=>rfl
   | some d =>
    simp only
    cases hc:y.ch.any (fun z=>Nat.beq z.1 d) with
    | false=>rfl
    | true =>
     simp only [mz,hd,hc,cond_true] at h
     subst h
     simp [V.noUnk] at hn
  rw [this] at h
  subst h
  have:=kO _ _ hn
  obtain ⟨ych,yv⟩:=y
  simp only at this ⊢
  rw [this]
theorem HK {r:bj} {t:Nat} {s:az} (h:au σ.tm t = some s) (ht:t ∉ kw r.dst) (hk:∀ q∈s.v.refs,q ∉ r.res.kill) (hc:∀ x∈s.ch,x.1 ∉ kw r.dst):au (after σ r).tm t = some s:=by
 rw [fR,if_neg (fun e=>ht (sS.2 e)),h]
 simp only [Option.map_some,Option.some.injEq]
 have e1:s.v.killAll r.res.kill = s.v:=gK _ _ hk
 rw [e1]
 unfold mz
 cases hd:r.dst with
 | none=>rfl
 | some d =>
  simp only
  have:s.ch.any (fun z=>Nat.beq z.1 d) = false:=by
   refine List.any_eq_false.2 fun x hx=>?_
   have:=hc x hx
   rw [hd] at this
   intro hb
   exact this (by simp [kw,Nat.eq_of_beq_eq_true hb])
  rw [this]
  rfl
theorem ip:∀ {xs:List Operand} {t:Nat},t∈jB xs↔Operand.tmp t∈xs
 | [],t=>by simp [jB]
 | .tmp q :: r,t=>by simp [jB,ip (xs:=r)]
 | .const v :: r,t=>by simp [jB,ip (xs:=r)]
 | .global g :: r,t=>by simp [jB,ip (xs:=r)]
 | .func f :: r,t=>by simp [jB,ip (xs:=r)]
theorem lq {c ch:aL} (h:m9 c ch = true):∀ x∈c,x.1∈ch.map (·.1):=by
 intro x hx
 have:=List.all_eq_true.1 h x hx
 unfold KW at this
 obtain ⟨y,hy,hyx⟩:=List.any_eq_true.1 this
 simp only [Bool.and_eq_true,Nat.beq_eq] at hyx
 rw [hyx.1]
 exact List.mem_map.2 ⟨y,hy,rfl⟩
theorem Aa:∀ {vs:List V} {v:V},V.noUnks vs = true→v∈vs→v.noUnk = true
 | x :: r,v,h,hv=>by
  simp only [V.noUnks,Bool.and_eq_true] at h
  rcases List.mem_cons.1 hv with rfl | hv
  ·exact h.1
  ·exact Aa h.2 hv
theorem qz {ch:aL} {t:Nat} {v:V} (h:bC σ ch (.tmp t) = some v):∃ s,au σ.tm t = some s∧m9 s.ch ch = true∧s.v = v:=by
 unfold bC at h
 cases hl:Nat.blt t 1000000 with
 | false=>simp [hl] at h
 | true =>
  simp only [hl,cond_true] at h
  split at h
  ·next s hg =>
   cases hc:m9 s.ch ch with
   | false=>simp [hc] at h
   | true=>simp only [hc,cond_true,Option.some.injEq] at h;exact ⟨s,hg,hc,h⟩
  ·cases h
theorem z8 {ch:aL}:∀ {xs:List Operand} {vs:List V},jN σ ch xs = some vs→∀ x∈xs, ∃ v∈vs,bC σ ch x = some v
 | [],vs,h,x,hx=>by simp at hx
 | y :: xs,vs,h,x,hx=>by
  unfold jN at h
  rw [List.mapM_cons] at h
  simp only [Option.bind_eq_bind,Option.pure_def,Option.bind_eq_some_iff,Option.some.injEq] at h
  obtain ⟨d,hd,ds,hds,rfl⟩:=h
  rcases List.mem_cons.1 hx with rfl | hx
  ·exact ⟨d,by simp,hd⟩
  ·obtain ⟨v,hv,h⟩:=z8 (xs:=xs) hds x hx
   exact ⟨v,by simp [hv],h⟩
theorem Gj {ch:aL} {c x y:Operand} {v:V} (h:m6 σ ch c x y = some v) :
  ∃ b p q:Bool,bC σ ch c = some (bl b)∧bC σ (nA c true ch) x = some (bl p)∧bC σ (nA c false ch) y = some (bl q)∧v = bl (bif b then p else q):=by
 unfold m6 at h
 split at h
 ·next b hc =>
  split at h
  ·next p q hx hy=>cases h;exact ⟨b,p,q,hc,hx,hy,rfl⟩
  ·cases h
 ·cases h
theorem B6 {c:Operand} {wt:Bool} {ch:aL} {i:Nat} (h:i∈(nA c wt ch).map (·.1)):i∈ch.map (·.1)∨c = .tmp i:=by
 unfold nA at h
 split at h
 ·simp only [List.map_cons,List.mem_cons] at h
  rcases h with rfl | h
  ·exact .inr rfl
  ·exact .inl h
 ·exact .inl h
theorem H6 {nid:Nat} {o:Oper} {rc:bj} (h:qe P C N all σ nid o = some rc) (hn:V.noUnks rc.vs = true) {t:Nat} (ht:t∈rc.rds) :
  ∃ s,au σ.tm t = some s∧s.v.noUnk = true∧(∀ x∈s.ch,x.1∈rc.rds)∧∀ q∈s.v.refs,q∈V.refss rc.vs:=by
 obtain ⟨hd,hch,hb,hr,hc,e1,e2,e3,e4,e5⟩:=lJ h
 have hids:∀ i,i∈rc.ch.map (·.1)→i∈rc.rds:=fun i hi=>by rw [e3];exact List.mem_append_right _ hi
 have hbool:∀ {s:az} {b:Bool},s.v = bl b→s.v.noUnk = true∧∀ q∈s.v.refs,q∈V.refss rc.vs:=by
  intro s b e;rw [e];exact ⟨rfl,fun q hq=>by simp [V.refs] at hq⟩
 rw [e3,List.mem_append] at ht
 rcases ht with ht | ht
 ·have hto:=ip.1 ht
  unfold jH at hr
  split at hr
  ·next c x y ho =>
   cases hv:m6 σ rc.ch c x y with
   | none =>
    simp only [hv] at hr
    cases hv2:qW σ rc.ch c x y with
    | none=>simp [hv2] at hr
    | some v =>
     simp only [hv2,Option.map_some,Option.some.injEq,Prod.mk.injEq] at hr
     rw [← hr.1] at hn
     cases hn
   | some v =>
    obtain ⟨b,p,q,h1,h2,h3,_⟩:=Gj hv
    have hcr:∀ i,c = .tmp i→i∈rc.rds:=fun i hi=>by rw [e3,ho];exact List.mem_append_left _ (ip.2 (by simp [cS,Op.operands,hi]))
    rw [ho] at hto
    have hto':Operand.tmp t = c∨Operand.tmp t = x∨Operand.tmp t = y:=by simpa [cS,Op.operands] using hto
    rcases hto' with rfl | rfl | rfl
    ·obtain ⟨s,g1,g2,g3⟩:=qz h1
     exact ⟨s,g1,(hbool g3).1,fun z hz=>hids _ (lq g2 z hz),(hbool g3).2⟩
    ·obtain ⟨s,g1,g2,g3⟩:=qz h2
     exact ⟨s,g1,(hbool g3).1,fun z hz=>(B6 (lq g2 z hz)).elim (hids _) (hcr _),(hbool g3).2⟩
    ·obtain ⟨s,g1,g2,g3⟩:=qz h3
     exact ⟨s,g1,(hbool g3).1,fun z hz=>(B6 (lq g2 z hz)).elim (hids _) (hcr _),(hbool g3).2⟩
  ·next op hnp =>
   split at hr
   ·next vs hvs =>
    cases hov:wm P C σ.hp nid rc.ch o vs with
    | none=>simp [hov] at hr
    | some r =>
     simp only [hov,Option.map_some,Option.some.injEq,Prod.mk.injEq] at hr
     obtain ⟨rfl,_⟩:=hr
     obtain ⟨v,hv,hov'⟩:=z8 hvs _ hto
     obtain ⟨s,g1,g2,rfl⟩:=qz hov'
     refine ⟨s,g1,Aa hn hv,fun z hz=>hids _ (lq g2 z hz),fun q hq=>?_⟩
     obtain ⟨i,hi⟩:=List.getElem?_of_mem hv
     exact bS hi hq
   ·cases hr
 ·obtain ⟨x,hx,rfl⟩:=List.mem_map.1 ht
  have hg:=List.all_eq_true.1 hb x hx
  unfold cU at hg
  split at hg
  ·next s hs =>
   simp only [Bool.and_eq_true] at hg
   have:∃ b,s.v = bl b:=by
    have:=hg.1
    unfold V.isBool at this
    split at this
    ·next b e=>exact ⟨b,e⟩
    ·cases this
   obtain ⟨b,hbv⟩:=this
   exact ⟨s,hs,(hbool hbv).1,fun z hz=>hids _ (lq hg.2 z hz),(hbool hbv).2⟩
  ·cases hg
theorem MH {H H':ab} {nid:Nat} {o:Oper} {vs:List V} (h:gB H H' (V.refss (lk o vs))):oB P C H nid o vs = oB P C H' nid o vs:=by
 unfold lk at h
 split at h
 ·next x ho =>
  unfold oB
  rw [ho]
  rcases vs with _ | ⟨a,_ | ⟨b,r⟩⟩ <;> rfl
 ·exact Jd h
theorem xt {o:Oper} {ch:aL} (hch:ce all σ.tm o.guard = some ch) (hb:ch.all (fun x=>cU σ.tm ch x.1) = true) (hid:∀ x∈ch,au σ'.tm x.1 = au σ.tm x.1) :
  ce all σ'.tm o.guard = some ch∧ch.all (fun x=>cU σ'.tm ch x.1) = true:=by
 have g1:ce all σ'.tm o.guard = some ch:=by
  have hch':=hch
  unfold ce at hch ⊢
  split at hch
  ·exact hch
  ·next j wt _ =>
   split at hch
   ·next oj hj =>
    split at hch
    ·next t ht =>
     cases hl:Nat.blt t 1000000 with
     | false=>simp [hl] at hch
     | true =>
      simp only [hl,cond_true] at hch ⊢
      split at hch
      ·next ch' b hg =>
       simp only [Option.some.injEq] at hch
       have:=hid (t,wt) (by rw [← hch];simp)
       rw [this,hg]
       simp only [hch]
      ·cases hch
    ·cases hch
   ·cases hch
 have g2:ch.all (fun x=>cU σ'.tm ch x.1) = true:=by
  refine List.all_eq_true.2 fun x hx=>?_
  have:=List.all_eq_true.1 hb x hx
  unfold cU at this ⊢
  rw [hid x hx]
  exact this
 exact ⟨g1,g2⟩
theorem Is {nid:Nat} {o:Oper} {rc:bj} (h:qe P C N all σ nid o = some rc) (hA:∀ t∈rc.rds,au σ'.tm t = au σ.tm t) (hB:gB σ.hp σ'.hp (V.refss (lk o rc.vs))) :
  qe P C N all σ' nid o = some rc∧holds σ'.tm rc.ch = holds σ.tm rc.ch:=by
 obtain ⟨hd,hch,hb,hr,hc,e1,e2,e3,e4,e5⟩:=lJ h
 have hid:∀ x∈rc.ch,au σ'.tm x.1 = au σ.tm x.1:=fun x hx=>hA _ (by rw [e3];exact List.mem_append_right _ (List.mem_map.2 ⟨x,hx,rfl⟩))
 have hop:∀ (x:Operand),x∈cS o.op→∀ ch,bC σ' ch x = bC σ ch x:=by
  intro x hx ch
  cases x with
  | tmp t=>unfold bC;simp only [hA t (by rw [e3];exact List.mem_append_left _ (ip.2 hx))]
  | _=>rfl
 obtain ⟨g1,g2⟩:=xt hch hb hid
 have g3:jH P C σ' nid rc.ch o = some (rc.vs,rc.res):=by
  rw [← hr]
  unfold jH at hr ⊢
  split
  ·next c x y ho =>
   rw [ho] at hop
   have:m6 σ' rc.ch c x y = m6 σ rc.ch c x y:=by
    unfold m6
    rw [hop c (by simp [cS,Op.operands]),hop x (by simp [cS,Op.operands]),hop y (by simp [cS,Op.operands])]
   have this2:qW σ' rc.ch c x y = qW σ rc.ch c x y:=by
    unfold qW
    rw [hop c (by simp [cS,Op.operands]),hop x (by simp [cS,Op.operands]),hop y (by simp [cS,Op.operands])]
   rw [this,this2]
  ·next op hnp =>
   have:∀ (xs:List Operand),(∀ x∈xs,x∈cS o.op)→jN σ' rc.ch xs = jN σ rc.ch xs:=by
    intro xs
    induction xs with
    | nil=>intro _;rfl
    | cons x l ih =>
     intro hx
     unfold jN at ih ⊢
     rw [List.mapM_cons,List.mapM_cons,hop x (hx x (by simp)),ih fun z hz=>hx z (by simp [hz])]
   rw [this _ fun x hx=>hx]
   split at hr
   ·next c x y ho=>exact (hnp c x y ho).elim
   ·split at hr
    ·next vs hvs =>
     cases hov:wm P C σ.hp nid rc.ch o vs with
     | none=>simp [hov] at hr
     | some r =>
      simp only [hov,Option.map_some,Option.some.injEq,Prod.mk.injEq] at hr
      obtain ⟨rfl,_⟩:=hr
      have:wm P C σ'.hp nid rc.ch o rc.vs = wm P C σ.hp nid rc.ch o rc.vs:=by unfold wm;rw [MH hB]
      rw [this,hov]
    ·cases hr
 have hreach:aO σ'.hp (lk o rc.vs) = rc.reach:=by rw [e4];exact (rJ hB).symm
 have hrows:lE σ'.hp (lk o rc.vs) = rc.rws:=by rw [e5];exact (Df hB).symm
 refine ⟨?_,gn _ fun x hx=>by rw [hid x hx]⟩
 unfold qe
 rw [hd,cond_true,g1]
 simp only
 rw [g2,cond_true,g3]
 simp only
 rw [hc,cond_true,hreach,hrows]
 rw [← e1, ← e2, ← e3]
theorem eC.slots {nid:Nat} {o:Oper} {rc:bj} (h:eC P C N all σ nid o rc) (hn:V.noUnks rc.vs = true) {t:Nat} (ht:t∈rc.rds) :
  ∃ s,au σ.tm t = some s∧s.v.noUnk = true∧(∀ x∈s.ch,x.1∈rc.rds)∧∀ q∈s.v.refs,q∈V.refss rc.vs:=by
 rcases h with ⟨h,_⟩ | ⟨e,_,_,hb,_,_⟩
 ·exact H6 h hn ht
 ·have e3:rc.rds = rc.ch.map (·.1):=by rw [e];rfl
  rw [e3] at ht
  obtain ⟨x,hx,rfl⟩:=List.mem_map.1 ht
  have hg:=List.all_eq_true.1 hb x hx
  unfold cU at hg
  split at hg
  ·next s hs =>
   simp only [Bool.and_eq_true] at hg
   have hv:=hg.1
   unfold V.isBool at hv
   split at hv
   ·next b e=>exact ⟨s,hs,by rw [e];rfl,fun z hz=>by rw [e3];exact lq hg.2 z hz,fun q hq=>by rw [e] at hq;simp [V.refs] at hq⟩
   ·cases hv
  ·cases hg
theorem eC.parts {nid:Nat} {o:Oper} {rc:bj} (h:eC P C N all σ nid o rc):(∀ x∈rc.ch,x.1∈rc.rds)∧rc.reach = aO σ.hp (lk o rc.vs)∧rc.rws = lE σ.hp (lk o rc.vs):=by
 rcases h with ⟨h,_⟩ | ⟨e,_⟩
 ·obtain ⟨_,_,_,_,_,_,_,e3,e4,e5⟩:=lJ h
  exact ⟨fun x hx=>by rw [e3];exact List.mem_append_right _ (List.mem_map.2 ⟨x,hx,rfl⟩),e4,e5⟩
 ·have e6:lk o rc.vs = []:=by rw [e];unfold lk;split <;> rfl
  rw [e6]
  exact ⟨fun x hx=>by rw [show rc.rds = rc.ch.map (·.1) by rw [e];rfl];exact List.mem_map.2 ⟨x,hx,rfl⟩,by rw [e];rfl,by rw [e];rfl⟩
theorem eC.congr {nid:Nat} {o:Oper} {rc:bj} (h:eC P C N all σ nid o rc) (hA:∀ t∈rc.rds,au σ'.tm t = au σ.tm t) (hB:gB σ.hp σ'.hp (V.refss (lk o rc.vs))) :
  eC P C N all σ' nid o rc∧holds σ'.tm rc.ch = holds σ.tm rc.ch:=by
 have hp:=h.parts.1
 have hid:∀ x∈rc.ch,au σ'.tm x.1 = au σ.tm x.1:=fun x hx=>hA _ (hp x hx)
 have hh:holds σ'.tm rc.ch = holds σ.tm rc.ch:=gn _ fun x hx=>by rw [hid x hx]
 refine ⟨?_,hh⟩
 rcases h with ⟨h,hn⟩ | ⟨e,hd,hch,hb,hn,hf⟩
 ·exact .inl ⟨(Is h hA hB).1,by rw [hh];exact hn⟩
 ·obtain ⟨g1,g2⟩:=xt hch hb hid
  exact .inr ⟨e,hd,g1,g2,hn,hh.trans hf⟩
end
end Go.Ax
