import Derived.Test.YtnnblpijaoocaaaGreatWB2m
import Derived.Maps.RangeRun
import Derived.Test.YtnnblpijaoocaaaGreatWB2m
import Derived.Test.YtnnblpijaoocaaaGreatWB2m
set_option linter.all false
/- Walks over strings, bytes as strings, parts that are cleared. -/
namespace Go.Ax
open Go.RowKit
section
variable {P:Program} {ρ:Operand→Value} {E:an} {w w':World} {o:Oper} {r:av} {H:ae} {nid:Nat}
def RH (ok:Nat→Prop):an:=⟨fun _=>none,fun _=>0,fun _=>0,fun _=>False,ok⟩
theorem P7 (hH:aq E w H) (hf:¬ E.live nid) (x:Obj) (he:r.eff = [(nid,some (.raw x))]) (hk:r.kill = []) {v':Value}
  (hv:∀ (E':an) (w':World),E'.live nid→E'.conc nid = some w.heap.size→E'.len nid = 1→ai E' w' v' r.val) :
  co E w H nid r (E.next nid (some w.heap.size) 0 1 E.ok) (w.alloc x) v':=by
 have hb:Below w.heap.size w (w.alloc x):=(Below.refl _ _).alloc (Nat.le_refl _) _
 have hcc:∀ b,some w.heap.size = some b→w.heap.size≤b∧b < (w.alloc x).heap.size∧¬ E.ok b:=by
  intro b e;cases e
  exact ⟨Nat.le_refl _,by simp,fun h=>by have:=hH.oklt _ h;omega⟩
 have hS:dc E w [] (E.next nid (some w.heap.size) 0 1 E.ok) (w.alloc x):=cw hf _ 0 1 E.ok hb (fun b h=>(hcc b h).1) (fun _ h=>h) (fun _ h=>.inl h)
 have hN:=cI (cap:=0) (len:=1) hf hH hb hcc (fun _ h=>h) (fun _ h=>.inl h) (fun b h=>by have:=hH.oklt b h;simp;omega)
 have e1:(E.next nid (some w.heap.size) 0 1 E.ok).conc nid = some w.heap.size:=by simp [an.next]
 have e3:(E.next nid (some w.heap.size) 0 1 E.ok).len nid = 1:=by simp [an.next]
 refine ⟨by rw [hk];exact hS, ?_,hv _ _ (.inl rfl) e1 e3,bC⟩
 rw [he,hk]
 exact iS hN (.inl rfl) ⟨e3,_,e1,heap_alloc_new w _⟩
theorem Mb (hH:aq E w H) (hf:¬ E.live nid) {t:TypeId} {x:Operand} (ho:o.op = .range t x) {vx:V} (hx:ai E w (ρ x) vx) (h:Ic P nid t vx = some r) :
  ∃ E' w' v',(execOp ρ o).run P w = .ok (.value v') w'∧co E w H nid r E' w' v':=by
 unfold Ic at h
 split at h
 ·next s hu =>
  cases h
  have ex:=hx.lit_inv
  refine ⟨_,w.alloc (.stringIter s 0), .pointer (some ⟨w.heap.size,0,none⟩), ?_,P7 hH hf (.stringIter s 0) rfl rfl fun E' w' h1 h2 h3=>?_⟩
  ·have:=run_range_string (P:=P) w t s hu
   simp only [execOp,ho,ex,Sem.run_bind,this,Result.andThen_ok]
   rfl
  ·have:=ai.ptr (E:=E') (w:=w') nid 1 0 0 w.heap.size h1 h2 (by omega)
   simpa using this
 ·cases h
theorem Jo (hH:aq E w H) (hf:¬ E.live nid) {t:TypeId} {x:Operand} (ho:o.op = .range t x) {vx:V} (hx:ai E w (ρ x) vx) (h:tX P H nid t vx = some r) :
  ∃ E' w' v',(execOp ρ o).run P w = .ok (.value v') w'∧co E w H nid r E' w' v':=by
 unfold tX at h
 split at h
 ·next k e hu =>
  split at h
  ·next q tm kt vt ks vs hm =>
   cases h
   obtain ⟨bm,ex,hl,hc,hg⟩:=ii hH hx hm
   obtain ⟨_,_,_,b',es,clock,h3,h4,_,h6,_,h8,_⟩:=hH.at_ _ _ hg
   rw [hc] at h3;cases h3
   have hb:Below w.heap.size w (w.alloc (.mapIter (some bm) clock #[] clock)):=(Below.refl _ _).alloc (Nat.le_refl _) _
   have hcc:∀ b,some w.heap.size = some b→w.heap.size≤b∧b < (w.alloc (.mapIter (some bm) clock #[] clock)).heap.size∧¬ E.ok b:=by
    intro b e;cases e
    exact ⟨Nat.le_refl _,by simp,fun h=>by have:=hH.oklt _ h;omega⟩
   have hS:dc E w [] (E.next nid (some w.heap.size) 0 1 E.ok) (w.alloc (.mapIter (some bm) clock #[] clock)):=cw hf _ 0 1 E.ok hb (fun b h=>(hcc b h).1) (fun _ h=>h) (fun _ h=>.inl h)
   have hN:=cI (cap:=0) (len:=1) hf hH hb hcc (fun _ h=>h) (fun _ h=>.inl h) (fun b h=>by have:=hH.oklt b h;simp;omega)
   have e1:(E.next nid (some w.heap.size) 0 1 E.ok).conc nid = some w.heap.size:=by simp [an.next]
   have e3:(E.next nid (some w.heap.size) 0 1 E.ok).len nid = 1:=by simp [an.next]
   refine ⟨_,w.alloc (.mapIter (some bm) clock #[] clock), .pointer (some ⟨w.heap.size,0,none⟩), ?_,hS, ?_, ?_,bC⟩
   ·have:=run_range_map (P:=P) w t k e bm es clock hu h4
    simp only [execOp,ho,ex,Sem.run_bind,this,Result.andThen_ok]
    rfl
   ·refine iS hN (.inl rfl) ⟨e3,_,bm,clock, #[],clock,e1,heap_alloc_new w _,⟨rfl,by rw [h8,h6],rfl⟩, ?_⟩
    rw [← ex]
    exact fZ hH hS hx
   ·have:=ai.ptr (E:=E.next nid (some w.heap.size) 0 1 E.ok) (w:=w.alloc (.mapIter (some bm) clock #[] clock)) nid 1 0 0 w.heap.size (.inl rfl) e1 (by omega)
    simpa using this
  ·cases h
 ·cases h
theorem EW:∀ (ts:List Ty) (x:HP ts),ts.all Rg = true→∀ d∈fH ts x,d = .lit (vE d)
 | [],_,_,d,hd=>by simp [fH] at hd
 | [t],x,h,d,hd=>by
  simp only [fH,List.mem_singleton] at hd
  subst hd
  match t,h with
  | .i k,_=>rfl
  | .b,_=>rfl
  | .s,_=>rfl
 | t :: u :: r,x,h,d,hd=>by
  rw [List.all_cons,Bool.and_eq_true] at h
  rw [fH,List.mem_cons] at hd
  rcases hd with rfl | hd
  ·match t,h.1 with
   | .i k,_=>rfl
   | .b,_=>rfl
   | .s,_=>rfl
  ·exact EW (u :: r) x.2 h.2 d hd
theorem Ia {kt:Ty} (h:kt.key = true) (x:kt.T):ai E w (bL kt x) (encV kt x):=by
 match kt,h,x with
 | .i k,_,x=>exact .c _ _ (.lit _)
 | .b,_,x=>exact .c _ _ (.lit _)
 | .s,_,x=>exact .c _ _ (.lit _)
 | .st k,h,x =>
  refine .agg ((Ty.enc (.st k) x).map vE) ((Ty.enc (.st k) x).map .c) (by simp) fun i v d hv hd=>?_
  rw [List.getElem?_map] at hv hd
  cases hx:(Ty.enc (.st k) x)[i]? with
  | none=>rw [hx] at hv;cases hv
  | some y =>
   rw [hx] at hv hd
   cases hv;cases hd
   refine .c _ _ ?_
   have e:=EW (lf k) (EU k x) h y (List.mem_of_getElem? hx)
   rw [e]
   exact .lit _
theorem Ik (hH:aq E w H) {x:Operand} (ho:o.op = .entry x) {vx:V} (hx:ai E w (ρ x) vx) (h:tz H vx = some r) (hp:∀ p∈r.pre,p):iL P ρ o E w r:=by
 unfold tz at h
 split at h
 ·next q k i j =>
  split at h
  ·next m s l hg =>
   cases hb0:Nat.beq (i*k+j) 0 with
   | false=>rw [hb0] at h;cases h
   | true =>
    rw [hb0,cond_true] at h
    have h0:=Nat.eq_of_beq_eq_true hb0
    split at h
    ·next q2 tm kt vt ks vs p l' hm =>
     cases hkt:kt.key with
     | false=>rw [hkt] at h;cases h
     | true =>
     rw [hkt,cond_true] at h
     cases h
     have hks:af ks.length s = true:=hp _ (by simp)
     have hks:(ks.length:Int) = s:=by simpa [af] using hks
     have hp0:0≤p:=hp _ (by simp)
     have hp1:p.toNat < ks.length:=hp _ (by simp)
     obtain ⟨_,hlen,b,bm,sn,seen,c,h1,h2,⟨h3,h5,h6⟩,h4⟩:=hH.at_ _ _ hg
     obtain ⟨bm',e1,hl,hc,hg2⟩:=ii hH h4 hm
     cases e1
     obtain ⟨_,_,k2,b',es,clock,g3,g4,g5,g6,g7,g8,g9⟩:=hH.at_ _ _ hg2
     rw [hc] at g3;cases g3
     have ex:ρ x = .pointer (some ⟨b,0,none⟩):=by
      generalize ρ x = v at hx
      cases hx with
      | ptr _ _ _ _ b' g1 g2 g3=>rw [h1] at g2;cases g2;rw [h0]
     have hlt:p.toNat < es.size:=by rw [g6];exact hp1
     have he:es[p.toNat]? = some es[p.toNat]:=Array.getElem?_eq_getElem hlt
     obtain ⟨a1,a2⟩:=g7 _ _ he
     have a3:=g9 _ _ he
     have hseen:∃ sd:Array Nat,seen = sd.push es[p.toNat].born:=by
      have e2:seen.toList.reverse.map (fun q:Nat=>(q:Int)) = p :: l':=h6
      cases hr:seen.toList.reverse with
      | nil=>rw [hr] at e2;cases e2
      | cons y ys =>
       rw [hr,List.map_cons] at e2
       have e3:(y:Int) = p:=(List.cons.inj e2).1
       refine ⟨ys.reverse.toArray, ?_⟩
       have e4:seen.toList = ys.reverse++[y]:=by rw [← List.reverse_reverse seen.toList,hr,List.reverse_cons]
       apply Array.ext'
       rw [e4,Array.toList_push,a3]
       congr 2
       omega
     obtain ⟨sd,rfl⟩:=hseen
     have hcl:c = clock:=by omega
     subst hcl
     have hr:=run_entry_at (P:=P) w b bm sn sd es c es[p.toNat] h2 g4 (by simp) g5.2.1
     refine ⟨rfl,rfl, .tuple #[es[p.toNat].key,es[p.toNat].val], ?_, .tup [es[p.toNat].key,es[p.toNat].val] _ rfl fun i v d hv hd=>?_⟩
     ·simp only [execOp,ho,ex,Sem.run_bind,hr,Result.andThen_ok]
      rfl
     ·match i,hv,hd with
      | 0,hv,hd=>cases hv;cases hd;rw [a1];exact Ia hkt _
      | 1,hv,hd=>cases hv;cases hd;exact a2.rep
    ·cases h
  ·cases h
 ·cases h
theorem Mk (hH:aq E w H) (hf:¬ E.live nid) {x:Operand} (ho:o.op = .next x true) {vx:V} (hx:ai E w (ρ x) vx) (h:zp H vx = some r) :
  ∃ E' w' v',(execOp ρ o).run P w = .ok (.value v') w'∧co E w H nid r E' w' v':=by
 unfold zp at h
 split at h
 ·next q k i j =>
  split at h
  ·next s pos hg =>
   cases hb0:Nat.beq (i*k+j) 0 with
   | false=>simp [hb0] at h
   | true =>
    simp only [hb0,cond_true,Option.some.injEq] at h
    have h0:=Nat.eq_of_beq_eq_true hb0
    obtain ⟨hl,hlen,b,hb,hh⟩:=hH.at_ _ _ hg
    have ex:ρ x = .pointer (some ⟨b,0,none⟩):=by
     generalize ρ x = v at hx
     cases hx with
     | ptr _ _ _ _ b' g1 g2 g3=>rw [hb] at g2;cases g2;rw [h0]
    subst h
    have hlt:=dt hh
    refine ⟨_,dO w b (.stringIter s (bif Nat.blt pos s.size then pos+BW s pos else pos)),Cw (Nat.blt pos s.size) [.int .i64 pos, .int .i32 (Cv s pos)], ?_,
     qT hH hf hl hb _ (ob:=.raw (.stringIter s (bif Nat.blt pos s.size then pos+BW s pos else pos))) rfl rfl (fun E' h1 h2 h3 _ _=>⟨h3.trans hlen,b,h1,oX _ hlt⟩) fun _=>.c _ _ (.opt _ _)⟩
    by_cases hp:pos < s.size
    ·have hp':Nat.blt pos s.size = true:=by simpa using hp
     have:(Instr.next (.pointer (some ⟨b,0,none⟩)) true o.type).run P w = .ok (.tuple #[.bool true, .int .i64 pos, .int .i32 (Cv s pos)]) (dO w b (.stringIter s (pos+BW s pos))):=by
      simp [Instr.next,getObj,setObj,Sem.run,hh,hp,goInt,Cv,BW,dO]
     rw [hp']
     simp only [execOp,ho,ex,Sem.run_bind,this,Result.andThen_ok]
     rfl
    ·have hp':Nat.blt pos s.size = false:=by
      cases hc:Nat.blt pos s.size with
      | false=>rfl
      | true=>rw [Nat.blt_eq] at hc;exact (hp hc).elim
     have hw:dO w b (.stringIter s pos) = w:=by
      unfold dO
      congr 1
      apply Array.ext_getElem?
      intro i
      by_cases e:b = i
      ·subst e;rw [Array.getElem?_setIfInBounds,if_pos rfl,if_pos hlt,hh]
      ·rw [Array.getElem?_setIfInBounds,if_neg e]
     have:(Instr.next (.pointer (some ⟨b,0,none⟩)) true o.type).run P w = .ok (.tuple #[.bool false]) w:=by
      simp [Instr.next,getObj,Sem.run,hh,hp]
     rw [hp']
     simp only [execOp,ho,ex,Sem.run_bind,this,Result.andThen_ok,cond_false,hw]
     rfl
  ·cases h
 ·cases h
theorem Aj:∀ (ns:List Int) (s:ByteArray),ns.foldl (fun r n=>r.push (UInt8.ofNat n.toNat)) s = ⟨s.data++(ns.map fun x=>UInt8.ofNat x.toNat).toArray⟩
 | [],s=>by simp
 | n :: ns,s=>by
  rw [List.foldl_cons,Aj ns]
  congr 1
  simp [ByteArray.push]
theorem Js (hH:aq E w H) {s d e:TypeId} (hs:P.underlying s = some (.slice e)) (hd:P.underlying d = some .string) (he:P.underlying e = some (.int .u8)) {x:Operand} (ho:o.op = .convert s d x) {vx:V} (hx:ai E w (ρ x) vx)
  (h:Cl H vx = some r):iL P ρ o E w r:=by
 unfold Cl at h
 cases ha:cn H (.i .u8) vx with
 | none=>rw [ha] at h;cases h
 | some l =>
  rw [ha] at h
  simp only [Option.map_some,Option.some.injEq] at h
  subst h
  obtain ⟨news,hsrc⟩:=mu hH hx ha
  obtain ⟨a,c,ev,hc,hm,hcell⟩:=hsrc.form
  refine ⟨rfl,rfl, .string (tM l), ?_, .lit _⟩
  have hlen:news.length = l.length:=by have:=hsrc.len;simpa [Ty.k] using this
  have hnews:news = l.map (Value.int .u8):=by
   refine List.ext_getElem? fun i=>?_
   by_cases hi:i < l.length
   ·have h1:i < news.length:=by omega
    have e1:els (.i .u8) l i = [.lit (.int .u8 l[i])]:=by
     rw [dM,List.getD_eq_getElem?_getD,List.getElem?_eq_getElem hi];rfl
    have hr:=hsrc.rep i 0 (.lit (.int .u8 l[i])) (news[i]) hi (by rw [e1];rfl) (by show news[i*1+0]? = _;rw [Nat.mul_one,Nat.add_zero];exact List.getElem?_eq_getElem h1)
    rw [List.getElem?_eq_getElem h1,List.getElem?_map,List.getElem?_eq_getElem hi]
    simp only [Option.map_some,Option.some.injEq]
    generalize news[i] = z at hr
    cases hr with
    | lit=>rfl
   ·rw [List.getElem?_eq_none (by omega),List.getElem?_eq_none (by simp;omega)]
  have key:(Conv.bytesToString (ρ x)).run P w = .ok (.string (tM l)) w:=by
   rw [ev]
   cases l with
   | nil =>
    cases a with
    | none=>rfl
    | some ad =>
     have:=run_bytesToString (P:=P) w ad 0 c [] (by have:=run_loadCells (P:=P) w ad 0 (fun _=>undef) (fun j hj=>by omega);simpa using this)
     rw [List.length_nil,this];rfl
   | cons y l =>
    obtain ⟨ad,rfl,hcl⟩:=hcell (by simp)
    have hload:(loadCells ad (y :: l).length).run P w = .ok ((y :: l).map (Value.int .u8)).toArray w:=by
     have:=run_loadCells_list (P:=P) w ad news (fun j v hv=>hcl j v hv)
     rw [hlen] at this
     rw [this,hnews]
    rw [run_bytesToString w ad (y :: l).length c _ hload,Aj]
    simp [tM]
  rw [ev] at key
  simp [execOp,ho,ev,convert,run_underlying hs,run_underlying hd,run_underlying he,key]
theorem JL {e:TypeId} {z:List D} (h:ou P e = some z):∃ (i:TypeInfo) (v:Value),P.info? e = some i∧i.zero = some v∧v.cells.size = z.length∧(∀ u∈v.cells.toList,u.oneCell' = true) ∧
  ∀ (ok:Nat→Prop) (w:World) (j:Nat) (d:D) (u:Value),z[j]? = some d→v.cells[j]? = some u→aw ok w u d:=by
 have h0:=h
 unfold ou at h0
 split at h0
 ·next zv hzv =>
  obtain ⟨i,v,h1,h2,h3,h4⟩:=kA hzv
  obtain ⟨i',v',g1,g2,g3,g4,g5⟩:=FU h
  rw [h1] at g1;cases g1
  rw [h2] at g2;cases g2
  refine ⟨i,v,h1,h2,g3,G6 v h3 h4 (sq h0),fun ok w j d u hd hu=>?_⟩
  have:=(cK (E:=RH ok) (w:=w) v h4).2 j u (.c d) (by rw [Array.getElem?_toList];exact hu) (g4 j d hd)
  cases this with
  | c _ _ h=>exact h
 ·cases h0
theorem MS {t:Ty} {l:List t.T} {y:t.T} {off n i:Nat} (h:off+n≤l.length) (hi:i < l.length):els t (w9 y l off n) i = if off≤i∧i < off+n then t.enc y else els t l i:=by
 unfold w9
 rw [Ew,List.length_take,Nat.min_eq_left (by omega)]
 by_cases h1:i < off
 ·rw [if_pos h1,if_neg (by omega),dM,dM,List.getD_eq_getElem?_getD,List.getElem?_take_of_lt h1,List.getD_eq_getElem?_getD]
 ·rw [if_neg h1,Ew,List.length_replicate]
  by_cases h2:i < off+n
  ·rw [if_pos (by omega),if_pos ⟨by omega,h2⟩,C9 (by omega)]
  ·have a1:¬ (i - off < n):=by omega
   have a2:¬ (off≤i∧i < off+n):=by omega
   rw [if_neg a1,if_neg a2,dM,dM,List.getD_eq_getElem?_getD,List.getElem?_drop,List.getD_eq_getElem?_getD]
   congr 3;omega
theorem Lp {T:Type} {l:List T} {y:T} {off n:Nat} (h:off+n≤l.length):(w9 y l off n).length = l.length:=by simp [w9];omega
theorem LG (hH:aq E w H) (hf:¬ E.live nid) {c:Call} (ho:o.op = .call c) (hcal:c.callee = .builtin .clear) {x:Operand} (hargs:c.args = #[x]) {t:TypeId} (hat:c.argTypes[0]? = some t) {vx:V} (hx:ai E w (ρ x) vx)
  (h:oF P H t vx = some r) (hp:∀ p∈r.pre,p):∃ E' w' v',(execOp ρ o).run P w = .ok (.value v') w'∧co E w H nid r E' w' v':=by
 have run:∀ w',(Builtin.clear_ c.argTypes o.type #[ρ x]).run P w = .ok (.tuple #[]) w'→(execOp ρ o).run P w = .ok (.value (.tuple #[])) w':=by
  intro w' hn
  simp [execOp,ho,resolve,hcal,hargs,invoke,builtin,hn]
 have main:∀ (e:TypeId) (z:List D) (q e':Nat) (ty:Ty) (l l':List ty.T) (y:ty.T) (off n:Nat) (a:Option Addr) (cp:Nat),P.underlying t = some (.slice e)→ou P e = some z→ae.get H q = some (.row e' ty l)→jU ty z = some y →
   (e' = e∧ty.k = sz P e∧z.length = ty.k∧0 < ty.k)→ρ x = .slice a n cp→n≤cp→E.live q→off+n≤l.length→(0 < n→∃ b,E.conc q = some b∧a = some ⟨b,off*ty.k,none⟩)→l'.length = l.length →
   (∀ i,i < l.length→els ty l' i = if off≤i∧i < off+n then ty.enc y else els ty l i)→r.val = .c .unk→r.eff = [(q,some (.row e' ty l'))]→r.kill = [] →
   ∃ E' w' v',(execOp ρ o).run P w = .ok (.value v') w'∧co E w H nid r E' w' v':=by
  intro e z q e' ty l l' y off n a cp hu hz hg hy hcs hv hc hn hlen ha hll hel hrv hre hrk
  obtain ⟨rfl,hk1,hk2,hk0⟩:=hcs
  obtain ⟨hl,hob⟩:=hH.at_ _ _ hg
  obtain ⟨i,zv,z1,z2,z3,z4,z5⟩:=JL hz
  have hyl:=lj ty _ _ hy
  rw [hv] at run
  by_cases hn0:n = 0
  ·subst hn0
   have hS:dc E w [] (E.next nid none 0 0 E.ok) w:=cw hf none 0 0 E.ok (.refl _ _) (by simp) (fun _ h=>h) (fun _ h=>.inl h)
   have hN:aq (E.next nid none 0 0 E.ok) w H:=cI hf hH (.refl _ _) (by simp) (fun _ h=>h) (fun _ h=>.inl h) hH.oklt
   refine ⟨_,w, .tuple #[],run w ?_,by rw [hrk];exact hS, ?_,by rw [hrv];exact .c _ _ (.unk _),bC⟩
   ·cases a <;> simp [Builtin.clear_,hat,run_underlying hu]
   ·rw [hre,hrk]
    refine iS hN (hN.at_ _ _ hg).1 ?_
    exact BZ.congr (hN.at_ _ _ hg).2 rfl hll.symm fun i hi=>by
     rw [hel i hi,if_neg (by omega)];exact .refl _
  ·obtain ⟨b,hb,rfl⟩:=ha (by omega)
   obtain ⟨hlen2,hrow⟩:=hob
   obtain ⟨b',C,c1,c2,c3,c4,c5,c6,c7,c8⟩:=hrow.resolve_left (fun h=>by rw [hb] at h;cases h.1)
   rw [hb] at c1;cases c1
   have hfit:off*ty.k+n*ty.k≤C.size:=by
    rw [c3, ← Nat.add_mul]
    exact Nat.mul_le_mul_right _ (by omega)
   have hzl:(Builtin.zeroCells zv.cells n).toList.length = n*ty.k:=by simp [Builtin.zeroCells,z3,hk2]
   have hzu:∀ q u,(Builtin.zeroCells zv.cells n).toList[q]? = some u→q < n*ty.k∧zv.cells[q % ty.k]? = some u:=by
    intro q u hq
    have hlt:=(List.getElem?_eq_some_iff.1 hq).1
    rw [hzl] at hlt
    refine ⟨hlt, ?_⟩
    have hm:q % ty.k < zv.cells.size:=by rw [z3,hk2];exact Nat.mod_lt _ hk0
    rw [Array.getElem?_toList] at hq
    unfold Builtin.zeroCells at hq
    rw [Array.getElem?_map,z3,hk2,Array.getElem?_range,if_pos hlt] at hq
    simp only [Option.map_some,Option.some.injEq] at hq
    rw [getElem!_pos zv.cells _ hm] at hq
    rw [Array.getElem?_eq_getElem hm,hq]
   have hone:∀ u∈(Builtin.zeroCells zv.cells n).toList,u.oneCell' = true:=by
    intro u hu'
    obtain ⟨q,hq⟩:=List.getElem?_of_mem hu'
    obtain ⟨_,h2⟩:=hzu q u hq
    exact z4 u (List.mem_of_getElem? (by rw [Array.getElem?_toList];exact h2))
   have hst:=run_storeCells_at P b (off*ty.k) e' (Builtin.zeroCells zv.cells n).toList 0 C w c2 (by rw [hzl];exact hfit) hone
   rw [Nat.add_zero] at hst
   rw [hzl] at hst
   generalize hC':(C.toList.take (off*ty.k)++(Builtin.zeroCells zv.cells n).toList++C.toList.drop (off*ty.k+n*ty.k)).toArray = C' at hst
   have hrow':w.setRow b C' = dO w b (.cells C' e' (0,0)):=by
    have hlt:=dt c2
    have h1:=setRow_heap w b C C' e' (0,0) c2
    unfold World.setRow dO
    unfold World.setRow at h1
    congr 1
    apply Array.ext_getElem?
    intro j
    by_cases e:b = j
    ·subst e
     rw [Array.getElem?_setIfInBounds,if_pos rfl,if_pos hlt]
     exact h1
    ·rw [Array.getElem?_setIfInBounds,if_neg e,Array.getElem?_modify,if_neg e]
   have hget:∀ q,C'[q]? = if off*ty.k≤q∧q < off*ty.k+n*ty.k then (Builtin.zeroCells zv.cells n).toList[q - off*ty.k]? else C[q]?:=by
    intro q
    rw [← hC',List.getElem?_toArray]
    have ht:(C.toList.take (off*ty.k)).length = off*ty.k:=by rw [List.length_take,Array.length_toList];omega
    by_cases h1:q < off*ty.k
    ·rw [if_neg (by omega),List.append_assoc,List.getElem?_append_left (by omega),List.getElem?_take_of_lt h1,Array.getElem?_toList]
    ·by_cases h2:q < off*ty.k+n*ty.k
     ·rw [if_pos ⟨by omega,h2⟩,List.append_assoc,List.getElem?_append_right (by omega),ht,List.getElem?_append_left (by omega)]
     ·rw [if_neg (by omega),List.getElem?_append_right (by rw [List.length_append];omega),List.length_append,ht,hzl,List.getElem?_drop,Array.getElem?_toList]
      congr 1;omega
   have hsz:C'.size = C.size:=by
    rw [← hC']
    simp [hzl]
    omega
   refine ⟨_,dO w b (.cells C' e' (0,0)), .tuple #[],run _ ?_,qT hH hf hl hb _ (ob:=.row e' ty l') hre hrk (fun E' h1 h2 h3 hr hd=>⟨(h3.trans hlen2).trans hll.symm, .inr ⟨b,C',h1,oX _ (dt c2),by rw [hsz,h2];exact c3,by rw [h2,hll];exact c4,by rw [h2];exact c5,fun i hi=>dE ty l' i, ?_, ?_⟩⟩) fun _=>by rw [hrv];exact .c _ _ (.unk _)⟩
   ·obtain ⟨n',rfl⟩:∃ n',n = n'+1:=⟨n - 1,by omega⟩
    have hzv:=fV (P:=P) (w:=w) z1 z2
    simp [Builtin.clear_,hat,run_underlying hu,hzv,hst,hrow']
   ·intro q' j u hq hj hu'
    rw [hll] at hq
    rw [hget] at hu'
    split at hu'
    ·exact hone u (List.mem_of_getElem? hu')
    ·exact c7 q' j u hq hj hu'
   ·intro q' j d u hq hd' hu'
    rw [hll] at hq
    rw [hget] at hu'
    rw [hel q' hq] at hd'
    by_cases hc:off≤q'∧q' < off+n
    ·rw [if_pos hc] at hd'
     have hj:j < ty.k:=by rw [← gI ty y];exact (List.getElem?_eq_some_iff.1 hd').1
     have a1:off*ty.k≤q'*ty.k:=Nat.mul_le_mul_right _ hc.1
     have a2:(q'+1)*ty.k≤(off+n)*ty.k:=Nat.mul_le_mul_right _ hc.2
     rw [Nat.add_mul,Nat.one_mul,Nat.add_mul] at a2
     rw [if_pos ⟨by omega,by omega⟩] at hu'
     obtain ⟨_,h2⟩:=hzu _ _ hu'
     have:(q'*ty.k+j - off*ty.k) % ty.k = j:=by
      obtain ⟨p,rfl⟩:∃ p,q' = off+p:=⟨q' - off,by omega⟩
      rw [Nat.add_mul,show off*ty.k+p*ty.k+j - off*ty.k = j+p*ty.k by omega,Nat.add_mul_mod_self_right,Nat.mod_eq_of_lt hj]
     rw [this] at h2
     obtain ⟨d0,hd0,hdd⟩:=hyl.at hd'
     exact (z5 _ _ j d0 u hd0 h2).le hdd
    ·rw [if_neg hc] at hd'
     have hj:j < ty.k:=by rw [← c6 q' hq];exact (List.getElem?_eq_some_iff.1 hd').1
     have hno:¬ (off*ty.k≤q'*ty.k+j∧q'*ty.k+j < off*ty.k+n*ty.k):=by
      rintro ⟨g1,g2⟩
      by_cases h1:off≤q'
      ·have h2:off+n≤q':=by omega
       have:=Nat.mul_le_mul_right ty.k h2
       rw [Nat.add_mul] at this
       omega
      ·have:(q'+1)*ty.k≤off*ty.k:=Nat.mul_le_mul_right _ (by omega)
       rw [Nat.add_mul,Nat.one_mul] at this
       omega
     rw [if_neg hno] at hu'
     exact hd _ _ (c8 q' j d u hq hd' hu')
 unfold oF at h
 split at h
 ·next e hu =>
  split at h
  ·next z hz =>
   split at h
   ·next q k =>
    split at h
    ·next e' ty l hg =>
     split at h
     ·next y hy =>
      cases hs:(Nat.beq e' e&&Nat.beq ty.k k&&Nat.beq k (sz P e)&&Nat.beq z.length k&&Nat.blt 0 k&&bI P e) with
      | false=>simp [hs] at h
      | true =>
       simp only [hs,cond_true,Option.some.injEq] at h
       simp only [Bool.and_eq_true,Nat.beq_eq,Nat.blt_eq] at hs
       obtain ⟨⟨⟨⟨⟨rfl,rfl⟩,hk1⟩,hk2⟩,hk0⟩,hkn⟩:=hs
       subst h
       have hlen:E.len q = l.length:=(hH.at_ _ _ hg).2.1
       generalize hv:ρ x = v at hx
       cases hx with
       | row _ _ a n cp hn hl hc hm h0 =>
        have hnl:n = l.length:=hl.trans hlen
        subst hnl
        exact main e' z q e' ty l _ y 0 l.length a cp hu hz hg hy ⟨rfl,hk1,hk2,hk0⟩ hv hc hn (by omega) (fun h=>by
         rcases h0 with ⟨_,h0,_⟩ | ⟨b,hb,ha,_⟩
         ·omega
         ·exact ⟨b,hb,by rw [ha,Nat.zero_mul]⟩) (by simp) (fun i hi=>by rw [C9 hi,if_pos (by omega)]) rfl rfl rfl
     ·cases h
    ·cases h
   ·next q k off n =>
    split at h
    ·next e' ty l hg =>
     split at h
     ·next y hy =>
      cases hs:(Nat.beq e' e&&Nat.beq ty.k k&&Nat.beq k (sz P e)&&Nat.beq z.length k&&Nat.blt 0 k&&bI P e) with
      | false=>simp [hs] at h
      | true =>
       simp only [hs,cond_true,Option.some.injEq] at h
       simp only [Bool.and_eq_true,Nat.beq_eq,Nat.blt_eq] at hs
       obtain ⟨⟨⟨⟨⟨rfl,rfl⟩,hk1⟩,hk2⟩,hk0⟩,hkn⟩:=hs
       subst h
       have hp1:off+n≤l.length:=hp _ (by simp)
       generalize hv:ρ x = v at hx
       cases hx with
       | sub _ _ _ _ a cp hn hc hm hl ha =>
        exact main e' z q e' ty l _ y off n a cp hu hz hg hy ⟨rfl,hk1,hk2,hk0⟩ hv hc hn hp1 ha (Lp hp1) (fun i hi=>MS hp1 hi) rfl rfl rfl
     ·cases h
    ·cases h
   ·cases h
  ·cases h
 ·cases h
end
end Go.Ax
namespace Go.Ax
open Go.RowKit
def fL (ok:Nat→Prop):an:=⟨fun _=>none,fun _=>0,fun _=>0,fun _=>False,ok⟩
def Cf (ok:Nat→Prop) (w w':World) (v:Value):js→Prop
 | .data d=>ai (fL fun b=>ok b∨(w.heap.size≤b∧b < w'.heap.size)) w' v d
 | .new d=>ai (fL fun b=>w.heap.size≤b∧b < w'.heap.size) w' v d
 | .own fr e t l=>∃ xs,w'.ownsRow w.heap.size e t.k v l.length xs∧(∀ i j u,i < l.length→j < t.k→xs[i*t.k+j]? = some u→u.oneCell' = true) ∧
   ∀ i j d u,i < l.length→(els t l i)[j]? = some d→xs[i*t.k+j]? = some u→aw (fun b=>(fr = false∧ok b)∨(w.heap.size≤b∧b < w'.heap.size∧v.ownBlock≠some b)) w' u d
def jI (P:Program) (f:FuncId) (args:Array Value) (w:World) (R:Value→World→Prop):Prop :=
 ((callFunc f args).run P w = .ok (.enter f args) w∧Calls P f args w fun e w'=>∃ v,e = .returned v∧R v w')∨∃ v w',(callFunc f args).run P w = .ok (.value v) w'∧R v w'
theorem jI.mono {P:Program} {f:FuncId} {args:Array Value} {w:World} {R R':Value→World→Prop} (h:jI P f args w R) (hr:∀ v w',R v w'→R' v w'):jI P f args w R':=by
 rcases h with ⟨h1,h2⟩ | ⟨v,w',h1,h2⟩
 ·refine .inl ⟨h1,h2.mono ?_⟩
  rintro e w' ⟨v,rfl,h⟩
  exact ⟨v,rfl,hr v w' h⟩
 ·exact .inr ⟨v,w',h1,hr v w' h2⟩
def Ls (P:Program) (f:FuncId) (con:J8):Prop :=
 ∀ (ok:Nat→Prop) (w:World) (xs:List Value) (vs:List V) (p:Bool) (out:js),aF (fL ok) w xs vs→(∀ b,ok b→b < w.heap.size)→con vs = some (p,out)→p = true →
  jI P f xs.toArray w fun v w'=>Below w.heap.size w w'∧Cf ok w w' v out
def aQ (P:Program) (f:FuncId):CC→Prop
 | .pure c=>Ls P f c
 | .mut m=>∀ (E:an) (w:World) (H:ae) (nid:Nat) (xs:List Value) (args:List V) (r:av),aq E w H→fy E nid→aF E w xs args→m (aY (aC H args) H) nid args = some r→(∀ p∈r.pre,p) →
  jI P f xs.toArray w fun v w'=>∃ E',co E w H nid r E' w' v
section
variable {P:Program} {ρ:Operand→Value} {E:an} {w w':World} {o:Oper} {r:av} {H:ae} {nid:Nat}
theorem gn (H:ae):∀ vs:List V,(V.views H vs).length = vs.length
 | []=>rfl
 | _ :: r=>by simp [V.views,gn H r]
theorem kF (H:ae):∀ (vs:List V) (i:Nat),(V.views H vs)[i]? = (vs[i]?).map (V.view H)
 | [],i=>by simp [V.views]
 | v :: r,0=>by simp [V.views]
 | v :: r,i+1=>by simp [V.views,kF H r i]
theorem qd {ok':Nat→Prop} (hok:∀ b,E.ok b→ok' b) (hown:∀ q b,E.live q→E.conc q = some b→ok' b) {v:Value} {t:Ty} {l:List t.T} {news:List Value} (h:HV E w v t.k l.length (els t l) news):aw ok' w v (.sl t l):=by
 obtain ⟨a,c,rfl,hc,hm,hcell⟩:=h.form
 have hlt:∀ i j,i < l.length→j < t.k→i*t.k+j < news.length:=by
  intro i j hi hj
  rw [h.len]
  have:(i+1)*t.k≤l.length*t.k:=Nat.mul_le_mul_right _ hi
  rw [Nat.add_mul,Nat.one_mul] at this
  omega
 refine .sl t l a l.length c t.k (els t l) (fun i j=>news.getD (i*t.k+j) undef) rfl rfl (fun _ _=>rfl) hc hm (fun hn=>?_) (fun i j hi hj=>?_) h.els (fun i j d hi hd=>?_)
 ·obtain ⟨ad,rfl,hq⟩:=hcell hn
  refine ⟨ad,rfl, ?_,fun i j hi hj=>hq _ _ ?_⟩
  ·rcases h.blk ad _ c rfl hn with h | ⟨q,h1,h2⟩
   ·exact hok _ h
   ·exact hown q _ h1 h2
  ·rw [List.getD_eq_getElem?_getD,List.getElem?_eq_getElem (hlt i j hi hj)];rfl
 ·refine h.one _ ?_
  show news.getD (i*t.k+j) undef∈news
  rw [List.getD_eq_getElem?_getD,List.getElem?_eq_getElem (hlt i j hi hj)]
  exact List.getElem_mem _
 ·have hj:j < t.k:=by rw [← h.els i hi];exact (List.getElem?_eq_some_iff.1 hd).1
  refine (h.rep i j d (news.getD (i*t.k+j) undef) hi hd ?_).mono hok (fun _ _=>rfl)
  rw [List.getD_eq_getElem?_getD,List.getElem?_eq_getElem (hlt i j hi hj)]
  rfl
theorem kV (t:Ty) (l:List t.T):kL t t l = some l:=by rw [kL,dif_pos rfl]
theorem IB {ok':Nat→Prop} (hH:aq E w H) (hok:∀ b,E.ok b→ok' b) (hown:∀ q b,E.live q→E.conc q = some b→ok' b) {v:Value} {o' k:Nat} (h:ai E w v (.row o' k)) :
  ∃ d,rz H o' k = .c d∧aw ok' w v d:=by
 unfold rz
 split
 ·next e t l hg =>
  cases hs:Nat.beq t.k k with
  | false=>exact ⟨.unk,rfl, .unk _⟩
  | true =>
   have ha:cn H t (.row o' k) = some l:=by simp [cn,hg,hs,kV]
   obtain ⟨news,hsrc⟩:=mu hH h ha
   exact ⟨_,rfl,qd hok hown hsrc⟩
 ·exact ⟨.unk,rfl, .unk _⟩
theorem HF {ok':Nat→Prop} (hH:aq E w H) (hok:∀ b,E.ok b→ok' b) (hown:∀ q b,E.live q→E.conc q = some b→ok' b) {v:Value} {o' k off n:Nat} (h:ai E w v (.sub o' k off n)) :
  ∃ d,qt H o' k off n = .c d∧aw ok' w v d:=by
 unfold qt
 split
 ·next e t l hg =>
  cases hs:Nat.beq t.k k with
  | false=>exact ⟨.unk,rfl, .unk _⟩
  | true =>
   have ha:cn H t (.sub o' k off n) = some (aH l off n):=by simp [cn,hg,hs,kV]
   obtain ⟨news,hsrc⟩:=mu hH h ha
   exact ⟨_,rfl,qd hok hown hsrc⟩
 ·exact ⟨.unk,rfl, .unk _⟩
theorem MX {ok':Nat→Prop} (hH:aq E w H) (hok:∀ b,E.ok b→ok' b) (hown:∀ q b,E.live q→E.conc q = some b→ok' b) {v:Value} {d:V} (h:ai E w v d):aw ok' w v (nY H d):=by
 unfold nY
 split
 ·cases h with | c _ _ h=>exact h.mono hok fun _ _=>rfl
 ·next o' k =>
  obtain ⟨d,hd,hr⟩:=IB hH hok hown h
  rw [hd]
  exact hr
 ·next o' k off n =>
  obtain ⟨d,hd,hr⟩:=HF hH hok hown h
  rw [hd]
  exact hr
 ·exact .unk _
theorem A4 {ok':Nat→Prop} (hH:aq E w H) (hok:∀ b,E.ok b→ok' b) {v:Value} {d:V} (h:ai E w v d) :
    ((∀ q b,E.live q→E.conc q = some b→ok' b)∨d.refs = [])→ai (fL ok') w v (d.view H):=by
  induction h with
  | c v d h =>
    intro _
    exact .c _ _ (h.mono hok fun _ _=>rfl)
  | agg vs ds hl h ih =>
    intro hd
    rw [V.view]
    refine .agg _ _ (by rw [gn,hl]) fun i v d hv hd'=>?_
    rw [kF] at hd'
    cases hx:ds[i]? with
    | none=>rw [hx] at hd'; cases hd'
    | some x =>
      rw [hx] at hd'; cases hd'
      exact ih i v x hv hx (hd.imp id fun hr=>refs_nil hr hx)
  | tup vs ds hl h ih =>
    intro hd
    rw [V.view]
    refine .tup _ _ (by rw [gn,hl]) fun i v d hv hd'=>?_
    rw [kF] at hd'
    cases hx:ds[i]? with
    | none=>rw [hx] at hd'; cases hd'
    | some x =>
      rw [hx] at hd'; cases hd'
      exact ih i v x hv hx (hd.imp id fun hr=>refs_nil hr hx)
  | ptr o' k i j b hn hb hi =>
    intro hd
    have hown:∀ q b,E.live q→E.conc q = some b→ok' b:=hd.resolve_right (by simp [V.refs])
    rw [V.view]
    unfold HX
    split
    · next e ty l hg =>
      cases hs:Nat.beq ty.k k with
      | false=>exact .unk _
      | true =>
        have hkk:ty.k = k:=Nat.eq_of_beq_eq_true hs
        subst hkk
        simp only [cond_true]
        obtain ⟨C,h2,h3,h4,h6,h7,h8⟩:=nR hH hg hb
        obtain ⟨_,hlen,_⟩:=hH.at_ _ _ hg
        have him:i < l.length:=by omega
        have hik:(i+1)*ty.k≤E.cap o'*ty.k:=Nat.mul_le_mul_right _ (by omega)
        rw [Nat.add_mul,Nat.one_mul] at hik
        have hq:∀ q,q < ty.k→C[i*ty.k+q]? = some (C.getD (i*ty.k+q) undef):=by
          intro q hq
          have:i*ty.k+q < C.size:=by omega
          simp [Array.getD,this]
        have:=ai.dptr (E:=fL ok') (w:=w) ty.k (els ty l i) j ⟨b,i*ty.k,none⟩ (fun q=>C.getD (i*ty.k+q) undef) (hown o' b hn hb)
          (fun q hq'=>by rw [bJ,cell_of_row w b _ C e (0,0) h2];exact hq q hq') (h6 i him)
          (fun q d hd'=>by
            have hqk:q < ty.k:=by rw [← h6 i him];exact (List.getElem?_eq_some_iff.1 hd').1
            exact (h8 i q d _ him hd' (hq q hqk)).mono hok fun _ _=>rfl)
        rwa [bJ] at this
    · next cs hg =>
      cases hs:Nat.beq cs.length k with
      | false=>exact .unk _
      | true =>
        have hkk:cs.length = k:=Nat.eq_of_beq_eq_true hs
        simp only [cond_true]
        obtain ⟨_,hlen,b',C,te,h1,h2,h3⟩:=hH.at_ _ _ hg
        rw [h1] at hb;cases hb
        have hi0:i = 0:=by omega
        subst hi0
        have hq:∀ q,q < k→C[q]? = some (C.getD q undef):=by
          intro q hq
          have:q < C.size:=by have:=h3.1;simp at this;omega
          simp [Array.getD,this]
        have:=ai.dptr (E:=fL ok') (w:=w) k (cs.map (nY H)) j ⟨b,0,none⟩ (fun q=>C.getD q undef) (hown o' b hn h1)
          (fun q hq'=>by rw [bJ,Nat.zero_add,cell_of_row w b _ C te (0,0) h2];exact hq q hq') (by simpa using hkk)
          (fun q d hd'=>by
            rw [List.getElem?_map] at hd'
            cases hx:cs[q]? with
            | none=>rw [hx] at hd'; cases hd'
            | some x =>
              rw [hx] at hd'; cases hd'
              have hqk:q < k:=by rw [← hkk];exact (List.getElem?_eq_some_iff.1 hx).1
              exact MX hH hok hown (h3.2 q _ x (by rw [Array.getElem?_toList];exact hq q hqk) hx))
        rw [bJ,Nat.zero_add] at this
        simpa using this
    · exact .c _ _ (.unk _)
    · exact .c _ _ (.unk _)
    · exact .c _ _ (.unk _)
    · exact .c _ _ (.unk _)
  | row o' k a n c hn hl hc hm h0 =>
    intro hd
    have hown:∀ q b,E.live q→E.conc q = some b→ok' b:=hd.resolve_right (by simp [V.refs])
    rw [V.view]
    obtain ⟨d,hd',hr⟩:=IB hH hok hown (.row o' k a n c hn hl hc hm h0)
    rw [hd']
    exact .c _ _ hr
  | sub o' k off n a c hn hc hm hl ha =>
    intro hd
    have hown:∀ q b,E.live q→E.conc q = some b→ok' b:=hd.resolve_right (by simp [V.refs])
    rw [V.view]
    obtain ⟨d,hd',hr⟩:=HF hH hok hown (.sub o' k off n a c hn hc hm hl ha)
    rw [hd']
    exact .c _ _ hr
  | dptr k cs j ad u hok' hcell hl hu =>
    intro _
    rw [V.view]
    exact .dptr k cs j ad u (hok _ hok') hcell hl fun i d hd=>(hu i d hd).mono hok fun _ _=>rfl
  | fn f vs ds hl h ih =>
    intro hd
    rw [V.view]
    refine .fn _ _ _ (by rw [gn,hl]) fun i v d hv hd'=>?_
    rw [kF] at hd'
    cases hx:ds[i]? with
    | none=>rw [hx] at hd'; cases hd'
    | some x =>
      rw [hx] at hd'; cases hd'
      exact ih i v x hv hx (hd.imp id fun hr=>refs_nil hr hx)
where
  refs_nil {ds:List V} {i:Nat} {x:V} (h:V.refss ds = []) (hx:ds[i]? = some x):x.refs = []:=by
    cases hr:x.refs with
    | nil=>rfl
    | cons a l =>
      have:a∈V.refss ds:=ct hx (by rw [hr];simp)
      rw [h] at this
      simp at this
theorem Hb {vs:List V} (h:fU vs = false):V.refss vs = []:=by
 unfold fU at h
 split at h
 ·assumption
 ·cases h
mutual
theorem scalar_rep {ok:Nat→Prop} {w w':World} {E':an}:∀ (d:V) {v:Value},d.scalar = true→ai (fL ok) w v d→ai E' w' v d
 | .c d,v,hs,h=>by
  cases h with
  | c _ _ h =>
   cases h with
   | unk=>exact .unk _
   | nil=>exact .c _ _ .nil
   | lit=>exact .lit _
   | opt=>simp [V.scalar] at hs
   | any v h1=>exact .c _ _ (.any v h1)
   | sl=>simp [V.scalar] at hs
 | .agg ds,v,hs,h=>by
  cases h with
  | agg vs _ hl h=>exact .agg _ _ hl fun i v d hv hd=>scalars_rep ds (by simpa [V.scalar] using hs) i d v hd (h i v d hv hd)
 | .tup ds,v,hs,h=>by
  cases h with
  | tup vs _ hl h=>exact .tup _ _ hl fun i v d hv hd=>scalars_rep ds (by simpa [V.scalar] using hs) i d v hd (h i v d hv hd)
 | .ptr ..,v,hs,h=>by simp [V.scalar] at hs
 | .row ..,v,hs,h=>by simp [V.scalar] at hs
 | .sub ..,v,hs,h=>by simp [V.scalar] at hs
 | .dptr ..,v,hs,h=>by simp [V.scalar] at hs
 | .fn ..,v,hs,h=>by simp [V.scalar] at hs
theorem scalars_rep {ok:Nat→Prop} {w w':World} {E':an}:∀ (ds:List V),V.scalars ds = true→∀ (i:Nat) (d:V) (v:Value),ds[i]? = some d→ai (fL ok) w v d→ai E' w' v d
 | [],hs,i,d,v,hd,h=>by simp at hd
 | x :: r,hs,0,d,v,hd,h=>by
  simp only [V.scalars,Bool.and_eq_true] at hs
  simp at hd;subst hd
  exact scalar_rep x hs.1 h
 | x :: r,hs,i+1,d,v,hd,h=>by
  simp only [V.scalars,Bool.and_eq_true] at hs
  exact scalars_rep r hs.2 i d v (by simpa using hd) h
end
theorem Fu {ok:Nat→Prop} {E':an} (hok:∀ b,ok b→E'.ok b) {v:Value} {d:V} (h:ai (fL ok) w v d):ai E' w v d :=
 h.mono (E:=fL ok) (kl:=[]) hok (fun _ _=>rfl) (fun o (ho:False)=>ho.elim) (fun o (ho:False)=>ho.elim) (NM d)
theorem Cr (hH:aq E w H) (hf:fy E nid) {C:FuncId→Option CC} (hC:∀ f con,C f = some con→aQ P f con) {f:FuncId} {args:List V} {xs:List Value} (hx:aF E w xs args)
  (h:gV C H nid f args = some r) (hp:∀ p∈r.pre,p) :
  jI P f xs.toArray w fun v w'=>∃ E',co E w H nid r E' w' v:=by
 unfold gV at h
 split at h
 ·cases h
 ·next m hm=>exact hC f (.mut m) hm E w H nid xs args r hH hf hx h hp
 ·next con hcon =>
  have hmeet:Ls P f con:=hC f (.pure con) hcon
  have view:∀ ok':Nat→Prop,(∀ b,E.ok b→ok' b)→((∀ q b,E.live q→E.conc q = some b→ok' b)∨fU args = false)→aF (fL ok') w xs (V.views H args):=by
   intro ok' h1 h2
   refine ⟨by rw [gn];exact hx.1,fun i v d hv hd=>?_⟩
   rw [kF] at hd
   cases hy:args[i]? with
   | none=>rw [hy] at hd;cases hd
   | some y =>
    rw [hy] at hd;cases hd
    exact A4 hH h1 (hx.2 i v y hv hy) (h2.imp id fun h=>A4.refs_nil (Hb h) hy)
  have dat:∀ (w':World),Below w.heap.size w w'→dc E w [] (E.next nid none 0 0 fun b=>E.ok b∨(w.heap.size≤b∧b < w'.heap.size)) w'∧aq (E.next nid none 0 0 fun b=>E.ok b∨(w.heap.size≤b∧b < w'.heap.size)) w' H:=by
   intro w' hb
   refine ⟨cw hf.one none 0 0 _ hb (by simp) (fun _ h=>.inl h) (fun b h=>h.imp id (·.1)),cI hf.one hH hb (by simp) (fun _ h=>.inl h) (fun b h=>h.imp id (·.1)) fun b h=>?_⟩
   rcases h with h | h
   ·have:=hH.oklt b h;have:=hb.size;omega
   ·exact h.2
  have full:∀ q b,E.live q→E.conc q = some b→(fun b=>E.ok b∨∃ q,E.live q∧E.conc q = some b) b:=fun q b hq hb=>.inr ⟨q,hq,hb⟩
  have fulllt:∀ b,(fun b=>E.ok b∨∃ q,E.live q∧E.conc q = some b) b→b < w.heap.size:=by
   rintro b (h | ⟨q,h1,h2⟩)
   ·exact hH.oklt b h
   ·exact hH.lt q b h1 h2
  split at h
  ·cases h
  ·next p v hcv =>
   cases hs:((!fU args)||v.scalar) with
   | false=>simp [hs] at h
   | true =>
    simp only [hs,cond_true,Option.some.injEq] at h
    subst h
    have hpp:p = true:=hp _ (by simp)
    cases ha:fU args with
    | false =>
     refine (hmeet E.ok w xs _ p _ (view E.ok (fun _ h=>h) (.inr ha)) hH.oklt hcv hpp).mono ?_
     rintro u w' ⟨hb,hout⟩
     obtain ⟨hS,hN⟩:=dat w' hb
     exact ⟨_,hS,hN,Fu (fun _ h=>h) hout,bC⟩
    | true =>
     have hsc:v.scalar = true:=by simpa [ha] using hs
     refine (hmeet _ w xs _ p _ (view _ (fun _ h=>.inl h) (.inl full)) fulllt hcv hpp).mono ?_
     rintro u w' ⟨hb,hout⟩
     obtain ⟨hS,hN⟩:=dat w' hb
     exact ⟨_,hS,hN,scalar_rep v hsc hout,bC⟩
  ·next p v hcv =>
   cases h
   have hpp:p = true:=hp _ (by simp)
   refine (hmeet _ w xs _ p _ (view _ (fun _ h=>.inl h) (.inl full)) fulllt hcv hpp).mono ?_
   rintro u w' ⟨hb,hout⟩
   obtain ⟨hS,hN⟩:=dat w' hb
   exact ⟨_,hS,hN,Fu (E':=E.next nid none 0 0 fun b=>E.ok b∨(w.heap.size≤b∧b < w'.heap.size)) (fun _ h=>Or.inr h) hout,bC⟩
  ·next p fr e t l hcv =>
   cases hs:((!fU args)||fr) with
   | false=>simp [hs] at h
   | true =>
    simp only [hs,cond_true,Option.some.injEq] at h
    subst h
    have hpp:p = true:=hp _ (by simp)
    have fin:∀ (ok:Nat→Prop) (w':World) (u:Value),(fr = false→∀ b,ok b→E.ok b)→Below w.heap.size w w'→Cf ok w w' u (.own fr e t l) →
      ∃ E',co E w H nid { pre:=[p = true],val:=.row nid t.k,eff:=[(nid,some (.row e t l))] } E' w' u:=by
     rintro ok w' u hfr hb ⟨ys,hown,h7,h8⟩
     have hlt:=hown.lt
     have hown0:w'.ownsRow 0 e t.k u l.length ys:=⟨hown.1,hown.2.imp id fun ⟨g,cap,cur,a,_,c⟩=>⟨g,cap,cur,a,Nat.zero_le _,c⟩⟩
     let ok':Nat→Prop:=fun b=>E.ok b∨(w.heap.size≤b∧b < w'.heap.size∧u.ownBlock≠some b)
     have h1:∀ b,u.ownBlock = some b→w.heap.size≤b∧b < w'.heap.size∧¬ ok' b:=by
      intro b hb'
      obtain ⟨a1,a2⟩:=hlt b hb'
      refine ⟨a1,a2, ?_⟩
      rintro (h | ⟨_,_,h⟩)
      ·have:=hH.oklt b h;omega
      ·exact h hb'
     have h2:∀ b,ok' b→E.ok b∨w.heap.size≤b:=fun b h=>h.imp id (·.1)
     have h3:∀ b,ok' b→b < w'.heap.size:=by
      rintro b (h | h)
      ·have:=hH.oklt b h;have:=hb.size;omega
      ·exact h.2.1
     have hS:dc E w [] (E.next nid u.ownBlock (iA u) l.length ok') w':=cw hf.one _ _ _ ok' hb (fun b h=>(h1 b h).1) (fun _ h=>.inl h) h2
     have hN:=cI (cap:=iA u) (len:=l.length) hf.one hH hb h1 (fun _ h=>.inl h) h2 h3
     have hob:=mC (E':=E.next nid u.ownBlock (iA u) l.length ok') (q:=nid) hown0 (by simp [an.next]) (by simp [an.next]) (by intro a m c e;simp [an.next,e,iA]) h7
      (fun i j d x hi hd hx=>(h8 i j d x hi hd hx).mono (fun b hb'=>by
       rcases hb' with ⟨h,h'⟩ | h
       ·exact .inl (hfr h b h')
       ·exact .inr h) fun _ _=>rfl)
     exact ⟨_,hS,iS hN (.inl rfl) hob.1,hob.2 (.inl rfl),bC⟩
    cases ha:fU args with
    | false =>
     refine (hmeet E.ok w xs _ p _ (view E.ok (fun _ h=>h) (.inr ha)) hH.oklt hcv hpp).mono ?_
     rintro u w' ⟨hb,hout⟩
     obtain ⟨E',hP⟩:=fin _ w' u (fun _ _ h=>h) hb hout
     exact ⟨E',hP⟩
    | true =>
     have hfr:fr = true:=by simpa [ha] using hs
     refine (hmeet _ w xs _ p _ (view _ (fun _ h=>.inl h) (.inl full)) fulllt hcv hpp).mono ?_
     rintro u w' ⟨hb,hout⟩
     obtain ⟨E',hP⟩:=fin _ w' u (fun h=>by rw [hfr] at h;cases h) hb hout
     exact ⟨E',hP⟩
theorem aF.cons_inv {x:Value} {xs:List Value} {ds:List V} (h:aF E w (x :: xs) ds):∃ d ds',ds = d :: ds'∧ai E w x d∧aF E w xs ds':=by
 match ds with
 | []=>have:=h.1;simp at this
 | d :: ds'=>exact ⟨d,ds',rfl,h.2 0 _ _ rfl rfl,by have:=h.1;simpa using this,fun i v d a b=>h.2 (i+1) v d a b⟩
theorem aF.nil_inv {ds:List V} (h:aF E w [] ds):ds = []:=List.eq_nil_of_length_eq_zero h.1.symm
def an.fz (E:an) (o:Nat):an where
  conc q:=if q = o then none else E.conc q
  cap:=E.cap
  len q:=if q = o then 0 else E.len q
  live:=E.live
  ok b:=E.ok b∨E.conc o = some b
theorem jp (o:Nat) (t:Ty) (l:List t.T):∀ vs:List V,(V.fzs o t l vs).length = vs.length
 | []=>rfl
 | _ :: r=>by simp [V.fzs,jp o t l r]
theorem nT (o:Nat) (t:Ty) (l:List t.T):∀ (vs:List V) (i:Nat),(V.fzs o t l vs)[i]? = (vs[i]?).map (V.fz o t l)
 | [],i=>by simp [V.fzs]
 | v :: r,0=>by simp [V.fzs]
 | v :: r,i+1=>by simp [V.fzs,nT o t l r i]
theorem rG {q o:Nat} (h:q≠o):(E.fz o).conc q = E.conc q∧(E.fz o).cap q = E.cap q∧(E.fz o).len q = E.len q:=by simp [an.fz,h]
theorem l6 {q o b:Nat} (h:(E.fz o).conc q = some b):q≠o∧E.conc q = some b:=by
 by_cases e:q = o
 ·simp [an.fz,e] at h
 ·exact ⟨e,by rwa [(rG e).1] at h⟩
theorem D6 {o:Nat} (ho:E.live o):dc E w [o] (E.fz o) w :=
 ⟨rfl,rfl,rfl,Nat.le_refl _,fun _ h=>h,fun _ _ _=>rfl,fun _ h=>.inl h,fun b h=>h.elim .inl fun h=>.inr (.inr ⟨o,ho,h⟩),fun q _ hq=>rG (by simpa using hq),fun q b hq h=>.inl ⟨q,hq,(l6 h).2⟩⟩
theorem C7 {o:Nat} (hH:aq E w H) {e:TypeId} {t:Ty} {l:List t.T} (hg:H.get o = some (.row e t l)):aq (E.fz o) w ((o,some (.row e t [])) :: dU [o] H):=by
 have ho:=(hH.at_ o _ hg).1
 have hrv:∀ v d,ai E w v d→ai (E.fz o) w v (d.kill o):=fun v d h=>ai.step (D6 ho) hH.sep hH.oklt h
 have hrd:∀ v d,aw E.ok w v d→aw (E.fz o).ok w v d:=fun v d h=>h.mono (fun _ h=>.inl h) fun _ _=>rfl
 refine ⟨fun q ob hq=>?_,fun q q' b hq hq' h h'=>hH.inj q q' b hq hq' (l6 h).2 (l6 h').2,fun q b hq h=>?_,fun q b hq h=>hH.lt q b hq (l6 h).2,fun b h=>h.elim (hH.oklt b) (hH.lt o b ho)⟩
 ·rw [ae.get_cons] at hq
  split at hq
  ·next e1 =>
   subst e1;cases hq
   exact ⟨ho,by simp [an.fz], .inl ⟨by simp [an.fz],rfl⟩⟩
  ·next hne =>
   rw [dL] at hq
   obtain ⟨y,hy,hky⟩:=sU hq
   obtain ⟨h1,h2⟩:=hH.at_ q y hy
   refine ⟨h1, ?_⟩
   obtain ⟨c1,c2,c3⟩:=rG (E:=E) (fun e=>hne e.symm:q≠o)
   cases y with
   | box cs =>
    cases hky
    obtain ⟨hl,b,C,te,g1,g2,g3⟩:=h2
    refine ⟨c3.trans hl,b,C,te,c1.trans g1,g2,by rw [gc];exact g3.1,fun i v d hv hd=>?_⟩
    rw [j8] at hd
    cases hx':cs[i]? with
    | none=>rw [hx'] at hd;cases hd
    | some y=>rw [hx'] at hd;cases hd;exact hrv _ _ (g3.2 i v y hv hx')
   | raw x =>
    cases hky
    obtain ⟨hl,b,g1,g2⟩:=h2
    exact ⟨c3.trans hl,b,c1.trans g1,g2⟩
   | map t kt vt ks vs =>
    cases hky
    exact lS.mp h2 c1 c3 (fun _ _=>rfl) hrd
   | iter m s0 l0 =>
    cases hky
    obtain ⟨hl,b,bm,s,seen,c,g1,g2,g3,g4⟩:=h2
    exact ⟨c3.trans hl,b,bm,s,seen,c,c1.trans g1,g2,g3,hrv _ _ g4⟩
   | row te tt ll =>
    cases hky
    obtain ⟨hl,hh⟩:=h2
    refine ⟨c3.trans hl, ?_⟩
    rcases hh with ⟨g1,g2⟩ | ⟨b,C,g1,g2,g3,g4,g5,g6,g7,g8⟩
    ·exact .inl ⟨c1.trans g1,g2⟩
    ·exact .inr ⟨b,C,c1.trans g1,g2,by rw [c2];exact g3,by rw [c2];exact g4,by rw [c2];exact g5,g6,g7,fun i j d u a b c=>hrd _ _ (g8 i j d u a b c)⟩
 ·obtain ⟨h1,h2⟩:=l6 h
  rintro (h3 | h3)
  ·exact hH.sep q b hq h2 h3
  ·exact h1 (hH.inj q o b hq ho h2 h3)
theorem ym {o:Nat} (hH:aq E w H) {e:TypeId} {t:Ty} {l:List t.T} (hg:H.get o = some (.row e t l)) {v:Value} {d:V} (h:ai E w v d):ai (E.fz o) w v (d.fz o t l):=by
 induction h with
 | c v d h=>exact .c v d (h.mono (fun _ h=>.inl h) fun _ _=>rfl)
 | agg vs ds hl h ih =>
  rw [V.fz]
  refine .agg _ _ (by rw [jp,hl]) fun i v d hv hd=>?_
  rw [nT] at hd
  cases hx:ds[i]? with
  | none=>rw [hx] at hd;cases hd
  | some x=>rw [hx] at hd;cases hd;exact ih i v x hv hx
 | tup vs ds hl h ih =>
  rw [V.fz]
  refine .tup _ _ (by rw [jp,hl]) fun i v d hv hd=>?_
  rw [nT] at hd
  cases hx:ds[i]? with
  | none=>rw [hx] at hd;cases hd
  | some x=>rw [hx] at hd;cases hd;exact ih i v x hv hx
 | ptr o' k i j b hn hb hi =>
  rw [V.fz]
  cases hq:Nat.beq o' o
  ·have hne:o'≠o:=fun e=>by subst e;simp at hq
   obtain ⟨c1,c2,c3⟩:=rG (E:=E) hne
   exact .ptr o' k i j b hn (c1.trans hb) (by rw [c3];exact hi)
  ·exact .c _ _ (.unk _)
 | row o' k' a n' c hn hl hc hm h0 =>
  rw [V.fz]
  cases hq:Nat.beq o' o
  ·have hne:o'≠o:=fun e=>by subst e;simp at hq
   obtain ⟨c1,c2,c3⟩:=rG (E:=E) hne
   exact .row o' k' a n' c hn (by rw [c3];exact hl) hc hm (by rw [c1,c2];exact h0)
  ·have:=Nat.eq_of_beq_eq_true hq
   subst this
   rw [cond_true]
   cases hk:Nat.beq t.k k' with
   | false=>exact .c _ _ (.unk _)
   | true =>
    rw [cond_true]
    have hr:=ai.row o' k' a n' c hn hl hc hm h0 (w:=w)
    obtain ⟨news,hsrc⟩:=mu hH hr (show cn H t (.row o' k') = some l by simp [cn,hg,hk,kV])
    have hsrc':HV { E with live:=fun q=>q = o' } w (.slice a n' c) t.k l.length (els t l) news :=
     ⟨hsrc.form,fun ad n2 c2 he hn2=>by
      cases he
      rcases h0 with ⟨h0,_⟩ | ⟨b,hb,hab,_⟩
      ·cases h0
      ·cases hab
       exact .inr ⟨o',rfl,hb⟩,hsrc.len,hsrc.one,hsrc.els,hsrc.rep⟩
    exact .c _ _ (qd (E:={ E with live:=fun q=>q = o' }) (ok':=(E.fz o').ok) (fun _ h=>.inl h) (fun q b hq hb=>by
     have e1:q = o':=hq
     subst e1;exact .inr hb) hsrc')
 | sub o' k' off n' a c hn hc hm hl ha =>
  rw [V.fz]
  cases hq:Nat.beq o' o
  ·have hne:o'≠o:=fun e=>by subst e;simp at hq
   obtain ⟨c1,c2,c3⟩:=rG (E:=E) hne
   exact .sub o' k' off n' a c hn hc hm (by rw [c3];exact hl) (by rw [c1];exact ha)
  ·have:=Nat.eq_of_beq_eq_true hq
   subst this
   rw [cond_true]
   cases hk:Nat.beq t.k k' with
   | false=>exact .c _ _ (.unk _)
   | true =>
    rw [cond_true]
    have hr:=ai.sub o' k' off n' a c hn hc hm hl ha (w:=w)
    have hlen:E.len o' = l.length:=(hH.at_ _ _ hg).2.1
    obtain ⟨news,hsrc⟩:=mu hH hr (show cn H t (.sub o' k' off n') = some (aH l off n') by simp [cn,hg,hk,kV])
    have hsl:(aH l off n').length = n':=qx (by omega)
    have hsrc':HV { E with live:=fun q=>q = o' } w (.slice a n' c) t.k (aH l off n').length (els t (aH l off n')) news :=
     ⟨hsrc.form,fun ad n2 c2 he hn2=>by
      cases he
      obtain ⟨b,hb,hab⟩:=ha (by rw [hsl] at hn2;exact hn2)
      cases hab
      exact .inr ⟨o',rfl,hb⟩,hsrc.len,hsrc.one,hsrc.els,hsrc.rep⟩
    exact .c _ _ (qd (E:={ E with live:=fun q=>q = o' }) (ok':=(E.fz o').ok) (fun _ h=>.inl h) (fun q b hq hb=>by
     have e1:q = o':=hq
     subst e1;exact .inr hb) hsrc')
 | dptr k' cs j ad u hok hcell hl hu=>exact .dptr k' cs j ad u (.inl hok) hcell hl fun i d hd=>(hu i d hd).mono (fun _ h=>.inl h) fun _ _=>rfl
 | fn f vs ds hl h ih =>
  rw [V.fz]
  refine .fn _ _ _ (by rw [jp,hl]) fun i v d hv hd=>?_
  rw [nT] at hd
  cases hx:ds[i]? with
  | none=>rw [hx] at hd;cases hd
  | some x=>rw [hx] at hd;cases hd;exact ih i v x hv hx
theorem dc.trans1 {E1 E2:an} {o:Nat} {kl:List Nat} {w1:World} (h:dc E w [o] E1 w) (h':dc E1 w kl E2 w1) (hl:∀ q,E1.live q→E.live q) (hc:∀ q b,E1.conc q = some b→E.conc q = some b):dc E w (o :: kl) E2 w1 :=
 ⟨h'.os,h'.tape,h'.output,h'.size,fun q hq=>h'.live q (h.live q hq),fun b hb hn=>h'.blk b hb fun q hq hcq=>hn q (hl q hq) (hc q b hcq),fun b hb=>h'.ok b (h.ok b hb),fun b hb=>by
  rcases h'.okold b hb with g | g | ⟨q,g1,g2⟩
  ·exact h.okold b g
  ·exact .inr (.inl g)
  ·exact .inr (.inr ⟨q,hl q g1,hc q b g2⟩),fun q hq hn=>by
  have a1:=h.conc q hq (by simp at hn;simp [hn.1])
  have a2:=h'.conc q (h.live q hq) (by simp at hn;exact hn.2)
  exact ⟨a2.1.trans a1.1,a2.2.1.trans a1.2.1,a2.2.2.trans a1.2.2⟩,fun q b hq hb=>by
  rcases h'.concnew q b hq hb with ⟨q',g1,g2⟩ | g
  ·exact .inl ⟨q',hl q' g1,hc q' b g2⟩
  ·exact .inr g⟩
theorem tL (kl:List Nat) (o:Nat) (e:TypeId) (t:Ty) (l:List t.T):∀ H:ae,dU kl ((o,some (.row e t l)) :: H) = (o,some (.row e t l)) :: dU kl H:=by
 induction kl with
 | nil=>intro H;rfl
 | cons x r ih=>intro H;rw [dU,List.map_cons,dU];exact ih _
theorem vB {ws:List Value} {f:ae→List V→Option av} {nid:Nat} {R:World→Value→Prop}
  (hf0:∀ (E:an) (H:ae) (vs:List V) (r:av),aq E w H→fy E nid→aF E w ws vs→f H vs = some r→(∀ p∈r.pre,p)→∃ E' w' v',R w' v'∧co E w H nid r E' w' v'):∀ (fl:List Nat) (E:an) (H:ae) (vs:List V) (r:av),aq E w H→fy E nid→aF E w ws vs →
  ju f fl H vs = some r→(∀ p∈r.pre,p)→∃ E' w' v',R w' v'∧co E w H nid r E' w' v'
 | [],E,H,vs,r,hH,hf,hv,h,hp=>hf0 E H vs r hH hf hv h hp
 | q :: fl,E,H,vs,r,hH,hf,hv,h,hp=>by
  rw [ju] at h
  split at h
  ·next e t l hg =>
   have hq:=(hH.at_ q _ hg).1
   cases hb:ju f fl ((q,some (.row e t [])) :: dU [q] H) (V.fzs q t l vs) with
   | none=>rw [hb] at h;cases h
   | some r0 =>
    rw [hb] at h;cases h
    obtain ⟨E',w',v',h1,h2⟩:=vB hf0 fl (E.fz q) _ _ r0 (C7 hH hg) hf ⟨by rw [jp];exact hv.1,fun i v d hi hd=>by
     rw [nT] at hd
     cases hx:vs[i]? with
     | none=>rw [hx] at hd;cases hd
     | some x=>rw [hx] at hd;cases hd;exact ym hH hg (hv.2 i v x hi hx)⟩ hb hp
    refine ⟨E',w',v',h1,(D6 hq).trans1 h2.st (fun _ h=>h) (fun _ _ h=>(l6 h).2), ?_,h2.val,h2.live⟩
    have:=h2.heap
    rw [tL] at this
    rw [List.append_assoc]
    exact this
  ·cases h
theorem Lx {C:FuncId→Option CC} {f:FuncId} {args:List V} (h:pV C f nid H args = some r):gV C H nid f args = some r:=by
 unfold pV at h
 cases hb:V.noPs args with
 | false=>rw [hb] at h;cases h
 | true =>
  rw [hb,cond_true] at h
  split at h
  ·exact h
  ·cases h
theorem G1 {ws:List Value} {f:ae→List V→Option av} {nid:Nat} {g:FuncId}
  (hf0:∀ (E:an) (H:ae) (vs:List V) (r:av),aq E w H→fy E nid→aF E w ws vs→f H vs = some r→(∀ p∈r.pre,p)→jI P g ws.toArray w fun v w'=>∃ E',co E w H nid r E' w' v):∀ (fl:List Nat) (E:an) (H:ae) (vs:List V) (r:av),aq E w H→fy E nid→aF E w ws vs →
  ju f fl H vs = some r→(∀ p∈r.pre,p)→jI P g ws.toArray w fun v w'=>∃ E',co E w H nid r E' w' v
 | [],E,H,vs,r,hH,hf,hv,h,hp=>hf0 E H vs r hH hf hv h hp
 | q :: fl,E,H,vs,r,hH,hf,hv,h,hp=>by
  rw [ju] at h
  split at h
  ·next e t l hg =>
   have hq:=(hH.at_ q _ hg).1
   cases hb:ju f fl ((q,some (.row e t [])) :: dU [q] H) (V.fzs q t l vs) with
   | none=>rw [hb] at h;cases h
   | some r0 =>
    rw [hb] at h;cases h
    refine (G1 hf0 fl (E.fz q) _ _ r0 (C7 hH hg) hf ⟨by rw [jp];exact hv.1,fun i v d hi hd=>by
     rw [nT] at hd
     cases hx:vs[i]? with
     | none=>rw [hx] at hd;cases hd
     | some x=>rw [hx] at hd;cases hd;exact ym hH hg (hv.2 i v x hi hx)⟩ hb hp).mono ?_
    rintro v' w' ⟨E',h2⟩
    refine ⟨E',(D6 hq).trans1 h2.st (fun _ h=>h) (fun _ _ h=>(l6 h).2), ?_,h2.val,h2.live⟩
    have:=h2.heap
    rw [tL] at this
    rw [List.append_assoc]
    exact this
  ·cases h
theorem MJ (hH:aq E w H) (hf:fy E nid) {C:FuncId→Option CC} (hC:∀ f con,C f = some con→aQ P f con) {f:FuncId} {args:List V} {xs:List Value} (hx:aF E w xs args)
  (h:lP C H nid f args = some r) (hp:∀ p∈r.pre,p) :
  jI P f xs.toArray w fun v w'=>∃ E',co E w H nid r E' w' v:=by
 unfold lP at h
 split at h
 ·next r' hr=>cases h;exact Cr hH hf hC hx hr hp
 ·exact G1 (fun E H vs r hH hf hv h hp=>Cr hH hf hC hv (Lx h) hp) _ E H args r hH hf hx h hp
theorem JP {o:Oper} {nid:Nat} {t:TypeId} {len:Nat} {parts:Array (Nat × Operand)} {ρ:Operand→Value} (ho:o.op = .buildSlice t len parts) (hH:aq E w H) (hf:fy E nid) {vs:List V} {r:av} (hv:aF E w (parts.toList.map fun p=>ρ p.2) vs)
  (h:MT P nid t len (parts.toList.map (·.1)) H vs = some r) (hp:∀ p∈r.pre,p):∃ E' w' v',(execOp ρ o).run P w = .ok (.value v') w'∧co E w H nid r E' w' v' :=
 vB (R:=fun w' v'=>(execOp ρ o).run P w = .ok (.value v') w') (fun E H vs r hH hf hv h _=>B5 hH hf.one ho hv h) _ E H vs r hH hf hv h hp
theorem JS {o:Oper} {nid:Nat} {ρ:Operand→Value} (hH:aq E w H) (hf:fy E nid) {t:TypeId} {a x:Operand} (ho:o.op = .store t a x) {va vx:V} {r:av} (ha:ai E w (ρ a) va) (hx:ai E w (ρ x) vx) (h:tC P H t va vx = some r) (hp:∀ p∈r.pre,p) :
  ∃ E' w',(execOp ρ o).run P w = .ok .skip w'∧co E w H nid r E' w' undef:=by
 unfold tC at h
 split at h
 ·split at h
  ·obtain ⟨E',w',v',⟨rfl,h1⟩,h2⟩:=vB (ws:=[ρ a,ρ x]) (R:=fun w' v'=>v' = undef∧(execOp ρ o).run P w = .ok .skip w') (fun E H vs r hH hf hv h hp=>by
    unfold tj at h
    split at h
    ·next a' x' =>
     obtain ⟨E',w',h1,h2⟩:=vL hH hf.one ho (hv.2 0 _ _ rfl rfl) (hv.2 1 _ _ rfl rfl) h hp
     exact ⟨E',w',undef,⟨rfl,h1⟩,h2⟩
    ·cases h) _ E H _ r hH hf ⟨rfl,fun i v d h1 h2=>by
     match i with
     | 0=>simp at h1 h2;subst h1 h2;exact ha
     | 1=>simp at h1 h2;subst h1 h2;exact hx
     | i+2=>simp at h1⟩ h hp
   exact ⟨E',w',h1,h2⟩
  ·exact vL hH hf.one ho ha hx h hp
 ·exact vL hH hf.one ho ha hx h hp
theorem NY (hH:aq E w H) (hf:fy E nid) {C:FuncId→Option CC} (hC:∀ f con,C f = some con→aQ P f con) {a:Act} {vs:List V} (hv:aF E w ((dm o.op).map a.eval) vs)
  (h:pt P C H nid o vs = some r) (hp:∀ p∈r.pre,p) {K:Act→World→Prop} {Q:Exit→Act→World→Prop} (hK:∀ E' w' v',co E w H nid r E' w' v'→K (a.put o.dst v') w'):o.wp P a w K Q:=by
 have fin:(∃ E' w' v',(execOp a.eval o).run P w = .ok (.value v') w'∧co E w H nid r E' w' v')→o.wp P a w K Q:=by
  rintro ⟨E',w',v',h1,h2⟩
  unfold Oper.wp
  rw [h1]
  exact hK E' w' v' h2
 have finq:iL P a.eval o E w r→o.wp P a w K Q:=fun hq=>by
  obtain ⟨v',h1,h2⟩:=K9 hH hf.one hq
  exact fin ⟨_,w,v',h1,h2⟩
 unfold pt at h
 split at h
 ·next x d ho =>
  rw [ho] at hv
  cases h
  exact finq ⟨rfl,rfl,K5 ho (hv.2 0 _ _ rfl rfl)⟩
 ·next x d ho =>
  rw [ho] at hv
  cases h
  exact finq ⟨rfl,rfl,HN ho (hv.2 0 _ _ rfl rfl)⟩
 ·next t ho =>
  split at h
  ·next z hz=>exact fin (L0 hH hf.one ho hz h)
  ·cases h
 ·next t x d ho =>
  rw [ho] at hv
  exact fin (Oa hH hf.one ho (hv.2 0 _ _ rfl rfl) h)
 ·next t parts vs ho =>
  rw [ho] at hv
  exact finq (JQ ho (by simpa [dm,Op.operands,List.map_map,Function.comp_def] using hv) h)
 ·next t len parts vs ho =>
  rw [ho] at hv
  exact fin (JP ho hH hf (by simpa [dm,Op.operands,List.map_map,Function.comp_def] using hv) h hp)
 ·next t x d ho =>
  rw [ho] at hv
  exact finq (BD hH ho (hv.2 0 _ _ rfl rfl) h hp)
 ·next t x y d e ho =>
  rw [ho] at hv
  obtain ⟨E',w',h1,h2⟩:=JS hH hf ho (hv.2 0 _ _ rfl rfl) (hv.2 1 _ _ rfl rfl) h hp
  unfold Oper.wp
  rw [h1]
  exact hK E' w' undef h2
 ·next x d ho =>
  rw [ho] at hv
  exact finq (Dd ho (hv.2 0 _ _ rfl rfl) h)
 ·next op t x y ty d e ho =>
  rw [ho] at hv
  exact finq (NB ho (hv.2 0 _ _ rfl rfl) (hv.2 1 _ _ rfl rfl) h hp)
 ·next op t x d ho =>
  rw [ho] at hv
  exact finq (Ov ho (hv.2 0 _ _ rfl rfl) h)
 ·next s t x d ho =>
  rw [ho] at hv
  split at h
  ·next e hs hd =>
   split at h
   ·next he=>exact finq (Js hH hs hd he ho (hv.2 0 _ _ rfl rfl) h)
   ·cases h
  ·exact finq (LA ho (hv.2 0 _ _ rfl rfl) h)
 ·next t x f d ho =>
  rw [ho] at hv
  exact finq (CO ho (hv.2 0 _ _ rfl rfl) h)
 ·next t x f d ho =>
  rw [ho] at hv
  exact finq (JW ho (hv.2 0 _ _ rfl rfl) h)
 ·next t x y d e ho =>
  rw [ho] at hv
  exact finq (CG hH ho (hv.2 0 _ _ rfl rfl) (hv.2 1 _ _ rfl rfl) h hp)
 ·next t x y d e ho =>
  rw [ho] at hv
  exact finq (Ju ho (hv.2 0 _ _ rfl rfl) (hv.2 1 _ _ rfl rfl) h hp)
 ·next t x d ho =>
  rw [ho] at hv
  exact finq (oc hH (dlo:=none) (dhi:=none) ho (hv.2 0 _ _ rfl rfl) (by simp) (by simp) (by simp) (by simp) h hp)
 ·next t x l d e ho =>
  rw [ho] at hv
  exact finq (oc hH (dlo:=some e) (dhi:=none) ho (hv.2 0 _ _ rfl rfl) (fun y hy=>by cases hy;exact ⟨_,rfl,hv.2 1 _ _ rfl rfl⟩) (by simp) (by simp) (by simp) h hp)
 ·next t x l d e ho =>
  rw [ho] at hv
  exact finq (oc hH (dlo:=none) (dhi:=some e) ho (hv.2 0 _ _ rfl rfl) (by simp) (by simp) (fun y hy=>by cases hy;exact ⟨_,rfl,hv.2 1 _ _ rfl rfl⟩) (by simp) h hp)
 ·next t x l hh d e g ho =>
  rw [ho] at hv
  exact finq (oc hH (dlo:=some e) (dhi:=some g) ho (hv.2 0 _ _ rfl rfl) (fun y hy=>by cases hy;exact ⟨_,rfl,hv.2 1 _ _ rfl rfl⟩) (by simp) (fun y hy=>by cases hy;exact ⟨_,rfl,hv.2 2 _ _ rfl rfl⟩) (by simp) h hp)
 ·next t l c d e ho =>
  rw [ho] at hv
  exact fin (Ei hH hf.one ho (hv.2 0 _ _ rfl rfl) (hv.2 1 _ _ rfl rfl) h hp)
 ·next vs f first caps ho =>
  rw [ho] at hv
  cases hf:(first.isEmpty&&Nat.blt f 1000000000) with
  | false=>rw [hf] at h;cases h
  | true =>
   rw [hf] at h
   simp only [cond_true,Option.some.injEq] at h
   subst h
   rw [Bool.and_eq_true] at hf
   have h0:first = #[]:=by simpa using hf.1
   subst h0
   exact finq ⟨rfl,rfl,EM ho rfl hf.2 (by simpa [dm,Op.operands] using hv)⟩
 ·next t ho=>exact fin (Iv hH hf.one ho h)
 ·next t x y ok m k ho =>
  rw [ho] at hv
  exact finq (IT hH ho (hv.2 0 _ _ rfl rfl) (hv.2 1 _ _ rfl rfl) h)
 ·next t x y z m k v ho =>
  rw [ho] at hv
  obtain ⟨E',w',v',⟨rfl,h1⟩,h2⟩:=vB (ws:=[a.eval x,a.eval y,a.eval z]) (R:=fun w' v'=>v' = undef∧(execOp a.eval o).run P w = .ok .skip w') (fun E H vs r hH hf hv h hp=>by
   obtain ⟨E',w',h1,h2⟩:=K3 hH hf.one ho hv h
   exact ⟨E',w',undef,⟨rfl,h1⟩,h2⟩) _ E H _ r hH hf (by simpa [dm,Op.operands] using hv) h hp
  unfold Oper.wp
  rw [h1]
  exact hK E' w' undef h2
 ·next t x d ho =>
  rw [ho] at hv
  split at h
  ·next e hu =>
   cases hc:(V.isCell d&&Nat.blt t 1000000000) with
   | false=>rw [hc] at h;cases h
   | true =>
    rw [hc] at h
    simp only [cond_true,Option.some.injEq] at h
    subst h
    rw [Bool.and_eq_true] at hc
    have hlt:=hc.2
    exact finq ⟨rfl,rfl,wJ hlt ho hu (hv.2 0 _ _ rfl rfl)⟩
  ·cases h
 ·next x ix d ho =>
  rw [ho] at hv
  exact finq (GB ho (hv.2 0 _ _ rfl rfl) h hp)
 ·next t x d ho =>
  rw [ho] at hv
  split at h
  ·next r' hr'=>cases h;exact fin (Mb hH hf.one ho (hv.2 0 _ _ rfl rfl) hr')
  ·exact fin (Jo hH hf.one ho (hv.2 0 _ _ rfl rfl) h)
 ·next x d ho =>
  rw [ho] at hv
  exact fin (Mk hH hf.one ho (hv.2 0 _ _ rfl rfl) h)
 ·next x d ho =>
  rw [ho] at hv
  exact finq (Ik hH ho (hv.2 0 _ _ rfl rfl) h hp)
 ·next args argTypes d ho =>
  rw [ho] at hv
  obtain ⟨x,hx⟩:∃ x,args.toList = [x]:=by
   have h2:args.toList.length = 1:=by have:=hv.1;simpa [dm] using this
   match hl:args.toList,h2 with
   | [p],_=>exact ⟨p,rfl⟩
  have hargs:args = #[x]:=by rw [← Array.toArray_toList (xs:=args),hx]
  subst hargs
  split at h
  ·next t ht =>
   cases hu:P.underlying t with
   | none=>simp [uf,hu] at h
   | some dd=>exact finq (MO hH ho rfl rfl ht hu (hv.2 0 _ _ rfl rfl) h)
  ·cases h
 ·next args argTypes d ho =>
  rw [ho] at hv
  obtain ⟨x,hx⟩:∃ x,args.toList = [x]:=by
   have h2:args.toList.length = 1:=by have:=hv.1;simpa [dm] using this
   match hl:args.toList,h2 with
   | [p],_=>exact ⟨p,rfl⟩
  have hargs:args = #[x]:=by rw [← Array.toArray_toList (xs:=args),hx]
  subst hargs
  split at h
  ·next t ht=>exact fin (LG hH hf.one ho rfl rfl ht (hv.2 0 _ _ rfl rfl) h hp)
  ·cases h
 ·next vs _ _ args argTypes ho =>
  rw [ho] at hv
  cases hm:La vs with
  | none=>simp [hm] at h
  | some m =>
   simp only [hm,Option.map_some,Option.some.injEq] at h
   subst h
   exact finq ⟨rfl,rfl,Mq ho rfl (by simpa [dm] using hv) hm⟩
 ·next vs _ _ args argTypes ho =>
  rw [ho] at hv
  cases hm:L5 vs with
  | none=>simp [hm] at h
  | some m =>
   simp only [hm,Option.map_some,Option.some.injEq] at h
   subst h
   exact finq ⟨rfl,rfl,Nj ho rfl (by simpa [dm] using hv) hm⟩
 ·next args argTypes s x ho =>
  rw [ho] at hv
  obtain ⟨s',x',hsx⟩:∃ s' x',args.toList = [s',x']:=by
   have h2:args.toList.length = 2:=by have:=hv.1;simpa [dm] using this
   match hl:args.toList,h2 with
   | [p,q],_=>exact ⟨p,q,rfl⟩
  have hargs:args = #[s',x']:=by rw [← Array.toArray_toList (xs:=args),hsx]
  subst hargs
  split at h
  ·next t t' ht =>
   cases hb:Nat.beq t t' with
   | false=>simp [hb] at h
   | true =>
    have htt:t = t':=Nat.eq_of_beq_eq_true hb
    subst htt
    simp only [hb,cond_true] at h
    have hat:argTypes = #[t,t]:=by rw [← Array.toArray_toList (xs:=argTypes),ht]
    exact fin (J4 hH hf.one ho rfl rfl hat (hv.2 0 _ _ rfl rfl) (hv.2 1 _ _ rfl rfl) h hp)
  ·cases h
 ·next f args argTypes g caps ds ho =>
  rw [ho] at hv
  obtain ⟨_,_,e,hf,ha⟩:=aF.cons_inv hv
  cases e
  generalize hfv:a.eval f = fv at hf
  cases hglt:Nat.blt g 1000000000 with
  | false=>rw [hglt] at h;cases h
  | true =>
  rw [hglt] at h
  simp only [cond_true] at h
  cases hf with
  | fn _ cs _ hcl hch =>
   rw [kf hglt] at hfv
   have hall:aF E w (args.toList.map a.eval++cs) (ds++caps):=by
    refine ⟨by rw [List.length_append,List.length_append,ha.1,hcl],fun i v d hv' hd'=>?_⟩
    rw [List.getElem?_append] at hv' hd'
    rw [← ha.1] at hd'
    split at hv'
    ·next hlt=>rw [if_pos hlt] at hd'; exact ha.2 i v d hv' hd'
    ·next hge=>rw [if_neg hge] at hd'; exact hch _ v d hv' hd'
   have hcalls:=MJ hH hf hC hall h hp
   have hargs:args.map a.eval++cs.toArray = (args.toList.map a.eval++cs).toArray:=by
    rw [← Array.toArray_toList (xs:=args.map a.eval++cs.toArray)]
    simp
   have hrun:(execOp a.eval o).run P w = (callFunc g (args.toList.map a.eval++cs).toArray).run P w:=by
    simp only [execOp,ho,resolve,hfv,Deferred.ofValue,invoke,Sem.run_bind,Sem.run_pure,Result.andThen_ok,Array.empty_append,hargs]
   unfold Oper.wp
   rw [hrun]
   rcases hcalls with ⟨h1,h2⟩ | ⟨v,w',h1,E',hP⟩
   ·rw [h1]
    refine Calls.mono h2 ?_
    rintro e w' ⟨v,rfl,E',hP⟩
    exact hK E' w' v hP
   ·rw [h1]
    exact hK E' w' v hP
 ·cases h
end
end Go.Ax
namespace Go.Ax
open Go.RowKit
def jv (tm:List (Nat × au)) (E:an) (w:World) (v:Value) (s:au):Prop :=
 (holds tm s.ch = true→ai E w v s.v)∧(s.ch.all (fun x=>dl tm x.1) = true→holds tm s.ch = false→v = undef)
structure dT where
  W:World
  ok:Nat→Prop
  mb:Nat→Prop
  gh:Nat→Value:=fun _=>undef
def cC (B:dT) (a:Act) (t:Nat):Value:=if t < 1000000 then a.tmps.getD t undef else B.gh t
theorem mh {B:dT} {a:Act} {t:Nat} (h:t < 1000000):cC B a t = a.tmps.getD t undef:=if_pos h
structure tr (M:Nat→Prop) (n:Nat) (w w':World):Prop where
  os:w'.os = w.os
  tape:w'.tape = w.tape
  output:w'.output = w.output
  size:w.heap.size≤w'.heap.size
  block:∀ k,k < n→¬ M k→w'.heap[k]? = w.heap[k]?
theorem tr.refl (M:Nat→Prop) (n:Nat) (w:World):tr M n w w:=⟨rfl,rfl,rfl,Nat.le_refl _,fun _ _ _=>rfl⟩
theorem tr.below {n:Nat} {w w':World} (h:tr (fun _=>False) n w w'):Below n w w':=⟨h.os,h.tape,h.output,h.size,fun k hk=>h.block k hk (fun h=>h)⟩
structure aP (N:Nat) (B:dT) (σ:St) (E:an) (a:Act) (w:World):Prop where
  size:a.tmps.size = N
  small:N≤1000000
  defers:a.defers = []
  live:∀ q,σ.nx≤q→¬ E.live q
  heap:aq E w σ.hp
  slots:∀ t s,ap σ.tm t = some s→jv σ.tm E w (cC B a t) s
  base:tr B.mb B.W.heap.size B.W w
  own:∀ o b,E.live o→E.conc o = some b→B.W.heap.size≤b∨B.mb b
  okold:∀ b,E.ok b→B.ok b∨B.W.heap.size≤b∨B.mb b
section
variable {P:Program} {N:Nat} {B:dT} {σ:St} {E:an} {a:Act} {w:World}
theorem BY {a b:Nat} (h:a≠b):Nat.beq a b = false:=by
 cases hb:Nat.beq a b
 ·rfl
 ·exact (h (Nat.eq_of_beq_eq_true hb)).elim
theorem ba (t':Nat) (s:au) (r:List (Nat × au)) (t:Nat):ap ((t',s) :: r) t = if t' = t then some s else ap r t:=by
 rw [ap]
 by_cases h:t' = t
 ·subst h;simp
 ·rw [BY h];simp [h]
theorem kh:∀ (tm:List (Nat × au)) (t:Nat) (s:au) (t':Nat),ap (gq tm t s) t' = if t = t' then some s else ap tm t'
 | [],t,s,t'=>by rw [gq,ba]
 | (q,x) :: r,t,s,t'=>by
  rw [gq]
  by_cases h:q = t
  ·subst h
   rw [show Nat.beq q q = true by simp,cond_true,ba,ba]
   split <;> rfl
  ·rw [BY h,cond_false]
   cases Nat.blt t q
   ·rw [cond_false,ba,kh r,ba]
    by_cases h1:q = t'
    ·rw [if_pos h1,if_pos h1,if_neg (by omega)]
    ·rw [if_neg h1,if_neg h1]
   ·rw [cond_true,ba]
theorem uO (f:au→au):∀ (tm:List (Nat × au)) (t:Nat),ap (tm.map fun x=>(x.1,f x.2)) t = (ap tm t).map f
 | [],t=>rfl
 | (q,x) :: r,t=>by
  rw [List.map_cons,ba,ba,uO f r]
  split <;> rfl
theorem kX:∀ (kl:List Nat) (tm:List (Nat × au)) (t:Nat),ap (pI kl tm) t = (ap tm t).map fun s=>{ ch:=s.ch,v:=s.v.killAll kl }
 | [],tm,t=>by simp [pI,V.killAll]
 | o :: r,tm,t=>by
  rw [pI,kX r,uO (fun s=>{ ch:=s.ch,v:=s.v.kill o })]
  cases ap tm t <;> simp [V.killAll]
def aX:Option au→Option Bool
 | some { v:=.c (.lit (.bool b)), .. }=>some b
 | _=>none
theorem ly {s:Option au} {b:Bool} (h:aX s = some b):∃ ch,s = some { ch,v:=.c (.lit (.bool b)) }:=by
 unfold aX at h
 split at h
 ·next ch b'=>cases h;exact ⟨ch,rfl⟩
 ·cases h
theorem eI (tm:List (Nat × au)) (t:Nat) (w:Bool) (r:aI):holds tm ((t,w) :: r) = ((match aX (ap tm t) with | some b=>(b == w) | none=>false)&&holds tm r):=by
 rw [holds]
 congr 1
 cases hb:aX (ap tm t) with
 | some b =>
  obtain ⟨ch,e⟩:=ly hb
  rw [e]
  cases w <;> cases b <;> rfl
 | none =>
  split
  ·next h=>rw [h] at hb;simp [aX] at hb
  ·rfl
theorem jz {tm tm':List (Nat × au)}:∀ (ch:aI),(∀ x∈ch,aX (ap tm' x.1) = aX (ap tm x.1))→holds tm' ch = holds tm ch
 | [],_=>rfl
 | (t,w) :: r,h=>by
  rw [eI,eI,h (t,w) (by simp),jz r fun x hx=>h x (by simp [hx])]
theorem xO:∀ (kl:List Nat) (b:Bool),(V.c (.lit (.bool b))).killAll kl = .c (.lit (.bool b))
 | [],_=>rfl
 | o :: r,b=>by rw [V.killAll,V.kill,xO r]
theorem Gu (o:Nat) (v:V) (b:Bool) (h:v.kill o = .c (.lit (.bool b))):v = .c (.lit (.bool b)):=by
 cases v with
 | c d=>simpa [V.kill] using h
 | agg vs=>simp [V.kill] at h
 | tup vs=>simp [V.kill] at h
 | ptr o' k i j=>rw [V.kill] at h;cases hb:Nat.beq o' o <;> simp [hb] at h
 | row o' k=>rw [V.kill] at h;cases hb:Nat.beq o' o <;> simp [hb] at h
 | sub o' k i j=>rw [V.kill] at h;cases hb:Nat.beq o' o <;> simp [hb] at h
 | dptr k cs j=>simp [V.kill] at h
 | fn f vs=>simp [V.kill] at h
theorem qm:∀ (kl:List Nat) (v:V) (b:Bool),v.killAll kl = .c (.lit (.bool b))→v = .c (.lit (.bool b))
 | [],v,b,h=>h
 | o :: r,v,b,h=>Gu o v b (qm r _ b h)
theorem zT (kl:List Nat) (s:Option au):aX (s.map fun s=>{ ch:=s.ch,v:=s.v.killAll kl }) = aX s:=by
 cases s with
 | none=>rfl
 | some s =>
  obtain ⟨ch,v⟩:=s
  by_cases h:∃ b,v = .c (.lit (.bool b))
  ·obtain ⟨b,rfl⟩:=h
   simp [aX,xO]
  ·have h2:aX (some { ch,v }) = none:=by
    cases hb:aX (some { ch,v }) with
    | none=>rfl
    | some b=>obtain ⟨ch',e⟩:=ly hb;cases e;exact (h ⟨b,rfl⟩).elim
   rw [h2]
   cases hb:aX (Option.map (fun s:au=>{ ch:=s.ch,v:=s.v.killAll kl }) (some { ch,v })) with
   | none=>rfl
   | some b =>
    obtain ⟨ch',e⟩:=ly hb
    simp only [Option.map_some,Option.some.injEq,au.mk.injEq] at e
    exact (h ⟨b,qm kl v b e.2⟩).elim
theorem Jw (kl:List Nat) (tm:List (Nat × au)) (ch:aI):holds (pI kl tm) ch = holds tm ch :=
 jz ch fun x _=>by rw [kX,zT]
theorem FT {tm:List (Nat × au)} {ch':aI} (h':holds tm ch' = true):∀ (ch:aI),og ch ch' = true→holds tm ch = true
 | [],_=>rfl
 | (t,w) :: r,h=>by
  simp only [og,List.all_cons,Bool.and_eq_true] at h
  obtain ⟨h1,h2⟩:=h
  rw [eI,Bool.and_eq_true]
  refine ⟨?_,FT h' r h2⟩
  unfold Ph at h1
  obtain ⟨y,hy,hyt⟩:=List.any_eq_true.1 h1
  simp only [Bool.and_eq_true,Nat.beq_eq,beq_iff_eq] at hyt
  obtain ⟨e1,e2⟩:=hyt
  have key:∀ (ch':aI),y∈ch'→holds tm ch' = true→(match aX (ap tm y.1) with | some b=>(b == y.2) | none=>false) = true:=by
   intro ch'
   induction ch' with
   | nil=>intro hy;simp at hy
   | cons z l ih =>
    intro hy hh
    obtain ⟨zt,zw⟩:=z
    rw [eI,Bool.and_eq_true] at hh
    rcases List.mem_cons.1 hy with rfl | hy
    ·exact hh.1
    ·exact ih hy hh.2
  have:=key ch' hy h'
  rw [← e1, ← e2] at this
  exact this
theorem OE (f:FuncId) (hlt:Nat.blt f 1000000000 = true):ai E w (.func (.func f) #[] #[]) (.fn f []):=by
 have e:mL f [] = .func (.func f) #[] #[]:=kf hlt []
 rw [← e]
 exact .fn f [] [] rfl fun i v d h=>by simp at h
theorem bn (hs:aP N B σ E a w) {ch:aI} (hh:holds σ.tm ch = true) {x:Operand} {v:V} (h:bA σ ch x = some v):ai E w (a.eval x) v:=by
 unfold bA at h
 split at h
 ·next t =>
  cases hlow:Nat.blt t 1000000 with
  | false=>simp [hlow] at h
  | true =>
  rw [hlow,cond_true] at h
  split at h
  ·next s hg =>
   cases hc:og s.ch ch with
   | false=>simp [hc] at h
   | true =>
    simp only [hc,cond_true,Option.some.injEq] at h
    subst h
    have:=(hs.slots t s hg).1 (FT hh _ hc)
    rw [mh (by simpa using hlow)] at this
    exact this
  ·cases h
 ·cases h;exact s5 _
 ·next f =>
  cases hlt:Nat.blt f 1000000000 with
  | false=>rw [hlt] at h;cases h
  | true=>rw [hlt] at h;cases h;exact OE _ hlt
 ·cases h
theorem zP (hs:aP N B σ E a w) {ch:aI} (hh:holds σ.tm ch = true):∀ {xs:List Operand} {vs:List V},kj σ ch xs = some vs→aF E w (xs.map a.eval) vs
 | [],vs,h=>by simp [kj] at h;subst h;exact .nil
 | x :: xs,vs,h=>by
  unfold kj at h
  rw [List.mapM_cons] at h
  simp only [Option.bind_eq_bind,Option.pure_def,Option.bind_eq_some_iff,Option.some.injEq] at h
  obtain ⟨d,hd,ds,hds,rfl⟩:=h
  have ih:=zP hs hh (xs:=xs) hds
  refine ⟨by simp [ih.1],fun i v d' hv hd'=>?_⟩
  match i with
  | 0=>simp at hv hd'; subst hv;subst hd'; exact bn hs hh hd
  | i+1=>exact ih.2 i v d' (by simpa using hv) (by simpa using hd')
theorem oq {ops:Array Oper} (hs:aP N B σ E a w) {o:Oper} {ch:aI} (h:dB ops.toList σ.tm o.guard = some ch) (hb:ch.all (fun x=>dl σ.tm x.1) = true):Region.wanted o (yielded ops a.tmps) = holds σ.tm ch:=by
 unfold dB at h
 split at h
 ·next hg=>cases h;simp [Region.wanted,hg,holds]
 ·next j wt hg =>
  split at h
  ·next oj hj =>
   split at h
   ·next t ht =>
    cases hlow:Nat.blt t 1000000 with
    | false=>simp [hlow] at h
    | true =>
    rw [hlow,cond_true] at h
    split at h
    ·next ch' b hgt =>
     cases h
     have hj':ops[j]? = some oj:=by rw [← Array.getElem?_toList];exact hj
     rw [eI,hgt]
     simp only [aX,Region.wanted,hg,yielded,hj',Option.bind_some,ht]
     have hsl:=hs.slots t _ hgt
     rw [mh (by simpa using hlow)] at hsl
     cases hh:holds σ.tm ch' with
     | true =>
      have hr:=(hsl.1 hh).lit_inv
      have:a.tmps[t]? = some (.bool b):=by
       rw [Array.getD_eq_getD_getElem?] at hr
       cases hx:a.tmps[t]? with
       | none=>rw [hx] at hr;simp [undef] at hr
       | some x=>rw [hx] at hr;simpa using hr
      rw [this]
      cases b <;> cases wt <;> rfl
     | false =>
      have hr:=hsl.2 (by simp only [List.all_cons,Bool.and_eq_true] at hb;exact hb.2) hh
      rw [Bool.and_false]
      rw [Array.getD_eq_getD_getElem?] at hr
      cases hx:a.tmps[t]? with
      | none=>rfl
      | some x=>rw [hx] at hr;simp at hr;subst hr;rfl
    ·cases h
   ·cases h
  ·cases h
theorem J5 (hs:aP N B σ E a w) {ch:aI} (hh:holds σ.tm ch = true) {c x y:Operand} {v:V} (h:rO σ ch c x y = some v) :
  ∃ b:Bool,a.eval c = .bool b∧ai E w (if b then a.eval x else a.eval y) v:=by
 unfold rO at h
 split at h
 ·next b hc =>
  have hcb:=(bn hs hh hc).lit_inv
  refine ⟨b,hcb, ?_⟩
  have key:∀ (want:Bool),b = want→∀ (z:Operand) (u:V),bA σ (n8 c want ch) z = some u→ai E w (a.eval z) u:=by
   intro want hw z u hz
   cases c with
   | tmp t =>
    have:holds σ.tm ((t,want) :: ch) = true:=by
     rw [eI,hh,Bool.and_true]
     cases hg:ap σ.tm t with
     | none=>simp [bA,hg] at hc
     | some s =>
      cases hsc:og s.ch ch with
      | false=>simp [bA,hg,hsc] at hc
      | true =>
       have hl:Nat.blt t 1000000 = true:=by
        cases hl:Nat.blt t 1000000 with
        | true=>rfl
        | false=>simp [bA,hl] at hc
       simp only [bA,hg,hsc,hl,cond_true,Option.some.injEq] at hc
       have:aX (some s) = some b:=by obtain ⟨sc,sv⟩:=s;simp only at hc;subst hc;rfl
       rw [this,hw]
       cases want <;> rfl
    exact bn hs this hz
   | const _=>exact bn hs hh hz
   | global _=>exact bn hs hh hz
   | func _=>exact bn hs hh hz
  have bv:∀ {o:Option V} {v:V},GG o = some v→o = some v:=by
   intro o v h
   unfold GG at h
   split at h
   ·cases h;rfl
   ·cases h
  cases b with
  | true=>rw [cond_true] at h;exact key true rfl _ _ (bv h)
  | false=>rw [cond_false] at h;exact key false rfl _ _ (bv h)
 ·cases h
theorem Ly (hs:aP N B σ E a w) {ch:aI} (hh:holds σ.tm ch = true) {c x y:Operand} {v:V} (h:nZ σ ch c x y = some v) :
  ∃ b:Bool,a.eval c = .bool b∧ai E w (if b then a.eval x else a.eval y) v:=by
 unfold nZ at h
 split at h
 ·next b hc =>
  have hcb:=(bn hs hh hc).lit_inv
  refine ⟨b,hcb, ?_⟩
  split at h
  ·next p q hx hy =>
   cases h
   have key:∀ (want:Bool),b = want→∀ (z:Operand) (u:V),bA σ (n8 c want ch) z = some u→ai E w (a.eval z) u:=by
    intro want hw z u hz
    cases c with
    | tmp t =>
     have:holds σ.tm ((t,want) :: ch) = true:=by
      rw [eI,hh,Bool.and_true]
      cases hg:ap σ.tm t with
      | none=>simp [bA,hg] at hc
      | some s =>
       cases hsc:og s.ch ch with
       | false=>simp [bA,hg,hsc] at hc
       | true =>
        have hl:Nat.blt t 1000000 = true:=by
         cases hl:Nat.blt t 1000000 with
         | true=>rfl
         | false=>simp [bA,hl] at hc
        simp only [bA,hg,hsc,hl,cond_true,Option.some.injEq] at hc
        have:aX (some s) = some b:=by obtain ⟨sc,sv⟩:=s;simp only at hc;subst hc;rfl
        rw [this,hw]
        cases want <;> rfl
     exact bn hs this hz
    | const _=>exact bn hs hh hz
    | global _=>exact bn hs hh hz
    | func _=>exact bn hs hh hz
   cases hb:b with
   | true =>
    subst hb
    have:=key true rfl x _ hx
    simpa using this
   | false =>
    subst hb
    have:=key false rfl y _ hy
    simpa using this
  ·cases h
 ·cases h
theorem Pj {t t':Nat} {v:Value} (ht:t < a.tmps.size):(a.put (some t) v).tmps.getD t' undef = if t = t' then v else a.tmps.getD t' undef:=by
 simp only [Act.put,Array.getD_eq_getD_getElem?,Array.getElem?_setIfInBounds]
 by_cases h:t = t'
 ·subst h;simp [ht]
 ·simp [h]
theorem MG {t t':Nat} {v:Value} (ht:t < a.tmps.size) (hl:t < 1000000):cC B (a.put (some t) v) t' = if t = t' then v else cC B a t':=by
 unfold cC
 rw [Pj ht]
 by_cases h:t = t'
 ·subst h;rw [if_pos hl,if_pos rfl,if_pos rfl]
 ·simp only [if_neg h]
theorem qh (d:Nat) (tm:List (Nat × au)) (t:Nat):ap (l3 d tm) t = (ap tm t).map fun s=>bif s.ch.any (fun y=>Nat.beq y.1 d) then ⟨[], .c .unk⟩ else s :=
 uO (fun s=>bif s.ch.any (fun y=>Nat.beq y.1 d) then ⟨[], .c .unk⟩ else s) tm t
theorem Qa {d:Nat} {ch:aI} (h:ch.any (fun y=>Nat.beq y.1 d) = false):∀ x∈ch,x.1≠d:=by
 intro x hx e
 have:=List.any_eq_false.1 h x hx
 rw [e] at this
 simp at this
theorem Ix {d:Nat} {ch:aI} (h:fJ (some d) ch = true):∀ x∈ch,x.1≠d:=by
 intro x hx e
 have:=List.all_eq_true.1 h x hx
 rw [e] at this
 simp at this
theorem jD {tm:List (Nat × au)} {t:Nat}:dl tm t = (aX (ap tm t)).isSome:=by
 unfold dl
 cases h:ap tm t with
 | none=>rfl
 | some s =>
  obtain ⟨ch,v⟩:=s
  simp only
  unfold V.isBool aX
  split <;> simp_all
theorem Aa {tm:List (Nat × au)}:∀ (ch:aI),holds tm ch = true→ch.all (fun x=>dl tm x.1) = true
 | [],_=>rfl
 | (t,w) :: r,h=>by
  rw [eI,Bool.and_eq_true] at h
  simp only [List.all_cons,Bool.and_eq_true]
  refine ⟨?_,Aa r h.2⟩
  rw [jD]
  cases hb:aX (ap tm t) with
  | none=>rw [hb] at h;simp at h
  | some b=>rfl
theorem fO {tm tm':List (Nat × au)} {E':an} {w':World} {v:Value} {s:au} (h:jv tm E' w' v s) (hb:∀ x∈s.ch,dl tm' x.1 = true→aX (ap tm' x.1) = aX (ap tm x.1)):jv tm' E' w' v s:=by
 have key:s.ch.all (fun x=>dl tm' x.1) = true→holds tm' s.ch = holds tm s.ch∧s.ch.all (fun x=>dl tm x.1) = true:=by
  intro ha
  have h1:∀ x∈s.ch,aX (ap tm' x.1) = aX (ap tm x.1):=fun x hx=>hb x hx (List.all_eq_true.1 ha x hx)
  refine ⟨jz _ h1,List.all_eq_true.2 fun x hx=>?_⟩
  have:=List.all_eq_true.1 ha x hx
  rw [jD] at this ⊢
  rw [← h1 x hx];exact this
 refine ⟨fun hh=>?_,fun ha hh=>?_⟩
 ·have:=key (Aa _ hh)
  exact h.1 (by rw [← this.1];exact hh)
 ·have:=key ha
  exact h.2 this.2 (by rw [← this.1];exact hh)
theorem HR {d:Nat} {tm:List (Nat × au)} {t:Nat} (h:dl (l3 d tm) t = true):aX (ap (l3 d tm) t) = aX (ap tm t):=by
 rw [jD] at h
 rw [qh] at h ⊢
 cases hx:ap tm t with
 | none=>rfl
 | some s =>
  rw [hx] at h
  simp only [Option.map_some] at h ⊢
  cases hc:s.ch.any (fun y=>Nat.beq y.1 d) with
  | false=>rfl
  | true=>rw [hc] at h;simp [aX] at h
theorem FE {tm:List (Nat × au)} {E':an} {w':World} {ch:aI} {d:Nat} {v:V} {v':Value} (hlt:d < a.tmps.size) (hlow:d < 1000000) (hsl:∀ t s,ap tm t = some s→jv tm E' w' (cC B a t) s)
  (hcd:∀ x∈ch,x.1≠d) (hv:jv tm E' w' v' { ch,v }):∀ t s,ap (gq (l3 d tm) d { ch,v }) t = some s→jv (gq (l3 d tm) d { ch,v }) E' w' (cC B (a.put (some d) v') t) s:=by
 have hb:∀ c:aI,(∀ x∈c,x.1≠d)→∀ x∈c,dl (gq (l3 d tm) d { ch,v }) x.1 = true→aX (ap (gq (l3 d tm) d { ch,v }) x.1) = aX (ap tm x.1):=by
  intro c hc x hx h
  rw [jD,kh,if_neg (fun e=>hc x hx e.symm)] at h
  rw [kh,if_neg (fun e=>hc x hx e.symm)]
  exact HR (by rw [jD];exact h)
 intro t s hg
 rw [kh] at hg
 rw [MG hlt hlow]
 split at hg
 ·next e =>
  subst e;cases hg
  rw [if_pos rfl]
  exact fO hv (hb ch hcd)
 ·next e =>
  rw [if_neg e]
  rw [qh] at hg
  cases hx:ap tm t with
  | none=>rw [hx] at hg;cases hg
  | some y =>
   rw [hx] at hg
   simp only [Option.map_some,Option.some.injEq] at hg
   cases hc:y.ch.any (fun y=>Nat.beq y.1 d) with
   | true =>
    rw [hc,cond_true] at hg;subst hg
    exact ⟨fun _=>.unk _,fun _ h=>by simp [holds] at h⟩
   | false =>
    rw [hc,cond_false] at hg;subst hg
    exact fO (hsl t _ hx) (hb _ (Qa hc))
theorem Li {kl:List Nat} {tm:List (Nat × au)} {E':an} {w':World} (hr:∀ v d,ai E w v d→ai E' w' v (d.killAll kl)) (hsl:∀ t s,ap tm t = some s→jv tm E w (cC B a t) s) :
  ∀ t s,ap (pI kl tm) t = some s→jv (pI kl tm) E' w' (cC B a t) s:=by
 intro t s hg
 rw [kX] at hg
 cases hx:ap tm t with
 | none=>rw [hx] at hg;cases hg
 | some y =>
  rw [hx] at hg;cases hg
  refine fO (tm:=tm) ⟨fun h=>hr _ _ ((hsl t y hx).1 h),(hsl t y hx).2⟩ fun x _ _=>?_
  rw [kX,zT]
theorem rL (hs:aP N B σ E a w) {rc:bY} {E':an} {w':World} {v':Value} {M:Nat} (hM:σ.nx≤M) (hnid:rc.nid+8≤M) (hP:co E w σ.hp rc.nid rc.res E' w' v') (hh:holds σ.tm rc.ch = true)
  (hd:iq N rc.dst = true) (hn:rc.ch.isEmpty = true∨fJ rc.dst rc.ch = true):aP N B { after σ rc with nx:=M } E' (a.put rc.dst v') w':=by
 have hlive:∀ q,M≤q→¬ E'.live q:=by
  intro q hq h
  rcases hP.live q h with h | h
  ·exact hs.live q (by omega) h
  ·omega
 have hown:∀ o b,E'.live o→E'.conc o = some b→B.W.heap.size≤b∨B.mb b:=by
  intro o b ho h
  rcases hP.st.concnew o b ho h with ⟨o,h1,h2⟩ | h
  ·exact hs.own o b h1 h2
  ·have:=hs.base.size;exact .inl (by omega)
 have hold:∀ b,E'.ok b→B.ok b∨B.W.heap.size≤b∨B.mb b:=by
  intro b hb
  rcases hP.st.okold b hb with h | h | ⟨o,h1,h2⟩
  ·exact hs.okold b h
  ·have:=hs.base.size;exact .inr (.inl (by omega))
  ·exact .inr (hs.own o b h1 h2)
 have hbase:tr B.mb B.W.heap.size B.W w':=by
  refine ⟨hP.st.os.trans hs.base.os,hP.st.tape.trans hs.base.tape,hP.st.output.trans hs.base.output,Nat.le_trans hs.base.size hP.st.size,fun k hk hm=>?_⟩
  rw [hP.st.blk k (by have:=hs.base.size;omega) fun o ho h=>by
   rcases hs.own o k ho h with h | h
   ·omega
   ·exact hm h]
  exact hs.base.block k hk hm
 have hkill:=Li (kl:=rc.res.kill) (E':=E') (w':=w') (fun v d h=>h.step hP.st hs.heap.sep hs.heap.oklt) hs.slots
 cases hdst:rc.dst with
 | none =>
  refine ⟨hs.size,hs.small,hs.defers,hlive,hP.heap,fun t s hg=>?_,hbase,hown,hold⟩
  simp only [after,hdst] at hg ⊢
  exact hkill t s hg
 | some d =>
  rw [hdst] at hd hn
  simp only [iq,Nat.blt_eq] at hd
  have hlt:d < a.tmps.size:=by rw [hs.size];exact hd
  have hcd:∀ x∈rc.ch,x.1≠d:=by
   rcases hn with hn | hn
   ·intro x hx;rw [List.isEmpty_iff.1 hn] at hx;simp at hx
   ·exact Ix hn
  refine ⟨by simp [Act.put,hs.size],hs.small,hs.defers,hlive,hP.heap, ?_,hbase,hown,hold⟩
  simp only [after,hdst]
  refine FE hlt (by have:=hs.small;omega) hkill hcd ⟨fun _=>hP.val,fun _ h=>?_⟩
  rw [Jw,hh] at h
  cases h
end
end Go.Ax
namespace Go.Ax
open Go.RowKit
section
variable {P:Program} {N:Nat} {B:dT} {σ σ':St} {E:an} {a:Act} {w:World} {C:FuncId→Option CC}
theorem GP (hs:aP N B σ E a w) {rc:bY} {M:Nat} (hf:¬ E.live rc.nid) (hM:σ.nx≤M) (hnid:rc.nid+8≤M) (hh:holds σ.tm rc.ch = false) (he:rc.res.eff = []) (hk:rc.res.kill = []) (hn:fJ rc.dst rc.ch = true)
  (hd:iq N rc.dst = true):aP N B { after σ rc with nx:=M } (E.next rc.nid none 0 0 E.ok) (a.put rc.dst undef) w:=by
 have hS:dc E w [] (E.next rc.nid none 0 0 E.ok) w:=cw hf none 0 0 E.ok (.refl _ _) (by simp) (fun _ h=>h) (fun _ h=>.inl h)
 have hN:aq (E.next rc.nid none 0 0 E.ok) w σ.hp:=cI hf hs.heap (.refl _ _) (by simp) (fun _ h=>h) (fun _ h=>.inl h) hs.heap.oklt
 have hown:∀ o b,(E.next rc.nid none 0 0 E.ok).live o→(E.next rc.nid none 0 0 E.ok).conc o = some b→B.W.heap.size≤b∨B.mb b:=by
  intro o b ho h
  rcases hS.concnew o b ho h with ⟨o,h1,h2⟩ | h
  ·exact hs.own o b h1 h2
  ·have:=hs.base.size;exact .inl (by omega)
 have hlive:∀ q,M≤q→¬ (E.next rc.nid none 0 0 E.ok).live q:=by
  rintro q hq (h | h)
  ·omega
  ·exact hs.live q (by omega) h
 have hslot:∀ t s,ap σ.tm t = some s→jv σ.tm (E.next rc.nid none 0 0 E.ok) w (cC B a t) s:=fun t s hg =>
  ⟨fun h=>fZ hs.heap hS ((hs.slots t s hg).1 h),(hs.slots t s hg).2⟩
 have hkT:pI rc.res.kill σ.tm = σ.tm:=by rw [hk];rfl
 have hkH:rc.res.eff++dU rc.res.kill σ.hp = σ.hp:=by rw [he,hk];rfl
 cases hdst:rc.dst with
 | none =>
  refine ⟨hs.size,hs.small,hs.defers,hlive,by simp only [after];rw [hkH];exact hN,fun t s hg=>?_,hs.base,hown,hs.okold⟩
  simp only [after,hdst] at hg ⊢
  rw [hkT] at hg ⊢
  exact hslot t s hg
 | some d =>
  rw [hdst] at hd hn
  simp only [iq,Nat.blt_eq] at hd
  have hlt:d < a.tmps.size:=by rw [hs.size];exact hd
  refine ⟨by simp [Act.put,hs.size],hs.small,hs.defers,hlive,by simp only [after];rw [hkH];exact hN, ?_,hs.base,hown,hs.okold⟩
  simp only [after,hdst]
  rw [hkT]
  refine FE hlt (by have:=hs.small;omega) hslot (Ix hn) ⟨fun h=>?_,fun _ _=>rfl⟩
  have h':holds σ.tm rc.ch = true:=h
  rw [hh] at h'
  cases h'
theorem OG {tm:List (Nat × au)} {ch:aI} {ps:List Prop} (h:∀ p∈jo tm ch ps,p) (hh:holds tm ch = true):∀ p∈ps,p:=by
 intro p hp
 cases ch with
 | nil=>exact h p hp
 | cons x l=>exact h _ (List.mem_map.2 ⟨p,hp,rfl⟩) hh
theorem wk {tm:List (Nat × au)} {c ch:aI} (h:ch.all (fun x=>fg tm c x.1) = true):ch.all (fun x=>dl tm x.1) = true:=by
 refine List.all_eq_true.2 fun x hx=>?_
 have:=List.all_eq_true.1 h x hx
 unfold fg at this
 unfold dl
 split at this
 ·simp only [Bool.and_eq_true] at this;exact this.1
 ·cases this
theorem fM {ops:List Oper} {nid:Nat} {o:Oper} {rc:bY} (h:recOf P C N ops σ nid o = some rc) :
  iq N o.dst = true∧dB ops σ.tm o.guard = some rc.ch∧rc.ch.all (fun x=>fg σ.tm rc.ch x.1) = true∧j6 P C σ nid rc.ch o = some (rc.vs,rc.res) ∧
   (rc.ch.isEmpty||(rc.res.eff.isEmpty&&rc.res.kill.isEmpty&&fJ o.dst rc.ch)) = true∧rc.dst = o.dst∧rc.nid = nid∧rc.rds = ku (dm o.op)++rc.ch.map (·.1)∧rc.reach = aC σ.hp (lk o rc.vs)∧rc.rws = nG σ.hp (lk o rc.vs):=by
 unfold recOf at h
 cases hd:iq N o.dst with
 | false=>simp [hd] at h
 | true =>
  simp only [hd,cond_true] at h
  split at h
  ·next ch hch =>
   cases hb:ch.all (fun x=>fg σ.tm ch x.1) with
   | false=>simp [hb] at h
   | true =>
    simp only [hb,cond_true] at h
    split at h
    ·next vs r hr =>
     cases hc:(ch.isEmpty||(r.eff.isEmpty&&r.kill.isEmpty&&fJ o.dst ch)) with
     | false=>simp [hc] at h
     | true =>
      simp only [hc,cond_true,Option.some.injEq] at h
      subst h
      exact ⟨rfl,hch,hb,hr,hc,rfl,rfl,rfl,rfl,rfl⟩
    ·cases h
  ·cases h
theorem OU {H:ae} {nid:Nat} {ch:aI} {o:Oper} {vs:List V} {r:av} (h:yL P C H nid ch o vs = some r) (hp:∀ p∈r.pre,p):pt P C H nid o vs = some r:=by
 unfold yL at h
 split at h
 ·next r' hr=>cases h;exact hr
 ·cases hc:ch.isEmpty with
  | true=>rw [hc] at h;cases h
  | false =>
   rw [hc] at h;cases h
   have:=hp (false = true) (by simp)
   cases this
theorem yS (hC:∀ f con,C f = some con→aQ P f con) (hs:aP N B σ E a w) {ops:Array Oper} {i:Nat} {o:Oper} (hi:ops[i]? = some o) {nid M:Nat} (hf:fy E nid) (hM:σ.nx≤M) (hnid:nid+8≤M)
  {rc:bY} (h:recOf P C N ops.toList σ nid o = some rc) (hp:∀ p∈jo σ.tm rc.ch rc.res.pre,p) {K:Act→World→Prop} {Q:Exit→Act→World→Prop}
  (hK:∀ E' a' w',aP N B { after σ rc with nx:=M } E' a' w'→(∀ q,E'.live q→E.live q∨nid≤q∧q < nid+8)→K a' w'):wpOp P ops Q i K a w:=by
 obtain ⟨hd,hch,hb,hr,hc,e1,e2,_,_⟩:=fM h
 rw [← e1] at hd hc
 rw [← e2] at hnid hf hK
 unfold wpOp
 rw [hi]
 simp only
 rw [oq hs hch (wk hb), ← e1]
 cases hh:holds σ.tm rc.ch with
 | false =>
  rw [if_neg (by simp)]
  have hne:rc.ch.isEmpty = false:=by
   cases hx:rc.ch with
   | nil=>rw [hx] at hh;simp [holds] at hh
   | cons=>rfl
  rw [hne,Bool.false_or] at hc
  simp only [Bool.and_eq_true,List.isEmpty_iff] at hc
  exact hK _ _ _ (GP hs hf.one hM hnid hh hc.1.1 hc.1.2 hc.2 hd) bC
 | true =>
  rw [if_pos rfl]
  left
  have hpp:=OG hp hh
  have hn:rc.ch.isEmpty = true∨fJ rc.dst rc.ch = true:=by
   simp only [Bool.or_eq_true,Bool.and_eq_true] at hc
   exact hc.imp id (·.2)
  unfold j6 at hr
  split at hr
  ·next c x y ho =>
   have hpk:∃ v,rc.res = { val:=v }∧∃ b:Bool,a.eval c = .bool b∧ai E w (if b then a.eval x else a.eval y) v:=by
    cases hv:nZ σ rc.ch c x y with
    | some v =>
     simp only [hv,Option.some.injEq,Prod.mk.injEq] at hr
     exact ⟨v,hr.2.symm,Ly hs hh hv⟩
    | none =>
     simp only [hv] at hr
     cases hv2:rO σ rc.ch c x y with
     | none=>simp [hv2] at hr
     | some v =>
      simp only [hv2,Option.map_some,Option.some.injEq,Prod.mk.injEq] at hr
      exact ⟨v,hr.2.symm,J5 hs hh hv2⟩
   obtain ⟨v,hrv,b,hb,hrep⟩:=hpk
   have hr:([]:List V) = []∧({ val:=v }:av) = rc.res:=⟨rfl,hrv.symm⟩
   ·unfold Oper.wp
    have hrun:(execOp a.eval o).run P w = .ok (.value (if b then a.eval x else a.eval y)) w:=by
     simp [execOp,ho,hb,asBool]
    rw [hrun]
    have hP:co E w σ.hp rc.nid rc.res (E.next rc.nid none 0 0 E.ok) w (if b then a.eval x else a.eval y):=by
     have hS:dc E w [] (E.next rc.nid none 0 0 E.ok) w:=cw hf.one none 0 0 E.ok (.refl _ _) (by simp) (fun _ h=>h) (fun _ h=>.inl h)
     rw [← hr.2]
     exact ⟨hS,cI hf.one hs.heap (.refl _ _) (by simp) (fun _ h=>h) (fun _ h=>.inl h) hs.heap.oklt,fZ hs.heap hS hrep,bC⟩
    have hfin:=hK _ _ _ (rL hs hM hnid hP hh hd hn) hP.live
    rw [e1] at hfin
    exact hfin
  ·next op hnp =>
   split at hr
   ·next vs hvs =>
    cases hov0:yL P C σ.hp nid rc.ch o vs with
    | none=>simp [hov0] at hr
    | some r =>
     simp only [hov0,Option.map_some,Option.some.injEq,Prod.mk.injEq] at hr
     obtain ⟨rfl,rfl⟩:=hr
     have hov:=OU hov0 hpp
     rw [← e2] at hov
     refine NY hs.heap hf hC (zP hs hh hvs) hov hpp fun E' w' v' hP=>?_
     have hfin:=hK _ _ _ (rL hs hM hnid hP hh hd hn) hP.live
     rw [e1] at hfin
     exact hfin
   ·cases hr
theorem JD (tm:List (Nat × au)) (t:Nat):ap (m5 tm) t = (ap tm t).map fun s=>bif s.ch.isEmpty then s else ⟨[], .c .unk⟩ :=
 uO (fun s=>bif s.ch.isEmpty then s else ⟨[], .c .unk⟩) tm t
theorem ur (hs:aP N B σ E a w):aP N B { σ with tm:=m5 σ.tm } E a w:=by
 refine ⟨hs.size,hs.small,hs.defers,hs.live,hs.heap,fun t s hg=>?_,hs.base,hs.own,hs.okold⟩
 simp only at hg ⊢
 rw [JD] at hg
 cases hx:ap σ.tm t with
 | none=>rw [hx] at hg;cases hg
 | some y =>
  rw [hx] at hg
  simp only [Option.map_some,Option.some.injEq] at hg
  cases hc:y.ch.isEmpty with
  | false =>
   rw [hc,cond_false] at hg;subst hg
   exact ⟨fun _=>.unk _,fun _ h=>by simp [holds] at h⟩
  | true =>
   rw [hc,cond_true] at hg;subst hg
   have hch:y.ch = []:=List.isEmpty_iff.1 hc
   have:=hs.slots t y hx
   exact ⟨fun _=>this.1 (by rw [hch];rfl),fun _ h=>by rw [hch] at h;simp [holds] at h⟩
theorem Bb (hC:∀ f con,C f = some con→aQ P f con) {ops:Array Oper} {Q:Exit→Act→World→Prop}:∀ (rest:List Oper) (i:Nat) (σ σ':St) (ps:List Prop) (E:an) (a:Act) (w:World),
  ops.toList.drop i = rest→lJ P C N ops.toList rest σ = some (ps,σ')→(∀ p∈ps,p)→aP N B σ E a w→(∀ E' a' w',aP N B σ' E' a' w'→Q .normal a' w')→wpOps P ops Q (List.range' i rest.length) a w
 | [],i,σ,σ',ps,E,a,w,hd,hg,hp,hs,hQ=>by
  simp only [lJ,Option.some.injEq,Prod.mk.injEq] at hg
  obtain ⟨rfl,rfl⟩:=hg
  exact hQ _ _ _ (ur hs)
 | o :: rest,i,σ,σ',ps,E,a,w,hd,hg,hp,hs,hQ=>by
  rw [lJ] at hg
  split at hg
  ·next rc h1 =>
   split at hg
   ·next qs σ2 h2 =>
    simp only [Option.some.injEq,Prod.mk.injEq] at hg
    obtain ⟨rfl,rfl⟩:=hg
    have hi:ops[i]? = some o:=by
     have:=congrArg (·[0]?) hd
     simpa using this
    rw [List.length_cons,List.range'_succ,wpOps_cons]
    refine yS (M:=σ.nx+8) hC hs hi (.of hs.live (Nat.le_refl _)) (Nat.le_add_right _ _) (Nat.le_refl _) h1 (fun p hp'=>hp p (List.mem_append_left _ hp')) fun E' a' w' hs' _=>?_
    refine Bb hC rest (i+1) { after σ rc with nx:=σ.nx+8 } _ qs E' a' w' ?_ h2 (fun p hp'=>hp p (List.mem_append_right _ hp')) hs' hQ
    rw [← List.drop_drop,hd]
    rfl
   ·cases hg
  ·cases hg
theorem MH (hC:∀ f con,C f = some con→aQ P f con) {id:Nat} {ops:Array Oper} {Q:Exit→Act→World→Prop} {ps:List Prop} (hg:lJ P C N ops.toList ops.toList σ = some (ps,σ')) (hp:∀ p∈ps,p)
  (hs:aP N B σ E a w) (hQ:∀ E' a' w',aP N B σ' E' a' w'→Q .normal a' w'):(Code.region id ops false).wp P Q a w:=by
 refine wp_region ?_
 have:=Bb hC (Q:=Q) ops.toList 0 σ σ' ps E a w rfl hg hp hs hQ
 rw [List.range_eq_range']
 simpa using this
end
end Go.Ax
namespace Go.Ax
open Go.RowKit
section
variable {P:Program} {N:Nat} {B:dT} {σ σ':St} {E:an} {a:Act} {w:World} {C:FuncId→Option CC}
theorem BJ:∀ {ps:List Prop} {Q:Prop},Ds ps Q→(∀ p∈ps,p)∧Q
 | [],_,h=>⟨fun p hp=>by simp at hp,h⟩
 | p :: ps,Q,h=>by
  obtain ⟨h1,h2⟩:=BJ h.2
  refine ⟨fun q hq=>?_,h2⟩
  rcases List.mem_cons.1 hq with rfl | hq
  ·exact h.1
  ·exact h1 q hq
theorem NP {ps:List Prop} {Q Q':Prop} (hq:Q→Q'):Ds ps Q→Ds ps Q':=by
 induction ps with
 | nil=>exact hq
 | cons p ps ih=>exact fun h=>⟨h.1,ih h.2⟩
theorem IN (hs:aP N B σ E a w) {t:Nat} {s:au} (hg:ap σ.tm t = some s):aP N B { σ with tm:=gq σ.tm t s } E a w:=by
 have hx:∀ x,ap (gq σ.tm t s) x = ap σ.tm x:=by
  intro x
  rw [kh]
  split
  ·next e=>subst e;exact hg.symm
  ·rfl
 refine ⟨hs.size,hs.small,hs.defers,hs.live,hs.heap,fun q y hq=>?_,hs.base,hs.own,hs.okold⟩
 simp only at hq ⊢
 rw [hx] at hq
 exact fO (tm:=σ.tm) (hs.slots q y hq) fun z _ _=>by rw [hx]
theorem Ib (hC:∀ f con,C f = some con→aQ P f con) (hs:aP N B σ E a w) {ops:Array Oper} {i:Nat} {o:Oper} (hi:ops[i]? = some o) {ch:aI} (hch:dB ops.toList σ.tm o.guard = some ch)
  (hb:ch.all (fun x=>dl σ.tm x.1) = true) (hh:holds σ.tm ch = true) {k:St→Prop} (h:oh P C N ops.toList σ o k) {K:Act→World→Prop} {Q:Exit→Act→World→Prop}
  (hK:∀ σ' E' a' w',k σ'→aP N B σ' E' a' w'→K a' w'):wpOp P ops Q i K a w:=by
 unfold oh at h
 split at h
 ·next rc hr =>
  obtain ⟨hp,hk⟩:=BJ h
  have hr':recOf P C N (#[{ o with guard:=none }]:Array Oper).toList σ σ.nx { o with guard:=none } = some rc:=hr
  have hch0:rc.ch = []:=by
   obtain ⟨_,h1,_⟩:=fM hr
   have:dB ops.toList σ.tm none = some rc.ch:=h1
   simpa [dB] using this.symm
  have:=yS (Q:=Q) (M:=σ.nx+8) hC hs (ops:=#[{ o with guard:=none }]) (i:=0) rfl (.of hs.live (Nat.le_refl _)) (Nat.le_add_right _ _) (Nat.le_refl _) hr' (by rw [hch0];exact hp)
   (K:=K) fun E' a' w' hs' _=>hK _ E' a' w' hk hs'
  unfold wpOp at this ⊢
  rw [hi]
  simp only
  rw [oq hs hch hb,hh,if_pos rfl]
  have e:(#[{ o with guard:=none }]:Array Oper)[0]? = some { o with guard:=none }:=rfl
  rw [e] at this
  simp only [Region.wanted,if_true] at this
  exact this
 ·exact h.elim
theorem EB (hs:aP N B σ E a w) {ops:Array Oper} {i:Nat} {o:Oper} (hi:ops[i]? = some o) {ch:aI} (hch:dB ops.toList σ.tm o.guard = some ch)
  (hb:ch.all (fun x=>dl σ.tm x.1) = true) (hh:holds σ.tm ch = false) {k:St→Prop} (h:n9 N σ o ch k) {K:Act→World→Prop} {Q:Exit→Act→World→Prop}
  (hK:∀ σ' E' a' w',k σ'→aP N B σ' E' a' w'→K a' w'):wpOp P ops Q i K a w:=by
 unfold n9 at h
 cases hc:(iq N o.dst&&fJ o.dst ch) with
 | false=>rw [hc] at h;exact h.elim
 | true =>
  rw [hc,cond_true] at h
  rw [Bool.and_eq_true] at hc
  unfold wpOp
  rw [hi]
  simp only
  rw [oq hs hch hb,hh,if_neg (by simp)]
  exact hK _ _ _ _ h (GP hs (rc:=EF o ch σ.nx) (hs.live _ (Nat.le_refl _)) (Nat.le_add_right _ _) (Nat.le_refl _) hh rfl rfl hc.2 hc.1)
theorem M5 (hC:∀ f con,C f = some con→aQ P f con) {ops:Array Oper} {Q:Exit→Act→World→Prop}:∀ (rest:List Oper) (i:Nat) (σ:St) (K:St→Prop) (E:an) (a:Act) (w:World),
  ops.toList.drop i = rest→sG P C N ops.toList rest σ K→aP N B σ E a w→(∀ σ' E' a' w',K σ'→aP N B σ' E' a' w'→Q .normal a' w')→wpOps P ops Q (List.range' i rest.length) a w
 | [],i,σ,K,E,a,w,hd,hg,hs,hQ=>by
  rw [sG] at hg
  exact hQ _ _ _ _ hg (ur hs)
 | o :: rest,i,σ,K,E,a,w,hd,hg,hs,hQ=>by
  have hi:ops[i]? = some o:=by
   have:=congrArg (·[0]?) hd
   simpa using this
  have hd':ops.toList.drop (i+1) = rest:=by
   rw [← List.drop_drop,hd];rfl
  have next:∀ σ' E' a' w',sG P C N ops.toList rest σ' K→aP N B σ' E' a' w'→wpOps P ops Q (List.range' (i+1) rest.length) a' w' :=
   fun σ' E' a' w' h hs'=>M5 hC rest (i+1) σ' K E' a' w' hd' h hs' hQ
  rw [List.length_cons,List.range'_succ,wpOps_cons]
  rw [sG] at hg
  split at hg
  ·next hgn=>exact Ib hC hs hi (ch:=[]) (by rw [hgn];rfl) rfl rfl hg next
  ·next g hgn =>
   split at hg
   ·next t wt ch hch =>
    cases hb:((t,wt) :: ch).all (fun x=>fg σ.tm ((t,wt) :: ch) x.1) with
    | false=>rw [hb] at hg;exact hg.elim
    | true =>
     rw [hb,cond_true] at hg
     have hbs:=wk hb
     rw [← hgn] at hch
     split at hg
     ·next c0 b hgt =>
      cases hh:holds σ.tm ch with
      | false =>
       rw [hh,cond_false] at hg
       exact EB hs hi hch hbs (by rw [eI,hh,Bool.and_false]) hg next
      | true =>
       rw [hh,cond_true] at hg
       have hhold:holds σ.tm ((t,wt) :: ch) = (b == wt):=by rw [eI,hh,Bool.and_true,hgt];rfl
       have hsame:∀ b',b = b'→(∀ x,ap (gq σ.tm t ⟨c0,bl b'⟩) x = ap σ.tm x):=by
        intro b' e x
        subst e
        rw [kh]
        split
        ·next e=>subst e;exact hgt.symm
        ·rfl
       have hgc:∀ b',b = b'→dB ops.toList (gq σ.tm t ⟨c0,bl b'⟩) o.guard = some ((t,wt) :: ch):=by
        intro b' e
        rw [← hch]
        unfold dB
        split
        ·rfl
        ·split
         ·split
          ·rw [hsame b' e]
          ·rfl
         ·rfl
       have hbc:∀ b',b = b'→((t,wt) :: ch).all (fun x=>dl (gq σ.tm t ⟨c0,bl b'⟩) x.1) = true:=by
        intro b' e
        rw [← hbs]
        congr 1
        funext x
        unfold dl
        rw [hsame b' e]
       have hho:∀ b',b = b'→holds (gq σ.tm t ⟨c0,bl b'⟩) ((t,wt) :: ch) = (b' == wt):=by
        intro b' e
        rw [jz (tm:=σ.tm) _ fun x _=>by rw [hsame b' e],hhold,e]
       cases hbv:b with
       | true =>
        rw [hbv,cond_true] at hg
        have hs':=IN hs hgt
        rw [hbv] at hs'
        cases wt with
        | true=>rw [cond_true] at hg;exact Ib hC hs' hi (hgc true hbv) (hbc true hbv) (hho true hbv) hg next
        | false=>rw [cond_false] at hg;exact EB hs' hi (hgc true hbv) (hbc true hbv) (hho true hbv) hg next
       | false =>
        rw [hbv,cond_false] at hg
        have hs':=IN hs hgt
        rw [hbv] at hs'
        cases wt with
        | true=>rw [cond_true] at hg;exact EB hs' hi (hgc false hbv) (hbc false hbv) (hho false hbv) hg next
        | false=>rw [cond_false] at hg;exact Ib hC hs' hi (hgc false hbv) (hbc false hbv) (hho false hbv) hg next
     ·exact hg.elim
   ·exact hg.elim
theorem KR (hC:∀ f con,C f = some con→aQ P f con) {id:Nat} {ops:Array Oper} {Q:Exit→Act→World→Prop} {K:St→Prop} (hg:sG P C N ops.toList ops.toList σ K)
  (hs:aP N B σ E a w) (hQ:∀ σ' E' a' w',K σ'→aP N B σ' E' a' w'→Q .normal a' w'):(Code.region id ops false).wp P Q a w:=by
 refine wp_region ?_
 have:=M5 hC (Q:=Q) ops.toList 0 σ K E a w rfl hg hs hQ
 rw [List.range_eq_range']
 simpa using this
theorem vY {all:List Oper} {o:Oper} {k k':St→Prop} (hk:∀ σ,k σ→k' σ) (h:oh P C N all σ o k):oh P C N all σ o k':=by
 unfold oh at h ⊢
 split at h
 ·next rc hr=>exact NP (hk _) h
 ·exact h.elim
theorem vF {o:Oper} {ch:aI} {k k':St→Prop} (hk:∀ σ,k σ→k' σ) (h:n9 N σ o ch k):n9 N σ o ch k':=by
 unfold n9 at h ⊢
 cases hc:(iq N o.dst&&fJ o.dst ch) with
 | false=>rw [hc] at h;exact h.elim
 | true=>rw [hc,cond_true] at h;rw [cond_true];exact hk _ h
end
end Go.Ax
namespace Go.Ax
open Go.RowKit
section
variable {P:Program} {N:Nat} {B:dT} {σ σ':St} {E:an} {a:Act} {w:World} {C:FuncId→Option CC}
mutual
theorem kill_noUnk (o:Nat):∀ v:V,(v.kill o).noUnk = true→v.kill o = v
 | .c _,_=>rfl
 | .agg vs,h=>by simp only [V.kill,V.noUnk] at h ⊢; rw [kills_noUnk o vs h]
 | .tup vs,h=>by simp only [V.kill,V.noUnk] at h ⊢; rw [kills_noUnk o vs h]
 | .ptr o' k i j,h=>by
  rw [V.kill] at h ⊢
  cases hb:Nat.beq o' o
  ·rfl
  ·rw [hb] at h;simp [V.noUnk] at h
 | .row o' k,h=>by
  rw [V.kill] at h ⊢
  cases hb:Nat.beq o' o
  ·rfl
  ·rw [hb] at h;simp [V.noUnk] at h
 | .sub o' k i j,h=>by
  rw [V.kill] at h ⊢
  cases hb:Nat.beq o' o
  ·rfl
  ·rw [hb] at h;simp [V.noUnk] at h
 | .dptr ..,_=>rfl
 | .fn _ vs,h=>by simp only [V.kill,V.noUnk] at h ⊢; rw [kills_noUnk o vs h]
theorem kills_noUnk (o:Nat):∀ vs:List V,V.noUnks (V.kills o vs) = true→V.kills o vs = vs
 | [],_=>rfl
 | v :: r,h=>by
  simp only [V.kills,V.noUnks,Bool.and_eq_true] at h ⊢
  rw [kill_noUnk o v h.1,kills_noUnk o r h.2]
end
theorem lL:∀ (kl:List Nat) (v:V),(v.killAll kl).noUnk = true→v.killAll kl = v
 | [],_,_=>rfl
 | o :: r,v,h=>by
  rw [V.killAll] at h ⊢
  have h1:=lL r _ h
  rw [h1] at h ⊢
  exact kill_noUnk o v h
mutual
theorem kill_norefs (o:Nat):∀ v:V,v.refs = []→v.kill o = v
 | .c _,_=>rfl
 | .agg vs,h=>by simp only [V.kill];rw [kills_norefs o vs h]
 | .tup vs,h=>by simp only [V.kill];rw [kills_norefs o vs h]
 | .ptr o' k i j,h=>by simp [V.refs] at h
 | .row o' k,h=>by simp [V.refs] at h
 | .sub o' k i j,h=>by simp [V.refs] at h
 | .dptr ..,_=>rfl
 | .fn _ vs,h=>by simp only [V.kill];rw [kills_norefs o vs h]
theorem kills_norefs (o:Nat):∀ vs:List V,V.refss vs = []→V.kills o vs = vs
 | [],_=>rfl
 | v :: r,h=>by
  simp only [V.refss,List.append_eq_nil_iff] at h
  simp only [V.kills]
  rw [kill_norefs o v h.1,kills_norefs o r h.2]
end
mutual
theorem kill_disj (o:Nat):∀ (v:V),o ∉ v.refs→v.kill o = v
 | .c _,_=>rfl
 | .agg vs,h=>by rw [V.kill,kills_disj o vs (by rw [V.refs] at h;exact h)]
 | .tup vs,h=>by rw [V.kill,kills_disj o vs (by rw [V.refs] at h;exact h)]
 | .ptr o' k i j,h=>by
  rw [V.kill]
  cases hb:Nat.beq o' o with
  | false=>rfl
  | true=>exact (h (by rw [V.refs,Nat.eq_of_beq_eq_true hb];simp)).elim
 | .row o' k,h=>by
  rw [V.kill]
  cases hb:Nat.beq o' o with
  | false=>rfl
  | true=>exact (h (by rw [V.refs,Nat.eq_of_beq_eq_true hb];simp)).elim
 | .sub o' k i j,h=>by
  rw [V.kill]
  cases hb:Nat.beq o' o with
  | false=>rfl
  | true=>exact (h (by rw [V.refs,Nat.eq_of_beq_eq_true hb];simp)).elim
 | .dptr ..,_=>rfl
 | .fn f vs,h=>by rw [V.kill,kills_disj o vs (by rw [V.refs] at h;exact h)]
theorem kills_disj (o:Nat):∀ (vs:List V),o ∉ V.refss vs→V.kills o vs = vs
 | [],_=>rfl
 | v :: r,h=>by
  rw [V.refss,List.mem_append] at h
  rw [V.kills,kill_disj o v (fun e=>h (.inl e)),kills_disj o r (fun e=>h (.inr e))]
end
theorem iE:∀ (kl:List Nat) (v:V),(∀ q∈v.refs,q ∉ kl)→v.killAll kl = v
 | [],_,_=>rfl
 | o :: r,v,h=>by
  rw [V.killAll,kill_disj o v (fun ho=>h o ho (by simp)),iE r v fun q hq hr=>h q hq (by simp [hr])]
theorem kC {a b:List Nat} (h:LB a b = true):∀ x∈a,x ∉ b:=by
 intro x hx hb
 have:=List.all_eq_true.1 h x hx
 simp only [Bool.not_eq_true'] at this
 have:=List.any_eq_false.1 this x hb
 simp at this
theorem ud {H H':ae} {o k:Nat} (h:H.get o = H'.get o):rz H o k = rz H' o k:=by unfold rz;rw [h]
theorem uB {H H':ae} {o k off n:Nat} (h:H.get o = H'.get o):qt H o k off n = qt H' o k off n:=by unfold qt;rw [h]
theorem Gk {H:ae} {vs:List V} {o:Nat} {cs:List V} (ho:o∈V.refss vs) (hb:H.get o = some (.box cs)) {q:Nat} (hq:q∈V.refss cs):q∈aC H vs :=
 List.mem_append_right _ (List.mem_flatMap.2 ⟨o,ho,by rw [hb];exact hq⟩)
theorem D4 {H:ae} {vs:List V} {o:Nat} {m:V} (ho:o∈V.refss vs) {s:Int} {l:List Int} (hb:H.get o = some (.iter m s l)) {q:Nat} (hq:q∈V.refs m):q∈aC H vs :=
 List.mem_append_right _ (List.mem_flatMap.2 ⟨o,ho,by rw [hb];exact hq⟩)
theorem M0 {H:ae} {vs:List V} {o:Nat} (ho:o∈V.refss vs):o∈aC H vs:=List.mem_append_left _ ho
theorem z7 {H H':ae}:∀ (os:List Nat),(∀ o∈os,H.get o = H'.get o)→aY os H = aY os H'
 | [],_=>rfl
 | o :: r,h=>by
  unfold aY
  rw [h o (by simp),z7 r fun o ho=>h o (by simp [ho])]
structure iZ (H H':ae) (os:List Nat):Prop where
  one:∀ o∈os,H.get o = H'.get o
  two:∀ o∈os, ∀ cs,H.get o = some (.box cs)→∀ q∈V.refss cs,H.get q = H'.get q
  three:∀ o∈os, ∀ m s l,H.get o = some (.iter m s l)→∀ q∈V.refs m,H.get q = H'.get q
theorem iZ.sub {H H':ae} {os os':List Nat} (h:iZ H H' os) (hs:∀ o∈os',o∈os):iZ H H' os':=⟨fun o ho=>h.one o (hs o ho),fun o ho=>h.two o (hs o ho),fun o ho=>h.three o (hs o ho)⟩
theorem zZ {H H':ae} {vs:List V} (h:∀ o∈aC H vs,H.get o = H'.get o):iZ H H' (V.refss vs) :=
 ⟨fun o ho=>h o (M0 ho),fun o ho cs hb q hq=>h q (Gk ho hb hq),fun o ho m s l hb q hq=>h q (D4 ho hb hq)⟩
theorem sQ {H H':ae} {vs:List V} (h:iZ H H' (V.refss vs)):aC H vs = aC H' vs:=by
 unfold aC
 congr 1
 have:∀ (l:List Nat),(∀ o∈l,H.get o = H'.get o)→l.flatMap (fun o=>match H.get o with | some (.box cs)=>V.refss cs | some (.iter m _ _)=>V.refs m | _=>[]) = l.flatMap (fun o=>match H'.get o with | some (.box cs)=>V.refss cs | some (.iter m _ _)=>V.refs m | _=>[]):=by
  intro l
  induction l with
  | nil=>intro _;rfl
  | cons x l ih =>
   intro hl
   rw [List.flatMap_cons,List.flatMap_cons,hl x (by simp),ih fun o ho=>hl o (by simp [ho])]
 exact this _ h.one
theorem M8 {H H':ae} {vs:List V} (h:iZ H H' (V.refss vs)) {o:Nat} (ho:o∈aC H vs):H.get o = H'.get o:=by
 unfold aC at ho
 rcases List.mem_append.1 ho with ho | ho
 ·exact h.one o ho
 ·obtain ⟨q,hq,ho⟩:=List.mem_flatMap.1 ho
  cases hg:H.get q with
  | none=>rw [hg] at ho;simp at ho
  | some b =>
   rw [hg] at ho
   cases b with
   | box cs=>exact h.two q hq cs hg o ho
   | row t k n=>simp at ho
   | raw x=>simp at ho
   | map=>simp at ho
   | iter m s l=>exact h.three q hq m s l hg o ho
theorem Gt {H H':ae} {vs:List V} (h:iZ H H' (V.refss vs)):nG H vs = nG H' vs:=by
 unfold nG
 rw [← sQ h]
 have key:∀ l:List Nat,(∀ o∈l,H.get o = H'.get o)→(l.all fun o=>GJ (H.get o)) = (l.all fun o=>GJ (H'.get o))∧(l.flatMap fun o=>nH (H.get o)) = l.flatMap fun o=>nH (H'.get o):=by
  intro l
  induction l with
  | nil=>intro _;exact ⟨rfl,rfl⟩
  | cons x l ih =>
   intro h
   obtain ⟨i1,i2⟩:=ih fun o ho=>h o (by simp [ho])
   rw [List.all_cons,List.all_cons,List.flatMap_cons,List.flatMap_cons,h x (by simp),i1,i2]
   exact ⟨rfl,rfl⟩
 obtain ⟨k1,k2⟩:=key _ fun o ho=>M8 h ho
 rw [k1,k2]
theorem Jr {H H':ae} {v:V} (h:∀ o∈v.refs,H.get o = H'.get o):nY H v = nY H' v:=by
 cases v with
 | row o k=>simp only [nY,ud (h o (by simp [V.refs]))]
 | sub o k off n=>simp only [nY,uB (h o (by simp [V.refs]))]
 | _=>rfl
theorem K2 {H H':ae} {o k i j:Nat} (h:iZ H H' [o]):HX H o k i j = HX H' o k i j:=by
 unfold HX
 have h1:=h.one o (by simp)
 cases hg:H.get o with
 | none=>rw [← h1,hg]
 | some ob =>
  cases ob with
  | row t k' n=>rw [← h1,hg]
  | raw x=>rw [← h1,hg]
  | map=>rw [← h1,hg]
  | iter m s l=>rw [← h1,hg]
  | box cs =>
   have:cs.map (nY H) = cs.map (nY H'):=List.map_congr_left fun v hv=>Jr fun q hq=>by
    obtain ⟨i,hi⟩:=List.getElem?_of_mem hv
    exact h.two o (by simp) cs hg q (ct hi hq)
   rw [← h1,hg]
   simp only [this]
mutual
theorem view_agree {H H':ae}:∀ (v:V),iZ H H' v.refs→v.view H = v.view H'
 | .c .nil,_=>rfl
 | .c .unk,_=>rfl
 | .c (.lit _),_=>rfl
 | .c (.opt ..),_=>rfl
 | .c .any,_=>rfl
 | .c (.sl ..),_=>rfl
 | .agg vs,h=>by rw [V.view,V.view,views_agree vs h]
 | .tup vs,h=>by rw [V.view,V.view,views_agree vs h]
 | .ptr o k i j,h=>by rw [V.view,V.view];exact K2 h
 | .row o k,h=>by rw [V.view,V.view];exact ud (h.one o (by simp [V.refs]))
 | .sub o k off n,h=>by rw [V.view,V.view];exact uB (h.one o (by simp [V.refs]))
 | .dptr ..,_=>by rw [V.view,V.view]
 | .fn f vs,h=>by rw [V.view,V.view,views_agree vs h]
theorem views_agree {H H':ae}:∀ (vs:List V),iZ H H' (V.refss vs)→V.views H vs = V.views H' vs
 | [],_=>rfl
 | v :: r,h=>by
  rw [V.views,V.views,view_agree v (h.sub fun o ho=>by simp [V.refss,ho]),views_agree r (h.sub fun o ho=>by simp [V.refss,ho])]
end
mutual
theorem viewN_agree {H H':ae}:∀ (v:V),v.noP = true→(∀ o∈v.refs,H.get o = H'.get o)→v.view H = v.view H'
 | .c d,_,_=>by cases d <;> rfl
 | .agg vs,hn,h=>by rw [V.view,V.view,viewsN_agree vs (by simpa [V.noP] using hn) h]
 | .tup vs,hn,h=>by rw [V.view,V.view,viewsN_agree vs (by simpa [V.noP] using hn) h]
 | .ptr o k i j,hn,_=>by simp [V.noP] at hn
 | .row o k,_,h=>by rw [V.view,V.view];exact ud (h o (by simp [V.refs]))
 | .sub o k off n,_,h=>by rw [V.view,V.view];exact uB (h o (by simp [V.refs]))
 | .dptr ..,_,_=>by rw [V.view,V.view]
 | .fn f vs,hn,h=>by rw [V.view,V.view,viewsN_agree vs (by simpa [V.noP] using hn) h]
theorem viewsN_agree {H H':ae}:∀ (vs:List V),V.noPs vs = true→(∀ o∈V.refss vs,H.get o = H'.get o)→V.views H vs = V.views H' vs
 | [],_,_=>rfl
 | v :: r,hn,h=>by
  rw [V.noPs,Bool.and_eq_true] at hn
  rw [V.views,V.views,viewN_agree v hn.1 (fun o ho=>h o (by simp [V.refss,ho])),viewsN_agree r hn.2 (fun o ho=>h o (by simp [V.refss,ho]))]
end
theorem J3 {C:FuncId→Option CC} {f:FuncId} {nid:Nat} {H H':ae} {vs:List V} (h:∀ o∈V.refss vs,H.get o = H'.get o):pV C f nid H vs = pV C f nid H' vs:=by
 unfold pV
 cases hn:V.noPs vs with
 | false=>rfl
 | true =>
  rw [cond_true,cond_true]
  cases hc:C f with
  | none=>rfl
  | some con =>
   match con,hc with
   | .mut m,hc=>rfl
   | .pure con,hc =>
    simp only
    unfold gV
    rw [hc]
    simp only
    rw [viewsN_agree vs hn h]
theorem NA (o:Nat) (t:Ty) (l:List t.T):∀ vs:List V, ∀ x∈V.refss (V.fzs o t l vs),x∈V.refss vs:=fzr2 o t l
where
  fzr1 (o:Nat) (t:Ty) (l:List t.T):∀ d:V, ∀ x∈(d.fz o t l).refs,x∈d.refs
  | .c _,x,h=>by simp [V.fz,V.refs] at h
  | .agg vs,x,h=>by rw [V.fz,V.refs] at h;rw [V.refs];exact fzr2 o t l vs x h
  | .tup vs,x,h=>by rw [V.fz,V.refs] at h;rw [V.refs];exact fzr2 o t l vs x h
  | .ptr o' k' i j,x,h=>by
    rw [V.fz] at h
    cases hb:Nat.beq o' o with
    | false=>rw [hb,cond_false] at h;exact h
    | true=>rw [hb,cond_true] at h;simp [V.refs] at h
  | .row o' k',x,h=>by
    rw [V.fz] at h
    cases hb:Nat.beq o' o with
    | false=>rw [hb,cond_false] at h;exact h
    | true =>
      rw [hb,cond_true] at h
      cases hk:Nat.beq t.k k' <;> rw [hk] at h <;> simp [V.refs] at h
  | .sub o' k' i j,x,h=>by
    rw [V.fz] at h
    cases hb:Nat.beq o' o with
    | false=>rw [hb,cond_false] at h;exact h
    | true =>
      rw [hb,cond_true] at h
      cases hk:Nat.beq t.k k' <;> rw [hk] at h <;> simp [V.refs] at h
  | .dptr ..,x,h=>by rw [V.fz] at h;exact h
  | .fn _ vs,x,h=>by rw [V.fz,V.refs] at h;rw [V.refs];exact fzr2 o t l vs x h
  fzr2 (o:Nat) (t:Ty) (l:List t.T):∀ vs:List V, ∀ x∈V.refss (V.fzs o t l vs),x∈V.refss vs
  | [],x,h=>by simp [V.fzs,V.refss] at h
  | v :: r,x,h=>by
    rw [V.fzs,V.refss,List.mem_append] at h
    rw [V.refss,List.mem_append]
    exact h.imp (fzr1 o t l v x) (fzr2 o t l r x)
theorem oW {f:ae→List V→Option av} (hf:∀ H H' vs,(∀ o∈V.refss vs,ae.get H o = ae.get H' o)→f H vs = f H' vs):∀ (fl:List Nat) (H H':ae) (vs:List V),(∀ o∈fl,H.get o = H'.get o)→(∀ o∈V.refss vs,H.get o = H'.get o)→ju f fl H vs = ju f fl H' vs
 | [],H,H',vs,_,h=>hf H H' vs h
 | q :: fl,H,H',vs,h,h2=>by
  rw [ju,ju, ← h q (by simp)]
  split
  ·next e t l hg =>
   refine congrArg _ (oW hf fl _ _ _ (fun o ho=>?_) fun o ho=>?_)
   ·simp only [ae.get_cons,dL,h o (by simp [ho])]
   ·simp only [ae.get_cons,dL,h2 o (NA q t l vs o ho)]
  ·rfl
theorem B8 {H H':ae} {t:Ty} {v:V} (h:∀ o∈v.refs,H.get o = H'.get o):cn H t v = cn H' t v:=by
 unfold cn
 cases v with
 | row q k=>simp only [h q (by simp [V.refs])]
 | sub q k off n=>simp only [h q (by simp [V.refs])]
 | c d=>cases d <;> rfl
 | _=>rfl
theorem J0 {P:Program} {H H':ae} {t:TypeId} {a:V} (h:∀ o∈a.refs,H.get o = H'.get o):mB P H t a = mB P H' t a:=by
 unfold mB
 cases a with
 | ptr q k i j=>simp only [h q (by simp [V.refs])]
 | _=>rfl
theorem qV {P:Program} {H H':ae} {t:TypeId} {a b:V} (h:∀ o∈a.refs,H.get o = H'.get o):oR P H t a b = oR P H' t a b:=by
 unfold oR
 cases a with
 | ptr q k i j=>simp only [h q (by simp [V.refs])]
 | _=>rfl
theorem He {P:Program} {H H':ae} {t:TypeId} {vs:List V} (h:∀ o∈V.refss vs,H.get o = H'.get o):tj P t H vs = tj P t H' vs:=by
 unfold tj
 split
 ·next a x=>exact qV fun q hq=>h q (by simp [V.refss,hq])
 ·rfl
theorem I3 {P:Program} {H H':ae} {t:TypeId} {a b:V} (h:∀ o∈V.refss [a,b],H.get o = H'.get o):tC P H t a b = tC P H' t a b:=by
 unfold tC
 cases a with
 | ptr q k i j =>
  have hq:=h q (by simp [V.refss,V.refs])
  simp only [← hq]
  split
  ·exact oW (f:=tj P t) (fun H H' vs h=>He h) (V.refs b) H H' _ (fun o ho=>h o (by simp [V.refss,ho])) h
  ·exact qV fun o ho=>h o (by simp [V.refss,ho])
 | _=>exact qV fun o ho=>h o (by simp [V.refss,ho])
theorem Ld {P:Program} {H H':ae} {t:TypeId} {a:V} (h:∀ o∈a.refs,H.get o = H'.get o):uf P H t a = uf P H' t a:=by
 unfold uf
 generalize P.underlying t = u
 cases u with
 | none=>rfl
 | some u =>
  cases a with
  | row q k =>
   have hq:=h q (by simp [V.refs])
   cases u <;> first | rfl | simp only [hq]
  | c d =>
   cases d with
   | lit v=>cases v <;> cases u <;> rfl
   | _=>cases u <;> rfl
  | _=>cases u <;> rfl
theorem mA {P:Program} {H H':ae} {t:TypeId} {a:V} {lo hi:Option V} (h:∀ o∈a.refs,H.get o = H'.get o):mE P H t a lo hi = mE P H' t a lo hi:=by
 unfold mE
 generalize P.underlying t = u
 cases u with
 | none=>rfl
 | some u =>
  cases a with
  | row q k =>
   have hq:=h q (by simp [V.refs])
   cases u <;> first | rfl | simp only [hq]
  | c d =>
   cases d with
   | lit v=>cases v <;> cases u <;> rfl
   | _=>cases u <;> rfl
  | _=>cases u <;> rfl
theorem Bq {P:Program} {H H':ae} {t:TypeId} {a b:V} (h:∀ o∈a.refs,H.get o = H'.get o):kW P H t a b = kW P H' t a b:=by
 unfold kW
 generalize P.underlying t = u
 by_cases hb:∃ kk i,b = .c (.lit (.int kk i))
 ·obtain ⟨kk,i,rfl⟩:=hb
  cases u with
  | none=>rfl
  | some u =>
   cases a with
   | row q k =>
    have hq:=h q (by simp [V.refs])
    cases u <;> first | rfl | simp only [hq]
   | ptr q k i j =>
    have hq:=h q (by simp [V.refs])
    cases u <;> first | rfl | simp only [hq]
   | c d=>cases d <;> cases u <;> rfl
   | _=>cases u <;> rfl
 ·split <;> first | rfl | exact (hb ⟨_,_,rfl⟩).elim | (split <;> first | rfl | exact (hb ⟨_,_,rfl⟩).elim)
theorem I9 {P:Program} {H H':ae} {t:TypeId} {a:V} (h:∀ o∈a.refs,H.get o = H'.get o):oF P H t a = oF P H' t a:=by
 unfold oF
 cases a with
 | row q k=>simp only [h q (by simp [V.refs])]
 | sub q k off n=>simp only [h q (by simp [V.refs])]
 | _=>rfl
theorem Gn {P:Program} {H H':ae} {nid:Nat} {t:TypeId} {s x:V} (h:∀ o∈s.refs,H.get o = H'.get o) (hx:∀ o∈x.refs,H.get o = H'.get o):me P H nid t s x = me P H' nid t s x:=by
 unfold me
 have e:∀ ty,cn H ty x = cn H' ty x:=fun ty=>B8 hx
 cases s with
 | row q k=>simp only [h q (by simp [V.refs]),e]
 | c d=>cases d <;> simp only [e]
 | _=>rfl
theorem JZ {H H':ae} {a:V} (h:∀ o∈a.refs,H.get o = H'.get o):zp H a = zp H' a:=by
 unfold zp
 cases a with
 | ptr q k i j=>simp only [h q (by simp [V.refs])]
 | _=>rfl
theorem ot {H H':ae} {m:V} (h:∀ o∈m.refs,H.get o = H'.get o):lK H m = lK H' m:=by
 unfold lK
 split
 ·next f o k i j=>rw [h o (by simp [V.refs,V.refss])]
 ·rfl
theorem Gz {H H':ae} {t:TypeId} {m k:V} {ok:Bool} (h:∀ o∈m.refs,H.get o = H'.get o):qc P H t m k ok = qc P H' t m k ok:=by
 unfold qc
 rw [ot h]
theorem Jv {H H':ae} {t:TypeId} {vs:List V} (h:∀ o∈V.refss vs,H.get o = H'.get o):ve P t H vs = ve P t H' vs:=by
 unfold ve
 split
 ·next m k v=>rw [ot fun o ho=>h o (by simp [V.refss,ho])]
 ·rfl
theorem H6 {H H':ae} {a:V} (h:iZ H H' a.refs):tz H a = tz H' a:=by
 unfold tz
 cases a with
 | ptr q k i j =>
  have e:=h.one q (by simp [V.refs])
  simp only [e]
  cases hg:H'.get q with
  | none=>rfl
  | some b =>
   cases b with
   | iter m s l=>simp only [ot fun o ho=>h.three q (by simp [V.refs]) m s l (e.trans hg) o ho]
   | _=>rfl
 | _=>rfl
theorem H8 {P:Program} {H H':ae} {nid:Nat} {t:TypeId} {a:V} (h:∀ o∈a.refs,H.get o = H'.get o):tX P H nid t a = tX P H' nid t a:=by
 unfold tX
 rw [ot h]
theorem Nk {H H':ae} {nid:Nat} {o:Oper} {vs:List V} (h:iZ H H' (V.refss vs)):pt P C H nid o vs = pt P C H' nid o vs:=by
 unfold pt
 split <;> try rfl
 ·exact oW (fun _ _ _ _=>rfl) _ _ _ _ (fun o ho=>h.one o ho) fun o ho=>h.one o ho
 ·exact J0 fun q hq=>h.one q (by simp [V.refss,hq])
 ·exact I3 fun q hq=>h.one q hq
 ·next a b x d _ =>
  have hx:cn H (.i .u8) d = cn H' (.i .u8) d:=B8 fun q hq=>h.one q (by simp [V.refss,hq])
  unfold Cl
  rw [hx]
 ·exact Bq fun q hq=>h.one q (by simp [V.refss,hq])
 ·exact mA fun q hq=>h.one q (by simp [V.refss,hq])
 ·exact mA fun q hq=>h.one q (by simp [V.refss,hq])
 ·exact mA fun q hq=>h.one q (by simp [V.refss,hq])
 ·exact mA fun q hq=>h.one q (by simp [V.refss,hq])
 ·exact Gz fun q hq=>h.one q (by simp [V.refss,hq])
 ·next t x y z m k v _=>exact oW (f:=ve P t) (fun _ _ _ h=>Jv h) (V.refs v) _ _ _ (fun o ho=>h.one o (by simp [V.refss,ho])) fun o ho=>h.one o ho
 ·next t x d _=>rw [H8 (P:=P) (H:=H) (H':=H') fun q hq=>h.one q (by simp [V.refss,hq])]
 ·exact JZ fun q hq=>h.one q (by simp [V.refss,hq])
 ·exact H6 (h.sub fun q hq=>by simp [V.refss,hq])
 ·next args ats x _ =>
  have hc:∀ t,uf P H t x = uf P H' t x:=fun t=>Ld fun q hq=>h.one q (by simp [V.refss,hq])
  simp only [hc]
 ·next args ats x _ =>
  have hc:∀ t,oF P H t x = oF P H' t x:=fun t=>I9 fun q hq=>h.one q (by simp [V.refss,hq])
  simp only [hc]
 ·next args ats s x _ =>
  have ha:∀ t,me P H nid t s x = me P H' nid t s x:=fun t=>Gn (fun q hq=>h.one q (by simp [V.refss,hq])) fun q hq=>h.one q (by simp [V.refss,hq])
  simp only [ha]
 ·next f args ats g caps ds _ =>
  unfold lP
  have hag:iZ H H' (V.refss (ds++caps)):=by
   refine h.sub fun q hq=>?_
   have:∀ (l1 l2:List V),q∈V.refss (l1++l2)→q∈V.refss l1∨q∈V.refss l2:=by
    intro l1 l2
    induction l1 with
    | nil=>intro h;exact .inr h
    | cons x l ih =>
     intro h
     simp only [List.cons_append,V.refss,List.mem_append] at h ⊢
     rcases h with h | h
     ·exact .inl (.inl h)
     ·exact (ih h).imp .inr id
   simp only [V.refss,V.refs,List.mem_append]
   exact (this _ _ hq).symm
  have hr:aY (aC H (ds++caps)) H = aY (aC H' (ds++caps)) H':=by
   rw [← sQ hag]
   refine z7 _ fun o ho=>?_
   rcases List.mem_append.1 ho with ho | ho
   ·exact hag.one o ho
   ·obtain ⟨q,hq,ho⟩:=List.mem_flatMap.1 ho
    cases hg:H.get q with
    | none=>rw [hg] at ho;simp at ho
    | some b =>
     cases b with
     | box cs=>rw [hg] at ho;exact hag.two q hq cs hg o ho
     | row t k n=>rw [hg] at ho;simp at ho
     | raw x=>rw [hg] at ho;simp at ho
     | map=>rw [hg] at ho;simp at ho
     | iter m s l=>rw [hg] at ho;exact hag.three q hq m s l hg o ho
  have h0:gV C H nid g (ds++caps) = gV C H' nid g (ds++caps):=by
   unfold gV
   rw [views_agree _ hag,hr]
  have h1:=oW (f:=pV C g nid) (fun _ _ _ h=>J3 h) (V.refss (ds++caps)) H H' (ds++caps) hag.one hag.one
  rw [h0,h1]
end
end Go.Ax
namespace Go.Ax
open Go.RowKit
section
variable {P:Program} {N:Nat} {B:dT} {σ σ':St} {E:an} {a:Act} {w:World} {C:FuncId→Option CC} {all:List Oper}
def cG:List Nat→Option Ob→Option Ob
 | [],b=>b
 | o :: r,b=>cG r (lw o b)
theorem xS:∀ (kl:List Nat) (H:ae) (q:Nat),ae.get (dU kl H) q = cG kl (ae.get H q)
 | [],H,q=>rfl
 | o :: r,H,q=>by
  have h1:=dL o H q
  rw [dU,xS r,cG]
  simp only [dU] at h1
  rw [h1]
theorem pQ:∀ (A H:ae) (q:Nat),ae.get (A++H) q = if q∈cU A then ae.get A q else ae.get H q
 | [],H,q=>by simp [cU]
 | (p,b) :: A,H,q=>by
  rw [List.cons_append,ae.get_cons,ae.get_cons,pQ A H q]
  by_cases h:p = q
  ·subst h;simp [cU]
  ·simp only [if_neg h,cU,List.map_cons,List.mem_cons]
   have:¬ q = p:=fun e=>h e.symm
   simp only [this,false_or]
   rfl
theorem gM (r:bY) (q:Nat):ae.get (after σ r).hp q = if q∈cU r.res.eff then ae.get r.res.eff q else cG r.res.kill (ae.get σ.hp q):=by
 rw [after,pQ,xS]
def nu (dst:Option Nat) (s:au):au:=match dst with | some d=>bif s.ch.any (fun y=>Nat.beq y.1 d) then ⟨[], .c .unk⟩ else s | none=>s
theorem ic (r:bY) (t:Nat):ap (after σ r).tm t = if r.dst = some t then some ⟨r.ch,r.res.val⟩ else (ap σ.tm t).map fun s=>nu r.dst ⟨s.ch,s.v.killAll r.res.kill⟩:=by
 unfold after nu
 cases hd:r.dst with
 | none=>simp only [reduceCtorEq,if_false];rw [kX]
 | some d =>
  simp only [Option.some.injEq]
  rw [kh]
  split
  ·rfl
  ·rw [qh,kX]
   cases ap σ.tm t <;> rfl
theorem ut {d:Option Nat} {t:Nat}:t∈k8 d↔d = some t:=by
 cases d with
 | none=>simp [k8]
 | some x=>simp [k8,eq_comm]
theorem Mv {r:bY} {t:Nat} {s:au} (h:ap (after σ r).tm t = some s) (ht:t ∉ k8 r.dst) (hn:s.v.noUnk = true):ap σ.tm t = some s:=by
 rw [ic,if_neg (fun e=>ht (ut.2 e))] at h
 cases hx:ap σ.tm t with
 | none=>rw [hx] at h;cases h
 | some y =>
  rw [hx] at h
  simp only [Option.map_some,Option.some.injEq] at h
  have:nu r.dst ⟨y.ch,y.v.killAll r.res.kill⟩ = ⟨y.ch,y.v.killAll r.res.kill⟩:=by
   unfold nu
   cases hd:r.dst with
   | none=>rfl
   | some d =>
    simp only
    cases hc:y.ch.any (fun z=>Nat.beq z.1 d) with
    | false=>rfl
    | true =>
     simp only [nu,hd,hc,cond_true] at h
     subst h
     simp [V.noUnk] at hn
  rw [this] at h
  subst h
  have:=lL _ _ hn
  obtain ⟨ych,yv⟩:=y
  simp only at this ⊢
  rw [this]
theorem K0 {r:bY} {t:Nat} {s:au} (h:ap σ.tm t = some s) (ht:t ∉ k8 r.dst) (hk:∀ q∈s.v.refs,q ∉ r.res.kill) (hc:∀ x∈s.ch,x.1 ∉ k8 r.dst):ap (after σ r).tm t = some s:=by
 rw [ic,if_neg (fun e=>ht (ut.2 e)),h]
 simp only [Option.map_some,Option.some.injEq]
 have e1:s.v.killAll r.res.kill = s.v:=iE _ _ hk
 rw [e1]
 unfold nu
 cases hd:r.dst with
 | none=>rfl
 | some d =>
  simp only
  have:s.ch.any (fun z=>Nat.beq z.1 d) = false:=by
   refine List.any_eq_false.2 fun x hx=>?_
   have:=hc x hx
   rw [hd] at this
   intro hb
   exact this (by simp [k8,Nat.eq_of_beq_eq_true hb])
  rw [this]
  rfl
theorem jn:∀ {xs:List Operand} {t:Nat},t∈ku xs↔Operand.tmp t∈xs
 | [],t=>by simp [ku]
 | .tmp q :: r,t=>by simp [ku,jn (xs:=r)]
 | .const v :: r,t=>by simp [ku,jn (xs:=r)]
 | .global g :: r,t=>by simp [ku,jn (xs:=r)]
 | .func f :: r,t=>by simp [ku,jn (xs:=r)]
theorem oZ {c ch:aI} (h:og c ch = true):∀ x∈c,x.1∈ch.map (·.1):=by
 intro x hx
 have:=List.all_eq_true.1 h x hx
 unfold Ph at this
 obtain ⟨y,hy,hyx⟩:=List.any_eq_true.1 this
 simp only [Bool.and_eq_true,Nat.beq_eq] at hyx
 rw [hyx.1]
 exact List.mem_map.2 ⟨y,hy,rfl⟩
theorem B9:∀ {vs:List V} {v:V},V.noUnks vs = true→v∈vs→v.noUnk = true
 | x :: r,v,h,hv=>by
  simp only [V.noUnks,Bool.and_eq_true] at h
  rcases List.mem_cons.1 hv with rfl | hv
  ·exact h.1
  ·exact B9 h.2 hv
theorem rY {ch:aI} {t:Nat} {v:V} (h:bA σ ch (.tmp t) = some v):∃ s,ap σ.tm t = some s∧og s.ch ch = true∧s.v = v:=by
 unfold bA at h
 cases hl:Nat.blt t 1000000 with
 | false=>simp [hl] at h
 | true =>
  simp only [hl,cond_true] at h
  split at h
  ·next s hg =>
   cases hc:og s.ch ch with
   | false=>simp [hc] at h
   | true=>simp only [hc,cond_true,Option.some.injEq] at h;exact ⟨s,hg,hc,h⟩
  ·cases h
theorem Cm {ch:aI}:∀ {xs:List Operand} {vs:List V},kj σ ch xs = some vs→∀ x∈xs, ∃ v∈vs,bA σ ch x = some v
 | [],vs,h,x,hx=>by simp at hx
 | y :: xs,vs,h,x,hx=>by
  unfold kj at h
  rw [List.mapM_cons] at h
  simp only [Option.bind_eq_bind,Option.pure_def,Option.bind_eq_some_iff,Option.some.injEq] at h
  obtain ⟨d,hd,ds,hds,rfl⟩:=h
  rcases List.mem_cons.1 hx with rfl | hx
  ·exact ⟨d,by simp,hd⟩
  ·obtain ⟨v,hv,h⟩:=Cm (xs:=xs) hds x hx
   exact ⟨v,by simp [hv],h⟩
theorem JB {ch:aI} {c x y:Operand} {v:V} (h:nZ σ ch c x y = some v) :
  ∃ b p q:Bool,bA σ ch c = some (bl b)∧bA σ (n8 c true ch) x = some (bl p)∧bA σ (n8 c false ch) y = some (bl q)∧v = bl (bif b then p else q):=by
 unfold nZ at h
 split at h
 ·next b hc =>
  split at h
  ·next p q hx hy=>cases h;exact ⟨b,p,q,hc,hx,hy,rfl⟩
  ·cases h
 ·cases h
theorem FO {c:Operand} {wt:Bool} {ch:aI} {i:Nat} (h:i∈(n8 c wt ch).map (·.1)):i∈ch.map (·.1)∨c = .tmp i:=by
 unfold n8 at h
 split at h
 ·simp only [List.map_cons,List.mem_cons] at h
  rcases h with rfl | h
  ·exact .inr rfl
  ·exact .inl h
 ·exact .inl h
theorem Fz {nid:Nat} {o:Oper} {rc:bY} (h:recOf P C N all σ nid o = some rc) (hn:V.noUnks rc.vs = true) {t:Nat} (ht:t∈rc.rds) :
  ∃ s,ap σ.tm t = some s∧s.v.noUnk = true∧(∀ x∈s.ch,x.1∈rc.rds)∧∀ q∈s.v.refs,q∈V.refss rc.vs:=by
 obtain ⟨hd,hch,hb,hr,hc,e1,e2,e3,e4,e5⟩:=fM h
 have hids:∀ i,i∈rc.ch.map (·.1)→i∈rc.rds:=fun i hi=>by rw [e3];exact List.mem_append_right _ hi
 have hbool:∀ {s:au} {b:Bool},s.v = bl b→s.v.noUnk = true∧∀ q∈s.v.refs,q∈V.refss rc.vs:=by
  intro s b e;rw [e];exact ⟨rfl,fun q hq=>by simp [V.refs] at hq⟩
 rw [e3,List.mem_append] at ht
 rcases ht with ht | ht
 ·have hto:=jn.1 ht
  unfold j6 at hr
  split at hr
  ·next c x y ho =>
   cases hv:nZ σ rc.ch c x y with
   | none =>
    simp only [hv] at hr
    cases hv2:rO σ rc.ch c x y with
    | none=>simp [hv2] at hr
    | some v =>
     simp only [hv2,Option.map_some,Option.some.injEq,Prod.mk.injEq] at hr
     rw [← hr.1] at hn
     cases hn
   | some v =>
    obtain ⟨b,p,q,h1,h2,h3,_⟩:=JB hv
    have hcr:∀ i,c = .tmp i→i∈rc.rds:=fun i hi=>by rw [e3,ho];exact List.mem_append_left _ (jn.2 (by simp [dm,Op.operands,hi]))
    rw [ho] at hto
    have hto':Operand.tmp t = c∨Operand.tmp t = x∨Operand.tmp t = y:=by simpa [dm,Op.operands] using hto
    rcases hto' with rfl | rfl | rfl
    ·obtain ⟨s,g1,g2,g3⟩:=rY h1
     exact ⟨s,g1,(hbool g3).1,fun z hz=>hids _ (oZ g2 z hz),(hbool g3).2⟩
    ·obtain ⟨s,g1,g2,g3⟩:=rY h2
     exact ⟨s,g1,(hbool g3).1,fun z hz=>(FO (oZ g2 z hz)).elim (hids _) (hcr _),(hbool g3).2⟩
    ·obtain ⟨s,g1,g2,g3⟩:=rY h3
     exact ⟨s,g1,(hbool g3).1,fun z hz=>(FO (oZ g2 z hz)).elim (hids _) (hcr _),(hbool g3).2⟩
  ·next op hnp =>
   split at hr
   ·next vs hvs =>
    cases hov:yL P C σ.hp nid rc.ch o vs with
    | none=>simp [hov] at hr
    | some r =>
     simp only [hov,Option.map_some,Option.some.injEq,Prod.mk.injEq] at hr
     obtain ⟨rfl,_⟩:=hr
     obtain ⟨v,hv,hov'⟩:=Cm hvs _ hto
     obtain ⟨s,g1,g2,rfl⟩:=rY hov'
     refine ⟨s,g1,B9 hn hv,fun z hz=>hids _ (oZ g2 z hz),fun q hq=>?_⟩
     obtain ⟨i,hi⟩:=List.getElem?_of_mem hv
     exact ct hi hq
   ·cases hr
 ·obtain ⟨x,hx,rfl⟩:=List.mem_map.1 ht
  have hg:=List.all_eq_true.1 hb x hx
  unfold fg at hg
  split at hg
  ·next s hs =>
   simp only [Bool.and_eq_true] at hg
   have:∃ b,s.v = bl b:=by
    have:=hg.1
    unfold V.isBool at this
    split at this
    ·next b e=>exact ⟨b,e⟩
    ·cases this
   obtain ⟨b,hbv⟩:=this
   exact ⟨s,hs,(hbool hbv).1,fun z hz=>hids _ (oZ hg.2 z hz),(hbool hbv).2⟩
  ·cases hg
theorem Rm {H H':ae} {nid:Nat} {o:Oper} {vs:List V} (h:iZ H H' (V.refss (lk o vs))):pt P C H nid o vs = pt P C H' nid o vs:=by
 unfold lk at h
 split at h
 ·next x ho =>
  unfold pt
  rw [ho]
  rcases vs with _ | ⟨a,_ | ⟨b,r⟩⟩ <;> rfl
 ·exact Nk h
theorem sV {nid:Nat} {o:Oper} {rc:bY} (h:recOf P C N all σ nid o = some rc) (hA:∀ t∈rc.rds,ap σ'.tm t = ap σ.tm t) (hB:iZ σ.hp σ'.hp (V.refss (lk o rc.vs))) :
  recOf P C N all σ' nid o = some rc∧holds σ'.tm rc.ch = holds σ.tm rc.ch:=by
 obtain ⟨hd,hch,hb,hr,hc,e1,e2,e3,e4,e5⟩:=fM h
 have hid:∀ x∈rc.ch,ap σ'.tm x.1 = ap σ.tm x.1:=fun x hx=>hA _ (by rw [e3];exact List.mem_append_right _ (List.mem_map.2 ⟨x,hx,rfl⟩))
 have hop:∀ (x:Operand),x∈dm o.op→∀ ch,bA σ' ch x = bA σ ch x:=by
  intro x hx ch
  cases x with
  | tmp t=>unfold bA;simp only [hA t (by rw [e3];exact List.mem_append_left _ (jn.2 hx))]
  | _=>rfl
 have g1:dB all σ'.tm o.guard = some rc.ch:=by
  have hch':=hch
  unfold dB at hch ⊢
  split at hch
  ·exact hch
  ·next j wt _ =>
   split at hch
   ·next oj hj =>
    split at hch
    ·next t ht =>
     cases hl:Nat.blt t 1000000 with
     | false=>simp [hl] at hch
     | true =>
      simp only [hl,cond_true] at hch ⊢
      split at hch
      ·next ch' b hg =>
       simp only [Option.some.injEq] at hch
       have:=hid (t,wt) (by rw [← hch];simp)
       rw [this,hg]
       simp only [hch]
      ·cases hch
    ·cases hch
   ·cases hch
 have g2:rc.ch.all (fun x=>fg σ'.tm rc.ch x.1) = true:=by
  refine List.all_eq_true.2 fun x hx=>?_
  have:=List.all_eq_true.1 hb x hx
  unfold fg at this ⊢
  rw [hid x hx]
  exact this
 have g3:j6 P C σ' nid rc.ch o = some (rc.vs,rc.res):=by
  rw [← hr]
  unfold j6 at hr ⊢
  split
  ·next c x y ho =>
   rw [ho] at hop
   have:nZ σ' rc.ch c x y = nZ σ rc.ch c x y:=by
    unfold nZ
    rw [hop c (by simp [dm,Op.operands]),hop x (by simp [dm,Op.operands]),hop y (by simp [dm,Op.operands])]
   have this2:rO σ' rc.ch c x y = rO σ rc.ch c x y:=by
    unfold rO
    rw [hop c (by simp [dm,Op.operands]),hop x (by simp [dm,Op.operands]),hop y (by simp [dm,Op.operands])]
   rw [this,this2]
  ·next op hnp =>
   have:∀ (xs:List Operand),(∀ x∈xs,x∈dm o.op)→kj σ' rc.ch xs = kj σ rc.ch xs:=by
    intro xs
    induction xs with
    | nil=>intro _;rfl
    | cons x l ih =>
     intro hx
     unfold kj at ih ⊢
     rw [List.mapM_cons,List.mapM_cons,hop x (hx x (by simp)),ih fun z hz=>hx z (by simp [hz])]
   rw [this _ fun x hx=>hx]
   split at hr
   ·next c x y ho=>exact (hnp c x y ho).elim
   ·split at hr
    ·next vs hvs =>
     cases hov:yL P C σ.hp nid rc.ch o vs with
     | none=>simp [hov] at hr
     | some r =>
      simp only [hov,Option.map_some,Option.some.injEq,Prod.mk.injEq] at hr
      obtain ⟨rfl,_⟩:=hr
      have:yL P C σ'.hp nid rc.ch o rc.vs = yL P C σ.hp nid rc.ch o rc.vs:=by unfold yL;rw [Rm hB]
      rw [this,hov]
    ·cases hr
 have hreach:aC σ'.hp (lk o rc.vs) = rc.reach:=by rw [e4];exact (sQ hB).symm
 have hrows:nG σ'.hp (lk o rc.vs) = rc.rws:=by rw [e5];exact (Gt hB).symm
 refine ⟨?_,jz _ fun x hx=>by rw [hid x hx]⟩
 unfold recOf
 rw [hd,cond_true,g1]
 simp only
 rw [g2,cond_true,g3]
 simp only
 rw [hc,cond_true,hreach,hrows]
 rw [← e1, ← e2, ← e3]
end
end Go.Ax
