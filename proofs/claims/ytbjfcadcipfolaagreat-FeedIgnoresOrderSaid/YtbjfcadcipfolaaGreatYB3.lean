import Derived.Test.YtbjfcadcipfolaaGreatYB2m
import Derived.Maps.RangeRun
import Derived.Test.YtbjfcadcipfolaaGreatYB2m
import Derived.Test.YtbjfcadcipfolaaGreatYB2m
set_option linter.all false
/- Walks over strings, bytes as strings, parts that are cleared. -/
namespace Go.Ax
open Go.RowKit
section
variable {P:Program} {ρ:Operand→Value} {E:au} {w w':World} {o:Oper} {r:aH} {H:ae} {nid:Nat}
def RA (ok:Nat→Prop):au:=⟨fun _=>none,fun _=>0,fun _=>0,fun _=>False,ok⟩
theorem PP (hH:az E w H) (hf:¬ E.live nid) (x:Obj) (he:r.eff = [(nid,some (.raw x))]) (hk:r.kill = []) {v':Value}
  (hv:∀ (E':au) (w':World),E'.live nid→E'.conc nid = some w.heap.size→E'.len nid = 1→aj E' w' v' r.val) :
  ce E w H nid r (E.next nid (some w.heap.size) 0 1 E.ok) (w.alloc x) v':=by
 have hb:Below w.heap.size w (w.alloc x):=(Below.refl _ _).alloc (Nat.le_refl _) _
 have hcc:∀ b,some w.heap.size = some b→w.heap.size≤b∧b < (w.alloc x).heap.size∧¬ E.ok b:=by
  intro b e;cases e
  exact ⟨Nat.le_refl _,by simp,fun h=>by have:=hH.oklt _ h;omega⟩
 have hS:dn E w [] (E.next nid (some w.heap.size) 0 1 E.ok) (w.alloc x):=cH hf _ 0 1 E.ok hb (fun b h=>(hcc b h).1) (fun _ h=>h) (fun _ h=>.inl h)
 have hN:=cY (cap:=0) (len:=1) hf hH hb hcc (fun _ h=>h) (fun _ h=>.inl h) (fun b h=>by have:=hH.oklt b h;simp;omega)
 have e1:(E.next nid (some w.heap.size) 0 1 E.ok).conc nid = some w.heap.size:=by simp [au.next]
 have e3:(E.next nid (some w.heap.size) 0 1 E.ok).len nid = 1:=by simp [au.next]
 refine ⟨by rw [hk];exact hS, ?_,hv _ _ (.inl rfl) e1 e3,bG⟩
 rw [he,hk]
 exact lg hN (.inl rfl) ⟨e3,_,e1,heap_alloc_new w _⟩
theorem LC (hH:az E w H) (hf:¬ E.live nid) {t:TypeId} {x:Operand} (ho:o.op = .range t x) {vx:V} (hx:aj E w (ρ x) vx) (h:H7 P nid t vx = some r) :
  ∃ E' w' v',(execOp ρ o).run P w = .ok (.value v') w'∧ce E w H nid r E' w' v':=by
 unfold H7 at h
 split at h
 ·next s hu =>
  cases h
  have ex:=hx.lit_inv
  refine ⟨_,w.alloc (.stringIter s 0), .pointer (some ⟨w.heap.size,0,none⟩), ?_,PP hH hf (.stringIter s 0) rfl rfl fun E' w' h1 h2 h3=>?_⟩
  ·have:=run_range_string (P:=P) w t s hu
   simp only [execOp,ho,ex,Sem.run_bind,this,Result.andThen_ok]
   rfl
  ·have:=aj.ptr (E:=E') (w:=w') nid 1 0 0 w.heap.size h1 h2 (by omega)
   simpa using this
 ·cases h
theorem Kn (hH:az E w H) (hf:¬ E.live nid) {t:TypeId} {x:Operand} (ho:o.op = .range t x) {vx:V} (hx:aj E w (ρ x) vx) (h:vX P H nid t vx = some r) :
  ∃ E' w' v',(execOp ρ o).run P w = .ok (.value v') w'∧ce E w H nid r E' w' v':=by
 unfold vX at h
 split at h
 ·next k e hu =>
  split at h
  ·next q tm kt vt ks vs hm =>
   cases h
   obtain ⟨bm,ex,hl,hc,hg⟩:=lG hH hx hm
   obtain ⟨_,_,_,b',es,clock,h3,h4,_,h6,_,h8,_⟩:=hH.at_ _ _ hg
   rw [hc] at h3;cases h3
   have hb:Below w.heap.size w (w.alloc (.mapIter (some bm) clock #[] clock)):=(Below.refl _ _).alloc (Nat.le_refl _) _
   have hcc:∀ b,some w.heap.size = some b→w.heap.size≤b∧b < (w.alloc (.mapIter (some bm) clock #[] clock)).heap.size∧¬ E.ok b:=by
    intro b e;cases e
    exact ⟨Nat.le_refl _,by simp,fun h=>by have:=hH.oklt _ h;omega⟩
   have hS:dn E w [] (E.next nid (some w.heap.size) 0 1 E.ok) (w.alloc (.mapIter (some bm) clock #[] clock)):=cH hf _ 0 1 E.ok hb (fun b h=>(hcc b h).1) (fun _ h=>h) (fun _ h=>.inl h)
   have hN:=cY (cap:=0) (len:=1) hf hH hb hcc (fun _ h=>h) (fun _ h=>.inl h) (fun b h=>by have:=hH.oklt b h;simp;omega)
   have e1:(E.next nid (some w.heap.size) 0 1 E.ok).conc nid = some w.heap.size:=by simp [au.next]
   have e3:(E.next nid (some w.heap.size) 0 1 E.ok).len nid = 1:=by simp [au.next]
   refine ⟨_,w.alloc (.mapIter (some bm) clock #[] clock), .pointer (some ⟨w.heap.size,0,none⟩), ?_,hS, ?_, ?_,bG⟩
   ·have:=run_range_map (P:=P) w t k e bm es clock hu h4
    simp only [execOp,ho,ex,Sem.run_bind,this,Result.andThen_ok]
    rfl
   ·refine lg hN (.inl rfl) ⟨e3,_,bm,clock, #[],clock,e1,heap_alloc_new w _,⟨rfl,by rw [h8,h6],rfl⟩, ?_⟩
    rw [← ex]
    exact fZ hH hS hx
   ·have:=aj.ptr (E:=E.next nid (some w.heap.size) 0 1 E.ok) (w:=w.alloc (.mapIter (some bm) clock #[] clock)) nid 1 0 0 w.heap.size (.inl rfl) e1 (by omega)
    simpa using this
  ·cases h
 ·cases h
theorem F4:∀ (ts:List Ty) (x:HP ts),ts.all QV = true→∀ d∈fK ts x,d = .lit (xB d)
 | [],_,_,d,hd=>by simp [fK] at hd
 | [t],x,h,d,hd=>by
  simp only [fK,List.mem_singleton] at hd
  subst hd
  match t,h with
  | .i k,_=>rfl
  | .b,_=>rfl
  | .s,_=>rfl
 | t :: u :: r,x,h,d,hd=>by
  rw [List.all_cons,Bool.and_eq_true] at h
  rw [fK,List.mem_cons] at hd
  rcases hd with rfl | hd
  ·match t,h.1 with
   | .i k,_=>rfl
   | .b,_=>rfl
   | .s,_=>rfl
  ·exact F4 (u :: r) x.2 h.2 d hd
theorem IS {kt:Ty} (h:kt.key = true) (x:kt.T):aj E w (fD kt x) (encV kt x):=by
 match kt,h,x with
 | .i k,_,x=>exact .c _ _ (.lit _)
 | .b,_,x=>exact .c _ _ (.lit _)
 | .s,_,x=>exact .c _ _ (.lit _)
 | .st k,h,x =>
  refine .agg ((Ty.enc (.st k) x).map xB) ((Ty.enc (.st k) x).map .c) (by simp) fun i v d hv hd=>?_
  rw [List.getElem?_map] at hv hd
  cases hx:(Ty.enc (.st k) x)[i]? with
  | none=>rw [hx] at hv;cases hv
  | some y =>
   rw [hx] at hv hd
   cases hv;cases hd
   refine .c _ _ ?_
   have e:=F4 (lf k) (Fq k x) h y (List.mem_of_getElem? hx)
   rw [e]
   exact .lit _
theorem IT (hH:az E w H) {x:Operand} (ho:o.op = .entry x) {vx:V} (hx:aj E w (ρ x) vx) (h:vT H vx = some r) (hp:∀ p∈r.pre,p):iX P ρ o E w r:=by
 unfold vT at h
 split at h
 ·next q k i j =>
  split at h
  ·next m s l hg =>
   cases hb0:Nat.beq (i*k+j) 0 with
   | false=>rw [hb0] at h;cases h
   | true =>
    rw [hb0,cond_true] at h
    have h0:=Nat.eq_of_beq_eq_true hb0
    split at h
    ·next q2 tm kt vt ks vs p l' hm =>
     cases hkt:kt.key with
     | false=>rw [hkt] at h;cases h
     | true =>
     rw [hkt,cond_true] at h
     cases h
     have hks:ak ks.length s = true:=hp _ (by simp)
     have hks:(ks.length:Int) = s:=by simpa [ak] using hks
     have hp0:0≤p:=hp _ (by simp)
     have hp1:p.toNat < ks.length:=hp _ (by simp)
     obtain ⟨_,hlen,b,bm,sn,seen,c,h1,h2,⟨h3,h5,h6⟩,h4⟩:=hH.at_ _ _ hg
     obtain ⟨bm',e1,hl,hc,hg2⟩:=lG hH h4 hm
     cases e1
     obtain ⟨_,_,k2,b',es,clock,g3,g4,g5,g6,g7,g8,g9⟩:=hH.at_ _ _ hg2
     rw [hc] at g3;cases g3
     have ex:ρ x = .pointer (some ⟨b,0,none⟩):=by
      generalize ρ x = v at hx
      cases hx with
      | ptr _ _ _ _ b' g1 g2 g3=>rw [h1] at g2;cases g2;rw [h0]
     have hlt:p.toNat < es.size:=by rw [g6];exact hp1
     have he:es[p.toNat]? = some es[p.toNat]:=Array.getElem?_eq_getElem hlt
     obtain ⟨a1,a2⟩:=g7 _ _ he
     have a3:=g9 _ _ he
     have hseen:∃ sd:Array Nat,seen = sd.push es[p.toNat].born:=by
      have e2:seen.toList.reverse.map (fun q:Nat=>(q:Int)) = p :: l':=h6
      cases hr:seen.toList.reverse with
      | nil=>rw [hr] at e2;cases e2
      | cons y ys =>
       rw [hr,List.map_cons] at e2
       have e3:(y:Int) = p:=(List.cons.inj e2).1
       refine ⟨ys.reverse.toArray, ?_⟩
       have e4:seen.toList = ys.reverse++[y]:=by rw [← List.reverse_reverse seen.toList,hr,List.reverse_cons]
       apply Array.ext'
       rw [e4,Array.toList_push,a3]
       congr 2
       omega
     obtain ⟨sd,rfl⟩:=hseen
     have hcl:c = clock:=by omega
     subst hcl
     have hr:=run_entry_at (P:=P) w b bm sn sd es c es[p.toNat] h2 g4 (by simp) g5.2.1
     refine ⟨rfl,rfl, .tuple #[es[p.toNat].key,es[p.toNat].val], ?_, .tup [es[p.toNat].key,es[p.toNat].val] _ rfl fun i v d hv hd=>?_⟩
     ·simp only [execOp,ho,ex,Sem.run_bind,hr,Result.andThen_ok]
      rfl
     ·match i,hv,hd with
      | 0,hv,hd=>cases hv;cases hd;rw [a1];exact IS hkt _
      | 1,hv,hd=>cases hv;cases hd;exact a2.rep
    ·cases h
  ·cases h
 ·cases h
theorem Nz (hH:az E w H) (hf:¬ E.live nid) {x:Operand} (ho:o.op = .next x true) {vx:V} (hx:aj E w (ρ x) vx) (h:Ah H vx = some r) :
  ∃ E' w' v',(execOp ρ o).run P w = .ok (.value v') w'∧ce E w H nid r E' w' v':=by
 unfold Ah at h
 split at h
 ·next q k i j =>
  split at h
  ·next s pos hg =>
   cases hb0:Nat.beq (i*k+j) 0 with
   | false=>simp [hb0] at h
   | true =>
    simp only [hb0,cond_true,Option.some.injEq] at h
    have h0:=Nat.eq_of_beq_eq_true hb0
    obtain ⟨hl,hlen,b,hb,hh⟩:=hH.at_ _ _ hg
    have ex:ρ x = .pointer (some ⟨b,0,none⟩):=by
     generalize ρ x = v at hx
     cases hx with
     | ptr _ _ _ _ b' g1 g2 g3=>rw [hb] at g2;cases g2;rw [h0]
    subst h
    have hlt:=fa hh
    refine ⟨_,dT w b (.stringIter s (bif Nat.blt pos s.size then pos+Ae s pos else pos)),DJ (Nat.blt pos s.size) [.int .i64 pos, .int .i32 (dF s pos)], ?_,
     sS hH hf hl hb _ (ob:=.raw (.stringIter s (bif Nat.blt pos s.size then pos+Ae s pos else pos))) rfl rfl (fun E' h1 h2 h3 _ _=>⟨h3.trans hlen,b,h1,p7 _ hlt⟩) fun _=>.c _ _ (.opt _ _)⟩
    by_cases hp:pos < s.size
    ·have hp':Nat.blt pos s.size = true:=by simpa using hp
     have:(Instr.next (.pointer (some ⟨b,0,none⟩)) true o.type).run P w = .ok (.tuple #[.bool true, .int .i64 pos, .int .i32 (dF s pos)]) (dT w b (.stringIter s (pos+Ae s pos))):=by
      simp [Instr.next,getObj,setObj,Sem.run,hh,hp,goInt,dF,Ae,dT]
     rw [hp']
     simp only [execOp,ho,ex,Sem.run_bind,this,Result.andThen_ok]
     rfl
    ·have hp':Nat.blt pos s.size = false:=by
      cases hc:Nat.blt pos s.size with
      | false=>rfl
      | true=>rw [Nat.blt_eq] at hc;exact (hp hc).elim
     have hw:dT w b (.stringIter s pos) = w:=by
      unfold dT
      congr 1
      apply Array.ext_getElem?
      intro i
      by_cases e:b = i
      ·subst e;rw [Array.getElem?_setIfInBounds,if_pos rfl,if_pos hlt,hh]
      ·rw [Array.getElem?_setIfInBounds,if_neg e]
     have:(Instr.next (.pointer (some ⟨b,0,none⟩)) true o.type).run P w = .ok (.tuple #[.bool false]) w:=by
      simp [Instr.next,getObj,Sem.run,hh,hp]
     rw [hp']
     simp only [execOp,ho,ex,Sem.run_bind,this,Result.andThen_ok,cond_false,hw]
     rfl
  ·cases h
 ·cases h
theorem AO:∀ (ns:List Int) (s:ByteArray),ns.foldl (fun r n=>r.push (UInt8.ofNat n.toNat)) s = ⟨s.data++(ns.map fun x=>UInt8.ofNat x.toNat).toArray⟩
 | [],s=>by simp
 | n :: ns,s=>by
  rw [List.foldl_cons,AO ns]
  congr 1
  simp [ByteArray.push]
theorem JZ (hH:az E w H) {s d e:TypeId} (hs:P.underlying s = some (.slice e)) (hd:P.underlying d = some .string) (he:P.underlying e = some (.int .u8)) {x:Operand} (ho:o.op = .convert s d x) {vx:V} (hx:aj E w (ρ x) vx)
  (h:Co H vx = some r):iX P ρ o E w r:=by
 unfold Co at h
 cases ha:bV H (.i .u8) vx with
 | none=>rw [ha] at h;cases h
 | some l =>
  rw [ha] at h
  simp only [Option.map_some,Option.some.injEq] at h
  subst h
  obtain ⟨news,hsrc⟩:=nU hH hx ha
  obtain ⟨a,c,ev,hc,hm,hcell⟩:=hsrc.form
  refine ⟨rfl,rfl, .string (aZ l), ?_, .lit _⟩
  have hlen:news.length = l.length:=by have:=hsrc.len;simpa [Ty.k] using this
  have hnews:news = l.map (Value.int .u8):=by
   refine List.ext_getElem? fun i=>?_
   by_cases hi:i < l.length
   ·have h1:i < news.length:=by omega
    have e1:els (.i .u8) l i = [.lit (.int .u8 l[i])]:=by
     rw [eU,List.getD_eq_getElem?_getD,List.getElem?_eq_getElem hi];rfl
    have hr:=hsrc.rep i 0 (.lit (.int .u8 l[i])) (news[i]) hi (by rw [e1];rfl) (by show news[i*1+0]? = _;rw [Nat.mul_one,Nat.add_zero];exact List.getElem?_eq_getElem h1)
    rw [List.getElem?_eq_getElem h1,List.getElem?_map,List.getElem?_eq_getElem hi]
    simp only [Option.map_some,Option.some.injEq]
    generalize news[i] = z at hr
    cases hr with
    | lit=>rfl
   ·rw [List.getElem?_eq_none (by omega),List.getElem?_eq_none (by simp;omega)]
  have key:(Conv.bytesToString (ρ x)).run P w = .ok (.string (aZ l)) w:=by
   rw [ev]
   cases l with
   | nil =>
    cases a with
    | none=>rfl
    | some ad =>
     have:=run_bytesToString (P:=P) w ad 0 c [] (by have:=run_loadCells (P:=P) w ad 0 (fun _=>undef) (fun j hj=>by omega);simpa using this)
     rw [List.length_nil,this];rfl
   | cons y l =>
    obtain ⟨ad,rfl,hcl⟩:=hcell (by simp)
    have hload:(loadCells ad (y :: l).length).run P w = .ok ((y :: l).map (Value.int .u8)).toArray w:=by
     have:=run_loadCells_list (P:=P) w ad news (fun j v hv=>hcl j v hv)
     rw [hlen] at this
     rw [this,hnews]
    rw [run_bytesToString w ad (y :: l).length c _ hload,AO]
    simp [aZ]
  rw [ev] at key
  simp [execOp,ho,ev,convert,run_underlying hs,run_underlying hd,run_underlying he,key]
theorem Kg {e:TypeId} {z:List D} (h:pM P e = some z):∃ (i:TypeInfo) (v:Value),P.info? e = some i∧i.zero = some v∧v.cells.size = z.length∧(∀ u∈v.cells.toList,u.oneCell' = true) ∧
  ∀ (ok:Nat→Prop) (w:World) (j:Nat) (d:D) (u:Value),z[j]? = some d→v.cells[j]? = some u→aK ok w u d:=by
 have h0:=h
 unfold pM at h0
 split at h0
 ·next zv hzv =>
  obtain ⟨i,v,h1,h2,h3,h4⟩:=kR hzv
  obtain ⟨i',v',g1,g2,g3,g4,g5⟩:=FO h
  rw [h1] at g1;cases g1
  rw [h2] at g2;cases g2
  refine ⟨i,v,h1,h2,g3,IX v h3 h4 (tW h0),fun ok w j d u hd hu=>?_⟩
  have:=(cJ (E:=RA ok) (w:=w) v h4).2 j u (.c d) (by rw [Array.getElem?_toList];exact hu) (g4 j d hd)
  cases this with
  | c _ _ h=>exact h
 ·cases h0
theorem Ni {t:Ty} {l:List t.T} {y:t.T} {off n i:Nat} (h:off+n≤l.length) (hi:i < l.length):els t (yE y l off n) i = if off≤i∧i < off+n then t.enc y else els t l i:=by
 unfold yE
 rw [DU,List.length_take,Nat.min_eq_left (by omega)]
 by_cases h1:i < off
 ·rw [if_pos h1,if_neg (by omega),eU,eU,List.getD_eq_getElem?_getD,List.getElem?_take_of_lt h1,List.getD_eq_getElem?_getD]
 ·rw [if_neg h1,DU,List.length_replicate]
  by_cases h2:i < off+n
  ·rw [if_pos (by omega),if_pos ⟨by omega,h2⟩,Ea (by omega)]
  ·have a1:¬ (i - off < n):=by omega
   have a2:¬ (off≤i∧i < off+n):=by omega
   rw [if_neg a1,if_neg a2,eU,eU,List.getD_eq_getElem?_getD,List.getElem?_drop,List.getD_eq_getElem?_getD]
   congr 3;omega
theorem MI {T:Type} {l:List T} {y:T} {off n:Nat} (h:off+n≤l.length):(yE y l off n).length = l.length:=by simp [yE];omega
theorem MN (hH:az E w H) (hf:¬ E.live nid) {c:Call} (ho:o.op = .call c) (hcal:c.callee = .builtin .clear) {x:Operand} (hargs:c.args = #[x]) {t:TypeId} (hat:c.argTypes[0]? = some t) {vx:V} (hx:aj E w (ρ x) vx)
  (h:qE P H t vx = some r) (hp:∀ p∈r.pre,p):∃ E' w' v',(execOp ρ o).run P w = .ok (.value v') w'∧ce E w H nid r E' w' v':=by
 have run:∀ w',(Builtin.clear_ c.argTypes o.type #[ρ x]).run P w = .ok (.tuple #[]) w'→(execOp ρ o).run P w = .ok (.value (.tuple #[])) w':=by
  intro w' hn
  simp [execOp,ho,resolve,hcal,hargs,invoke,builtin,hn]
 have main:∀ (e:TypeId) (z:List D) (q e':Nat) (ty:Ty) (l l':List ty.T) (y:ty.T) (off n:Nat) (a:Option Addr) (cp:Nat),P.underlying t = some (.slice e)→pM P e = some z→ae.get H q = some (.row e' ty l)→kn ty z = some y →
   (e' = e∧ty.k = sz P e∧z.length = ty.k∧0 < ty.k)→ρ x = .slice a n cp→n≤cp→E.live q→off+n≤l.length→(0 < n→∃ b,E.conc q = some b∧a = some ⟨b,off*ty.k,none⟩)→l'.length = l.length →
   (∀ i,i < l.length→els ty l' i = if off≤i∧i < off+n then ty.enc y else els ty l i)→r.val = .c .unk→r.eff = [(q,some (.row e' ty l'))]→r.kill = [] →
   ∃ E' w' v',(execOp ρ o).run P w = .ok (.value v') w'∧ce E w H nid r E' w' v':=by
  intro e z q e' ty l l' y off n a cp hu hz hg hy hcs hv hc hn hlen ha hll hel hrv hre hrk
  obtain ⟨rfl,hk1,hk2,hk0⟩:=hcs
  obtain ⟨hl,hob⟩:=hH.at_ _ _ hg
  obtain ⟨i,zv,z1,z2,z3,z4,z5⟩:=Kg hz
  have hyl:=mt ty _ _ hy
  rw [hv] at run
  by_cases hn0:n = 0
  ·subst hn0
   have hS:dn E w [] (E.next nid none 0 0 E.ok) w:=cH hf none 0 0 E.ok (.refl _ _) (by simp) (fun _ h=>h) (fun _ h=>.inl h)
   have hN:az (E.next nid none 0 0 E.ok) w H:=cY hf hH (.refl _ _) (by simp) (fun _ h=>h) (fun _ h=>.inl h) hH.oklt
   refine ⟨_,w, .tuple #[],run w ?_,by rw [hrk];exact hS, ?_,by rw [hrv];exact .c _ _ (.unk _),bG⟩
   ·cases a <;> simp [Builtin.clear_,hat,run_underlying hu]
   ·rw [hre,hrk]
    refine lg hN (hN.at_ _ _ hg).1 ?_
    exact Di.congr (hN.at_ _ _ hg).2 rfl hll.symm fun i hi=>by
     rw [hel i hi,if_neg (by omega)];exact .refl _
  ·obtain ⟨b,hb,rfl⟩:=ha (by omega)
   obtain ⟨hlen2,hrow⟩:=hob
   obtain ⟨b',C,c1,c2,c3,c4,c5,c6,c7,c8⟩:=hrow.resolve_left (fun h=>by rw [hb] at h;cases h.1)
   rw [hb] at c1;cases c1
   have hfit:off*ty.k+n*ty.k≤C.size:=by
    rw [c3, ← Nat.add_mul]
    exact Nat.mul_le_mul_right _ (by omega)
   have hzl:(Builtin.zeroCells zv.cells n).toList.length = n*ty.k:=by simp [Builtin.zeroCells,z3,hk2]
   have hzu:∀ q u,(Builtin.zeroCells zv.cells n).toList[q]? = some u→q < n*ty.k∧zv.cells[q % ty.k]? = some u:=by
    intro q u hq
    have hlt:=(List.getElem?_eq_some_iff.1 hq).1
    rw [hzl] at hlt
    refine ⟨hlt, ?_⟩
    have hm:q % ty.k < zv.cells.size:=by rw [z3,hk2];exact Nat.mod_lt _ hk0
    rw [Array.getElem?_toList] at hq
    unfold Builtin.zeroCells at hq
    rw [Array.getElem?_map,z3,hk2,Array.getElem?_range,if_pos hlt] at hq
    simp only [Option.map_some,Option.some.injEq] at hq
    rw [getElem!_pos zv.cells _ hm] at hq
    rw [Array.getElem?_eq_getElem hm,hq]
   have hone:∀ u∈(Builtin.zeroCells zv.cells n).toList,u.oneCell' = true:=by
    intro u hu'
    obtain ⟨q,hq⟩:=List.getElem?_of_mem hu'
    obtain ⟨_,h2⟩:=hzu q u hq
    exact z4 u (List.mem_of_getElem? (by rw [Array.getElem?_toList];exact h2))
   have hst:=run_storeCells_at P b (off*ty.k) e' (Builtin.zeroCells zv.cells n).toList 0 C w c2 (by rw [hzl];exact hfit) hone
   rw [Nat.add_zero] at hst
   rw [hzl] at hst
   generalize hC':(C.toList.take (off*ty.k)++(Builtin.zeroCells zv.cells n).toList++C.toList.drop (off*ty.k+n*ty.k)).toArray = C' at hst
   have hrow':w.setRow b C' = dT w b (.cells C' e' (0,0)):=by
    have hlt:=fa c2
    have h1:=setRow_heap w b C C' e' (0,0) c2
    unfold World.setRow dT
    unfold World.setRow at h1
    congr 1
    apply Array.ext_getElem?
    intro j
    by_cases e:b = j
    ·subst e
     rw [Array.getElem?_setIfInBounds,if_pos rfl,if_pos hlt]
     exact h1
    ·rw [Array.getElem?_setIfInBounds,if_neg e,Array.getElem?_modify,if_neg e]
   have hget:∀ q,C'[q]? = if off*ty.k≤q∧q < off*ty.k+n*ty.k then (Builtin.zeroCells zv.cells n).toList[q - off*ty.k]? else C[q]?:=by
    intro q
    rw [← hC',List.getElem?_toArray]
    have ht:(C.toList.take (off*ty.k)).length = off*ty.k:=by rw [List.length_take,Array.length_toList];omega
    by_cases h1:q < off*ty.k
    ·rw [if_neg (by omega),List.append_assoc,List.getElem?_append_left (by omega),List.getElem?_take_of_lt h1,Array.getElem?_toList]
    ·by_cases h2:q < off*ty.k+n*ty.k
     ·rw [if_pos ⟨by omega,h2⟩,List.append_assoc,List.getElem?_append_right (by omega),ht,List.getElem?_append_left (by omega)]
     ·rw [if_neg (by omega),List.getElem?_append_right (by rw [List.length_append];omega),List.length_append,ht,hzl,List.getElem?_drop,Array.getElem?_toList]
      congr 1;omega
   have hsz:C'.size = C.size:=by
    rw [← hC']
    simp [hzl]
    omega
   refine ⟨_,dT w b (.cells C' e' (0,0)), .tuple #[],run _ ?_,sS hH hf hl hb _ (ob:=.row e' ty l') hre hrk (fun E' h1 h2 h3 hr hd=>⟨(h3.trans hlen2).trans hll.symm, .inr ⟨b,C',h1,p7 _ (fa c2),by rw [hsz,h2];exact c3,by rw [h2,hll];exact c4,by rw [h2];exact c5,fun i hi=>dX ty l' i, ?_, ?_⟩⟩) fun _=>by rw [hrv];exact .c _ _ (.unk _)⟩
   ·obtain ⟨n',rfl⟩:∃ n',n = n'+1:=⟨n - 1,by omega⟩
    have hzv:=fQ (P:=P) (w:=w) z1 z2
    simp [Builtin.clear_,hat,run_underlying hu,hzv,hst,hrow']
   ·intro q' j u hq hj hu'
    rw [hll] at hq
    rw [hget] at hu'
    split at hu'
    ·exact hone u (List.mem_of_getElem? hu')
    ·exact c7 q' j u hq hj hu'
   ·intro q' j d u hq hd' hu'
    rw [hll] at hq
    rw [hget] at hu'
    rw [hel q' hq] at hd'
    by_cases hc:off≤q'∧q' < off+n
    ·rw [if_pos hc] at hd'
     have hj:j < ty.k:=by rw [← j4 ty y];exact (List.getElem?_eq_some_iff.1 hd').1
     have a1:off*ty.k≤q'*ty.k:=Nat.mul_le_mul_right _ hc.1
     have a2:(q'+1)*ty.k≤(off+n)*ty.k:=Nat.mul_le_mul_right _ hc.2
     rw [Nat.add_mul,Nat.one_mul,Nat.add_mul] at a2
     rw [if_pos ⟨by omega,by omega⟩] at hu'
     obtain ⟨_,h2⟩:=hzu _ _ hu'
     have:(q'*ty.k+j - off*ty.k) % ty.k = j:=by
      obtain ⟨p,rfl⟩:∃ p,q' = off+p:=⟨q' - off,by omega⟩
      rw [Nat.add_mul,show off*ty.k+p*ty.k+j - off*ty.k = j+p*ty.k by omega,Nat.add_mul_mod_self_right,Nat.mod_eq_of_lt hj]
     rw [this] at h2
     obtain ⟨d0,hd0,hdd⟩:=hyl.at hd'
     exact (z5 _ _ j d0 u hd0 h2).le hdd
    ·rw [if_neg hc] at hd'
     have hj:j < ty.k:=by rw [← c6 q' hq];exact (List.getElem?_eq_some_iff.1 hd').1
     have hno:¬ (off*ty.k≤q'*ty.k+j∧q'*ty.k+j < off*ty.k+n*ty.k):=by
      rintro ⟨g1,g2⟩
      by_cases h1:off≤q'
      ·have h2:off+n≤q':=by omega
       have:=Nat.mul_le_mul_right ty.k h2
       rw [Nat.add_mul] at this
       omega
      ·have:(q'+1)*ty.k≤off*ty.k:=Nat.mul_le_mul_right _ (by omega)
       rw [Nat.add_mul,Nat.one_mul] at this
       omega
     rw [if_neg hno] at hu'
     exact hd _ _ (c8 q' j d u hq hd' hu')
 unfold qE at h
 split at h
 ·next e hu =>
  split at h
  ·next z hz =>
   split at h
   ·next q k =>
    split at h
    ·next e' ty l hg =>
     split at h
     ·next y hy =>
      cases hs:(Nat.beq e' e&&Nat.beq ty.k k&&Nat.beq k (sz P e)&&Nat.beq z.length k&&Nat.blt 0 k&&fE P e) with
      | false=>simp [hs] at h
      | true =>
       simp only [hs,cond_true,Option.some.injEq] at h
       simp only [Bool.and_eq_true,Nat.beq_eq,Nat.blt_eq] at hs
       obtain ⟨⟨⟨⟨⟨rfl,rfl⟩,hk1⟩,hk2⟩,hk0⟩,hkn⟩:=hs
       subst h
       have hlen:E.len q = l.length:=(hH.at_ _ _ hg).2.1
       generalize hv:ρ x = v at hx
       cases hx with
       | row _ _ a n cp hn hl hc hm h0 =>
        have hnl:n = l.length:=hl.trans hlen
        subst hnl
        exact main e' z q e' ty l _ y 0 l.length a cp hu hz hg hy ⟨rfl,hk1,hk2,hk0⟩ hv hc hn (by omega) (fun h=>by
         rcases h0 with ⟨_,h0,_⟩ | ⟨b,hb,ha,_⟩
         ·omega
         ·exact ⟨b,hb,by rw [ha,Nat.zero_mul]⟩) (by simp) (fun i hi=>by rw [Ea hi,if_pos (by omega)]) rfl rfl rfl
     ·cases h
    ·cases h
   ·next q k off n =>
    split at h
    ·next e' ty l hg =>
     split at h
     ·next y hy =>
      cases hs:(Nat.beq e' e&&Nat.beq ty.k k&&Nat.beq k (sz P e)&&Nat.beq z.length k&&Nat.blt 0 k&&fE P e) with
      | false=>simp [hs] at h
      | true =>
       simp only [hs,cond_true,Option.some.injEq] at h
       simp only [Bool.and_eq_true,Nat.beq_eq,Nat.blt_eq] at hs
       obtain ⟨⟨⟨⟨⟨rfl,rfl⟩,hk1⟩,hk2⟩,hk0⟩,hkn⟩:=hs
       subst h
       have hp1:off+n≤l.length:=hp _ (by simp)
       generalize hv:ρ x = v at hx
       cases hx with
       | sub _ _ _ _ a cp hn hc hm hl ha =>
        exact main e' z q e' ty l _ y off n a cp hu hz hg hy ⟨rfl,hk1,hk2,hk0⟩ hv hc hn hp1 ha (MI hp1) (fun i hi=>Ni hp1 hi) rfl rfl rfl
     ·cases h
    ·cases h
   ·cases h
  ·cases h
 ·cases h
end
end Go.Ax
namespace Go.Ax
open Go.RowKit
def dR (ok:Nat→Prop):au:=⟨fun _=>none,fun _=>0,fun _=>0,fun _=>False,ok⟩
def zT (ok:Nat→Prop) (w w':World) (v:Value):jY→Prop
 | .data d=>aj (dR fun b=>ok b∨(w.heap.size≤b∧b < w'.heap.size)) w' v d
 | .new d=>aj (dR fun b=>w.heap.size≤b∧b < w'.heap.size) w' v d
 | .own fr e t l=>∃ xs,w'.ownsRow w.heap.size e t.k v l.length xs∧(∀ i j u,i < l.length→j < t.k→xs[i*t.k+j]? = some u→u.oneCell' = true) ∧
   ∀ i j d u,i < l.length→(els t l i)[j]? = some d→xs[i*t.k+j]? = some u→aK (fun b=>(fr = false∧ok b)∨(w.heap.size≤b∧b < w'.heap.size∧v.ownBlock≠some b)) w' u d
def i7 (P:Program) (f:FuncId) (args:Array Value) (w:World) (R:Value→World→Prop):Prop :=
 ((callFunc f args).run P w = .ok (.enter f args) w∧Calls P f args w fun e w'=>∃ v,e = .returned v∧R v w')∨∃ v w',(callFunc f args).run P w = .ok (.value v) w'∧R v w'
theorem i7.mono {P:Program} {f:FuncId} {args:Array Value} {w:World} {R R':Value→World→Prop} (h:i7 P f args w R) (hr:∀ v w',R v w'→R' v w'):i7 P f args w R':=by
 rcases h with ⟨h1,h2⟩ | ⟨v,w',h1,h2⟩
 ·refine .inl ⟨h1,h2.mono ?_⟩
  rintro e w' ⟨v,rfl,h⟩
  exact ⟨v,rfl,hr v w' h⟩
 ·exact .inr ⟨v,w',h1,hr v w' h2⟩
def Me (P:Program) (f:FuncId) (con:KY):Prop :=
 ∀ (ok:Nat→Prop) (w:World) (xs:List Value) (vs:List V) (p:Bool) (out:jY),aL (dR ok) w xs vs→(∀ b,ok b→b < w.heap.size)→con vs = some (p,out)→p = true →
  i7 P f xs.toArray w fun v w'=>Below w.heap.size w w'∧zT ok w w' v out
def bz (P:Program) (f:FuncId):CC→Prop
 | .pure c=>Me P f c
 | .mut m=>∀ (E:au) (w:World) (H:ae) (nid:Nat) (xs:List Value) (args:List V) (r:aH),az E w H→e9 E nid→aL E w xs args→m (bB (aR H args) H) nid args = some r→(∀ p∈r.pre,p) →
  i7 P f xs.toArray w fun v w'=>∃ E',ce E w H nid r E' w' v
section
variable {P:Program} {ρ:Operand→Value} {E:au} {w w':World} {o:Oper} {r:aH} {H:ae} {nid:Nat}
theorem fV (H:ae):∀ vs:List V,(V.views H vs).length = vs.length
 | []=>rfl
 | _ :: r=>by simp [V.views,fV H r]
theorem k9 (H:ae):∀ (vs:List V) (i:Nat),(V.views H vs)[i]? = (vs[i]?).map (V.view H)
 | [],i=>by simp [V.views]
 | v :: r,0=>by simp [V.views]
 | v :: r,i+1=>by simp [V.views,k9 H r i]
theorem sa {ok':Nat→Prop} (hok:∀ b,E.ok b→ok' b) (hown:∀ q b,E.live q→E.conc q = some b→ok' b) {v:Value} {t:Ty} {l:List t.T} {news:List Value} (h:Iv E w v t.k l.length (els t l) news):aK ok' w v (.sl t l):=by
 obtain ⟨a,c,rfl,hc,hm,hcell⟩:=h.form
 have hlt:∀ i j,i < l.length→j < t.k→i*t.k+j < news.length:=by
  intro i j hi hj
  rw [h.len]
  have:(i+1)*t.k≤l.length*t.k:=Nat.mul_le_mul_right _ hi
  rw [Nat.add_mul,Nat.one_mul] at this
  omega
 refine .sl t l a l.length c t.k (els t l) (fun i j=>news.getD (i*t.k+j) undef) rfl rfl (fun _ _=>rfl) hc hm (fun hn=>?_) (fun i j hi hj=>?_) h.els (fun i j d hi hd=>?_)
 ·obtain ⟨ad,rfl,hq⟩:=hcell hn
  refine ⟨ad,rfl, ?_,fun i j hi hj=>hq _ _ ?_⟩
  ·rcases h.blk ad _ c rfl hn with h | ⟨q,h1,h2⟩
   ·exact hok _ h
   ·exact hown q _ h1 h2
  ·rw [List.getD_eq_getElem?_getD,List.getElem?_eq_getElem (hlt i j hi hj)];rfl
 ·refine h.one _ ?_
  show news.getD (i*t.k+j) undef∈news
  rw [List.getD_eq_getElem?_getD,List.getElem?_eq_getElem (hlt i j hi hj)]
  exact List.getElem_mem _
 ·have hj:j < t.k:=by rw [← h.els i hi];exact (List.getElem?_eq_some_iff.1 hd).1
  refine (h.rep i j d (news.getD (i*t.k+j) undef) hi hd ?_).mono hok (fun _ _=>rfl)
  rw [List.getD_eq_getElem?_getD,List.getElem?_eq_getElem (hlt i j hi hj)]
  rfl
theorem lP (t:Ty) (l:List t.T):lu t t l = some l:=by rw [lu,dif_pos rfl]
theorem JN {ok':Nat→Prop} (hH:az E w H) (hok:∀ b,E.ok b→ok' b) (hown:∀ q b,E.live q→E.conc q = some b→ok' b) {v:Value} {o' k:Nat} (h:aj E w v (.row o' k)) :
  ∃ d,ss H o' k = .c d∧aK ok' w v d:=by
 unfold ss
 split
 ·next e t l hg =>
  cases hs:Nat.beq t.k k with
  | false=>exact ⟨.unk,rfl, .unk _⟩
  | true =>
   have ha:bV H t (.row o' k) = some l:=by simp [bV,hg,hs,lP]
   obtain ⟨news,hsrc⟩:=nU hH h ha
   exact ⟨_,rfl,sa hok hown hsrc⟩
 ·exact ⟨.unk,rfl, .unk _⟩
theorem HT {ok':Nat→Prop} (hH:az E w H) (hok:∀ b,E.ok b→ok' b) (hown:∀ q b,E.live q→E.conc q = some b→ok' b) {v:Value} {o' k off n:Nat} (h:aj E w v (.sub o' k off n)) :
  ∃ d,tf H o' k off n = .c d∧aK ok' w v d:=by
 unfold tf
 split
 ·next e t l hg =>
  cases hs:Nat.beq t.k k with
  | false=>exact ⟨.unk,rfl, .unk _⟩
  | true =>
   have ha:bV H t (.sub o' k off n) = some (af l off n):=by simp [bV,hg,hs,lP]
   obtain ⟨news,hsrc⟩:=nU hH h ha
   exact ⟨_,rfl,sa hok hown hsrc⟩
 ·exact ⟨.unk,rfl, .unk _⟩
theorem Nv {ok':Nat→Prop} (hH:az E w H) (hok:∀ b,E.ok b→ok' b) (hown:∀ q b,E.live q→E.conc q = some b→ok' b) {v:Value} {d:V} (h:aj E w v d):aK ok' w v (pz H d):=by
 unfold pz
 split
 ·cases h with | c _ _ h=>exact h.mono hok fun _ _=>rfl
 ·next o' k =>
  obtain ⟨d,hd,hr⟩:=JN hH hok hown h
  rw [hd]
  exact hr
 ·next o' k off n =>
  obtain ⟨d,hd,hr⟩:=HT hH hok hown h
  rw [hd]
  exact hr
 ·exact .unk _
theorem BI {ok':Nat→Prop} (hH:az E w H) (hok:∀ b,E.ok b→ok' b) {v:Value} {d:V} (h:aj E w v d) :
    ((∀ q b,E.live q→E.conc q = some b→ok' b)∨d.refs = [])→aj (dR ok') w v (d.view H):=by
  induction h with
  | c v d h =>
    intro _
    exact .c _ _ (h.mono hok fun _ _=>rfl)
  | agg vs ds hl h ih =>
    intro hd
    rw [V.view]
    refine .agg _ _ (by rw [fV,hl]) fun i v d hv hd'=>?_
    rw [k9] at hd'
    cases hx:ds[i]? with
    | none=>rw [hx] at hd'; cases hd'
    | some x =>
      rw [hx] at hd'; cases hd'
      exact ih i v x hv hx (hd.imp id fun hr=>refs_nil hr hx)
  | tup vs ds hl h ih =>
    intro hd
    rw [V.view]
    refine .tup _ _ (by rw [fV,hl]) fun i v d hv hd'=>?_
    rw [k9] at hd'
    cases hx:ds[i]? with
    | none=>rw [hx] at hd'; cases hd'
    | some x =>
      rw [hx] at hd'; cases hd'
      exact ih i v x hv hx (hd.imp id fun hr=>refs_nil hr hx)
  | ptr o' k i j b hn hb hi =>
    intro hd
    have hown:∀ q b,E.live q→E.conc q = some b→ok' b:=hd.resolve_right (by simp [V.refs])
    rw [V.view]
    unfold HG
    split
    · next e ty l hg =>
      cases hs:Nat.beq ty.k k with
      | false=>exact .unk _
      | true =>
        have hkk:ty.k = k:=Nat.eq_of_beq_eq_true hs
        subst hkk
        simp only [cond_true]
        obtain ⟨C,h2,h3,h4,h6,h7,h8⟩:=oV hH hg hb
        obtain ⟨_,hlen,_⟩:=hH.at_ _ _ hg
        have him:i < l.length:=by omega
        have hik:(i+1)*ty.k≤E.cap o'*ty.k:=Nat.mul_le_mul_right _ (by omega)
        rw [Nat.add_mul,Nat.one_mul] at hik
        have hq:∀ q,q < ty.k→C[i*ty.k+q]? = some (C.getD (i*ty.k+q) undef):=by
          intro q hq
          have:i*ty.k+q < C.size:=by omega
          simp [Array.getD,this]
        have:=aj.dptr (E:=dR ok') (w:=w) ty.k (els ty l i) j ⟨b,i*ty.k,none⟩ (fun q=>C.getD (i*ty.k+q) undef) (hown o' b hn hb)
          (fun q hq'=>by rw [cU,cell_of_row w b _ C e (0,0) h2];exact hq q hq') (h6 i him)
          (fun q d hd'=>by
            have hqk:q < ty.k:=by rw [← h6 i him];exact (List.getElem?_eq_some_iff.1 hd').1
            exact (h8 i q d _ him hd' (hq q hqk)).mono hok fun _ _=>rfl)
        rwa [cU] at this
    · next cs hg =>
      cases hs:Nat.beq cs.length k with
      | false=>exact .unk _
      | true =>
        have hkk:cs.length = k:=Nat.eq_of_beq_eq_true hs
        simp only [cond_true]
        obtain ⟨_,hlen,b',C,te,h1,h2,h3⟩:=hH.at_ _ _ hg
        rw [h1] at hb;cases hb
        have hi0:i = 0:=by omega
        subst hi0
        have hq:∀ q,q < k→C[q]? = some (C.getD q undef):=by
          intro q hq
          have:q < C.size:=by have:=h3.1;simp at this;omega
          simp [Array.getD,this]
        have:=aj.dptr (E:=dR ok') (w:=w) k (cs.map (pz H)) j ⟨b,0,none⟩ (fun q=>C.getD q undef) (hown o' b hn h1)
          (fun q hq'=>by rw [cU,Nat.zero_add,cell_of_row w b _ C te (0,0) h2];exact hq q hq') (by simpa using hkk)
          (fun q d hd'=>by
            rw [List.getElem?_map] at hd'
            cases hx:cs[q]? with
            | none=>rw [hx] at hd'; cases hd'
            | some x =>
              rw [hx] at hd'; cases hd'
              have hqk:q < k:=by rw [← hkk];exact (List.getElem?_eq_some_iff.1 hx).1
              exact Nv hH hok hown (h3.2 q _ x (by rw [Array.getElem?_toList];exact hq q hqk) hx))
        rw [cU,Nat.zero_add] at this
        simpa using this
    · exact .c _ _ (.unk _)
    · exact .c _ _ (.unk _)
    · exact .c _ _ (.unk _)
    · exact .c _ _ (.unk _)
  | row o' k a n c hn hl hc hm h0 =>
    intro hd
    have hown:∀ q b,E.live q→E.conc q = some b→ok' b:=hd.resolve_right (by simp [V.refs])
    rw [V.view]
    obtain ⟨d,hd',hr⟩:=JN hH hok hown (.row o' k a n c hn hl hc hm h0)
    rw [hd']
    exact .c _ _ hr
  | sub o' k off n a c hn hc hm hl ha =>
    intro hd
    have hown:∀ q b,E.live q→E.conc q = some b→ok' b:=hd.resolve_right (by simp [V.refs])
    rw [V.view]
    obtain ⟨d,hd',hr⟩:=HT hH hok hown (.sub o' k off n a c hn hc hm hl ha)
    rw [hd']
    exact .c _ _ hr
  | dptr k cs j ad u hok' hcell hl hu =>
    intro _
    rw [V.view]
    exact .dptr k cs j ad u (hok _ hok') hcell hl fun i d hd=>(hu i d hd).mono hok fun _ _=>rfl
  | fn f vs ds hl h ih =>
    intro hd
    rw [V.view]
    refine .fn _ _ _ (by rw [fV,hl]) fun i v d hv hd'=>?_
    rw [k9] at hd'
    cases hx:ds[i]? with
    | none=>rw [hx] at hd'; cases hd'
    | some x =>
      rw [hx] at hd'; cases hd'
      exact ih i v x hv hx (hd.imp id fun hr=>refs_nil hr hx)
where
  refs_nil {ds:List V} {i:Nat} {x:V} (h:V.refss ds = []) (hx:ds[i]? = some x):x.refs = []:=by
    cases hr:x.refs with
    | nil=>rfl
    | cons a l =>
      have:a∈V.refss ds:=ca hx (by rw [hr];simp)
      rw [h] at this
      simp at this
theorem Ib {vs:List V} (h:fO vs = false):V.refss vs = []:=by
 unfold fO at h
 split at h
 ·assumption
 ·cases h
mutual
theorem scalar_rep {ok:Nat→Prop} {w w':World} {E':au}:∀ (d:V) {v:Value},d.scalar = true→aj (dR ok) w v d→aj E' w' v d
 | .c d,v,hs,h=>by
  cases h with
  | c _ _ h =>
   cases h with
   | unk=>exact .unk _
   | nil=>exact .c _ _ .nil
   | lit=>exact .lit _
   | opt=>simp [V.scalar] at hs
   | any v h1=>exact .c _ _ (.any v h1)
   | sl=>simp [V.scalar] at hs
 | .agg ds,v,hs,h=>by
  cases h with
  | agg vs _ hl h=>exact .agg _ _ hl fun i v d hv hd=>scalars_rep ds (by simpa [V.scalar] using hs) i d v hd (h i v d hv hd)
 | .tup ds,v,hs,h=>by
  cases h with
  | tup vs _ hl h=>exact .tup _ _ hl fun i v d hv hd=>scalars_rep ds (by simpa [V.scalar] using hs) i d v hd (h i v d hv hd)
 | .ptr ..,v,hs,h=>by simp [V.scalar] at hs
 | .row ..,v,hs,h=>by simp [V.scalar] at hs
 | .sub ..,v,hs,h=>by simp [V.scalar] at hs
 | .dptr ..,v,hs,h=>by simp [V.scalar] at hs
 | .fn ..,v,hs,h=>by simp [V.scalar] at hs
theorem scalars_rep {ok:Nat→Prop} {w w':World} {E':au}:∀ (ds:List V),V.scalars ds = true→∀ (i:Nat) (d:V) (v:Value),ds[i]? = some d→aj (dR ok) w v d→aj E' w' v d
 | [],hs,i,d,v,hd,h=>by simp at hd
 | x :: r,hs,0,d,v,hd,h=>by
  simp only [V.scalars,Bool.and_eq_true] at hs
  simp at hd;subst hd
  exact scalar_rep x hs.1 h
 | x :: r,hs,i+1,d,v,hd,h=>by
  simp only [V.scalars,Bool.and_eq_true] at hs
  exact scalars_rep r hs.2 i d v (by simpa using hd) h
end
theorem FY {ok:Nat→Prop} {E':au} (hok:∀ b,ok b→E'.ok b) {v:Value} {d:V} (h:aj (dR ok) w v d):aj E' w v d :=
 h.mono (E:=dR ok) (kl:=[]) hok (fun _ _=>rfl) (fun o (ho:False)=>ho.elim) (fun o (ho:False)=>ho.elim) (NN d)
theorem DI (hH:az E w H) (hf:e9 E nid) {C:FuncId→Option CC} (hC:∀ f con,C f = some con→bz P f con) {f:FuncId} {args:List V} {xs:List Value} (hx:aL E w xs args)
  (h:ja C H nid f args = some r) (hp:∀ p∈r.pre,p) :
  i7 P f xs.toArray w fun v w'=>∃ E',ce E w H nid r E' w' v:=by
 unfold ja at h
 split at h
 ·cases h
 ·next m hm=>exact hC f (.mut m) hm E w H nid xs args r hH hf hx h hp
 ·next con hcon =>
  have hmeet:Me P f con:=hC f (.pure con) hcon
  have view:∀ ok':Nat→Prop,(∀ b,E.ok b→ok' b)→((∀ q b,E.live q→E.conc q = some b→ok' b)∨fO args = false)→aL (dR ok') w xs (V.views H args):=by
   intro ok' h1 h2
   refine ⟨by rw [fV];exact hx.1,fun i v d hv hd=>?_⟩
   rw [k9] at hd
   cases hy:args[i]? with
   | none=>rw [hy] at hd;cases hd
   | some y =>
    rw [hy] at hd;cases hd
    exact BI hH h1 (hx.2 i v y hv hy) (h2.imp id fun h=>BI.refs_nil (Ib h) hy)
  have dat:∀ (w':World),Below w.heap.size w w'→dn E w [] (E.next nid none 0 0 fun b=>E.ok b∨(w.heap.size≤b∧b < w'.heap.size)) w'∧az (E.next nid none 0 0 fun b=>E.ok b∨(w.heap.size≤b∧b < w'.heap.size)) w' H:=by
   intro w' hb
   refine ⟨cH hf.one none 0 0 _ hb (by simp) (fun _ h=>.inl h) (fun b h=>h.imp id (·.1)),cY hf.one hH hb (by simp) (fun _ h=>.inl h) (fun b h=>h.imp id (·.1)) fun b h=>?_⟩
   rcases h with h | h
   ·have:=hH.oklt b h;have:=hb.size;omega
   ·exact h.2
  have full:∀ q b,E.live q→E.conc q = some b→(fun b=>E.ok b∨∃ q,E.live q∧E.conc q = some b) b:=fun q b hq hb=>.inr ⟨q,hq,hb⟩
  have fulllt:∀ b,(fun b=>E.ok b∨∃ q,E.live q∧E.conc q = some b) b→b < w.heap.size:=by
   rintro b (h | ⟨q,h1,h2⟩)
   ·exact hH.oklt b h
   ·exact hH.lt q b h1 h2
  split at h
  ·cases h
  ·next p v hcv =>
   cases hs:((!fO args)||v.scalar) with
   | false=>simp [hs] at h
   | true =>
    simp only [hs,cond_true,Option.some.injEq] at h
    subst h
    have hpp:p = true:=hp _ (by simp)
    cases ha:fO args with
    | false =>
     refine (hmeet E.ok w xs _ p _ (view E.ok (fun _ h=>h) (.inr ha)) hH.oklt hcv hpp).mono ?_
     rintro u w' ⟨hb,hout⟩
     obtain ⟨hS,hN⟩:=dat w' hb
     exact ⟨_,hS,hN,FY (fun _ h=>h) hout,bG⟩
    | true =>
     have hsc:v.scalar = true:=by simpa [ha] using hs
     refine (hmeet _ w xs _ p _ (view _ (fun _ h=>.inl h) (.inl full)) fulllt hcv hpp).mono ?_
     rintro u w' ⟨hb,hout⟩
     obtain ⟨hS,hN⟩:=dat w' hb
     exact ⟨_,hS,hN,scalar_rep v hsc hout,bG⟩
  ·next p v hcv =>
   cases h
   have hpp:p = true:=hp _ (by simp)
   refine (hmeet _ w xs _ p _ (view _ (fun _ h=>.inl h) (.inl full)) fulllt hcv hpp).mono ?_
   rintro u w' ⟨hb,hout⟩
   obtain ⟨hS,hN⟩:=dat w' hb
   exact ⟨_,hS,hN,FY (E':=E.next nid none 0 0 fun b=>E.ok b∨(w.heap.size≤b∧b < w'.heap.size)) (fun _ h=>Or.inr h) hout,bG⟩
  ·next p fr e t l hcv =>
   cases hs:((!fO args)||fr) with
   | false=>simp [hs] at h
   | true =>
    simp only [hs,cond_true,Option.some.injEq] at h
    subst h
    have hpp:p = true:=hp _ (by simp)
    have fin:∀ (ok:Nat→Prop) (w':World) (u:Value),(fr = false→∀ b,ok b→E.ok b)→Below w.heap.size w w'→zT ok w w' u (.own fr e t l) →
      ∃ E',ce E w H nid { pre:=[p = true],val:=.row nid t.k,eff:=[(nid,some (.row e t l))] } E' w' u:=by
     rintro ok w' u hfr hb ⟨ys,hown,h7,h8⟩
     have hlt:=hown.lt
     have hown0:w'.ownsRow 0 e t.k u l.length ys:=⟨hown.1,hown.2.imp id fun ⟨g,cap,cur,a,_,c⟩=>⟨g,cap,cur,a,Nat.zero_le _,c⟩⟩
     let ok':Nat→Prop:=fun b=>E.ok b∨(w.heap.size≤b∧b < w'.heap.size∧u.ownBlock≠some b)
     have h1:∀ b,u.ownBlock = some b→w.heap.size≤b∧b < w'.heap.size∧¬ ok' b:=by
      intro b hb'
      obtain ⟨a1,a2⟩:=hlt b hb'
      refine ⟨a1,a2, ?_⟩
      rintro (h | ⟨_,_,h⟩)
      ·have:=hH.oklt b h;omega
      ·exact h hb'
     have h2:∀ b,ok' b→E.ok b∨w.heap.size≤b:=fun b h=>h.imp id (·.1)
     have h3:∀ b,ok' b→b < w'.heap.size:=by
      rintro b (h | h)
      ·have:=hH.oklt b h;have:=hb.size;omega
      ·exact h.2.1
     have hS:dn E w [] (E.next nid u.ownBlock (pJ u) l.length ok') w':=cH hf.one _ _ _ ok' hb (fun b h=>(h1 b h).1) (fun _ h=>.inl h) h2
     have hN:=cY (cap:=pJ u) (len:=l.length) hf.one hH hb h1 (fun _ h=>.inl h) h2 h3
     have hob:=wX (E':=E.next nid u.ownBlock (pJ u) l.length ok') (q:=nid) hown0 (by simp [au.next]) (by simp [au.next]) (by intro a m c e;simp [au.next,e,pJ]) h7
      (fun i j d x hi hd hx=>(h8 i j d x hi hd hx).mono (fun b hb'=>by
       rcases hb' with ⟨h,h'⟩ | h
       ·exact .inl (hfr h b h')
       ·exact .inr h) fun _ _=>rfl)
     exact ⟨_,hS,lg hN (.inl rfl) hob.1,hob.2 (.inl rfl),bG⟩
    cases ha:fO args with
    | false =>
     refine (hmeet E.ok w xs _ p _ (view E.ok (fun _ h=>h) (.inr ha)) hH.oklt hcv hpp).mono ?_
     rintro u w' ⟨hb,hout⟩
     obtain ⟨E',hP⟩:=fin _ w' u (fun _ _ h=>h) hb hout
     exact ⟨E',hP⟩
    | true =>
     have hfr:fr = true:=by simpa [ha] using hs
     refine (hmeet _ w xs _ p _ (view _ (fun _ h=>.inl h) (.inl full)) fulllt hcv hpp).mono ?_
     rintro u w' ⟨hb,hout⟩
     obtain ⟨E',hP⟩:=fin _ w' u (fun h=>by rw [hfr] at h;cases h) hb hout
     exact ⟨E',hP⟩
theorem aL.cons_inv {x:Value} {xs:List Value} {ds:List V} (h:aL E w (x :: xs) ds):∃ d ds',ds = d :: ds'∧aj E w x d∧aL E w xs ds':=by
 match ds with
 | []=>have:=h.1;simp at this
 | d :: ds'=>exact ⟨d,ds',rfl,h.2 0 _ _ rfl rfl,by have:=h.1;simpa using this,fun i v d a b=>h.2 (i+1) v d a b⟩
theorem aL.nil_inv {ds:List V} (h:aL E w [] ds):ds = []:=List.eq_nil_of_length_eq_zero h.1.symm
def au.fz (E:au) (o:Nat):au where
  conc q:=if q = o then none else E.conc q
  cap:=E.cap
  len q:=if q = o then 0 else E.len q
  live:=E.live
  ok b:=E.ok b∨E.conc o = some b
theorem jv (o:Nat) (t:Ty) (l:List t.T):∀ vs:List V,(V.fzs o t l vs).length = vs.length
 | []=>rfl
 | _ :: r=>by simp [V.fzs,jv o t l r]
theorem pb (o:Nat) (t:Ty) (l:List t.T):∀ (vs:List V) (i:Nat),(V.fzs o t l vs)[i]? = (vs[i]?).map (V.fz o t l)
 | [],i=>by simp [V.fzs]
 | v :: r,0=>by simp [V.fzs]
 | v :: r,i+1=>by simp [V.fzs,pb o t l r i]
theorem tH {q o:Nat} (h:q≠o):(E.fz o).conc q = E.conc q∧(E.fz o).cap q = E.cap q∧(E.fz o).len q = E.len q:=by simp [au.fz,h]
theorem np {q o b:Nat} (h:(E.fz o).conc q = some b):q≠o∧E.conc q = some b:=by
 by_cases e:q = o
 ·simp [au.fz,e] at h
 ·exact ⟨e,by rwa [(tH e).1] at h⟩
theorem D9 {o:Nat} (ho:E.live o):dn E w [o] (E.fz o) w :=
 ⟨rfl,rfl,rfl,Nat.le_refl _,fun _ h=>h,fun _ _ _=>rfl,fun _ h=>.inl h,fun b h=>h.elim .inl fun h=>.inr (.inr ⟨o,ho,h⟩),fun q _ hq=>tH (by simpa using hq),fun q b hq h=>.inl ⟨q,hq,(np h).2⟩⟩
theorem ED {o:Nat} (hH:az E w H) {e:TypeId} {t:Ty} {l:List t.T} (hg:H.get o = some (.row e t l)):az (E.fz o) w ((o,some (.row e t [])) :: d7 [o] H):=by
 have ho:=(hH.at_ o _ hg).1
 have hrv:∀ v d,aj E w v d→aj (E.fz o) w v (d.kill o):=fun v d h=>aj.step (D9 ho) hH.sep hH.oklt h
 have hrd:∀ v d,aK E.ok w v d→aK (E.fz o).ok w v d:=fun v d h=>h.mono (fun _ h=>.inl h) fun _ _=>rfl
 refine ⟨fun q ob hq=>?_,fun q q' b hq hq' h h'=>hH.inj q q' b hq hq' (np h).2 (np h').2,fun q b hq h=>?_,fun q b hq h=>hH.lt q b hq (np h).2,fun b h=>h.elim (hH.oklt b) (hH.lt o b ho)⟩
 ·rw [ae.get_cons] at hq
  split at hq
  ·next e1 =>
   subst e1;cases hq
   exact ⟨ho,by simp [au.fz], .inl ⟨by simp [au.fz],rfl⟩⟩
  ·next hne =>
   rw [eG] at hq
   obtain ⟨y,hy,hky⟩:=A2 hq
   obtain ⟨h1,h2⟩:=hH.at_ q y hy
   refine ⟨h1, ?_⟩
   obtain ⟨c1,c2,c3⟩:=tH (E:=E) (fun e=>hne e.symm:q≠o)
   cases y with
   | box cs =>
    cases hky
    obtain ⟨hl,b,C,te,g1,g2,g3⟩:=h2
    refine ⟨c3.trans hl,b,C,te,c1.trans g1,g2,by rw [iT];exact g3.1,fun i v d hv hd=>?_⟩
    rw [m8] at hd
    cases hx':cs[i]? with
    | none=>rw [hx'] at hd;cases hd
    | some y=>rw [hx'] at hd;cases hd;exact hrv _ _ (g3.2 i v y hv hx')
   | raw x =>
    cases hky
    obtain ⟨hl,b,g1,g2⟩:=h2
    exact ⟨c3.trans hl,b,c1.trans g1,g2⟩
   | map t kt vt ks vs =>
    cases hky
    exact pL.mp h2 c1 c3 (fun _ _=>rfl) hrd
   | iter m s0 l0 =>
    cases hky
    obtain ⟨hl,b,bm,s,seen,c,g1,g2,g3,g4⟩:=h2
    exact ⟨c3.trans hl,b,bm,s,seen,c,c1.trans g1,g2,g3,hrv _ _ g4⟩
   | row te tt ll =>
    cases hky
    obtain ⟨hl,hh⟩:=h2
    refine ⟨c3.trans hl, ?_⟩
    rcases hh with ⟨g1,g2⟩ | ⟨b,C,g1,g2,g3,g4,g5,g6,g7,g8⟩
    ·exact .inl ⟨c1.trans g1,g2⟩
    ·exact .inr ⟨b,C,c1.trans g1,g2,by rw [c2];exact g3,by rw [c2];exact g4,by rw [c2];exact g5,g6,g7,fun i j d u a b c=>hrd _ _ (g8 i j d u a b c)⟩
 ·obtain ⟨h1,h2⟩:=np h
  rintro (h3 | h3)
  ·exact hH.sep q b hq h2 h3
  ·exact h1 (hH.inj q o b hq ho h2 h3)
theorem yQ {o:Nat} (hH:az E w H) {e:TypeId} {t:Ty} {l:List t.T} (hg:H.get o = some (.row e t l)) {v:Value} {d:V} (h:aj E w v d):aj (E.fz o) w v (d.fz o t l):=by
 induction h with
 | c v d h=>exact .c v d (h.mono (fun _ h=>.inl h) fun _ _=>rfl)
 | agg vs ds hl h ih =>
  rw [V.fz]
  refine .agg _ _ (by rw [jv,hl]) fun i v d hv hd=>?_
  rw [pb] at hd
  cases hx:ds[i]? with
  | none=>rw [hx] at hd;cases hd
  | some x=>rw [hx] at hd;cases hd;exact ih i v x hv hx
 | tup vs ds hl h ih =>
  rw [V.fz]
  refine .tup _ _ (by rw [jv,hl]) fun i v d hv hd=>?_
  rw [pb] at hd
  cases hx:ds[i]? with
  | none=>rw [hx] at hd;cases hd
  | some x=>rw [hx] at hd;cases hd;exact ih i v x hv hx
 | ptr o' k i j b hn hb hi =>
  rw [V.fz]
  cases hq:Nat.beq o' o
  ·have hne:o'≠o:=fun e=>by subst e;simp at hq
   obtain ⟨c1,c2,c3⟩:=tH (E:=E) hne
   exact .ptr o' k i j b hn (c1.trans hb) (by rw [c3];exact hi)
  ·exact .c _ _ (.unk _)
 | row o' k' a n' c hn hl hc hm h0 =>
  rw [V.fz]
  cases hq:Nat.beq o' o
  ·have hne:o'≠o:=fun e=>by subst e;simp at hq
   obtain ⟨c1,c2,c3⟩:=tH (E:=E) hne
   exact .row o' k' a n' c hn (by rw [c3];exact hl) hc hm (by rw [c1,c2];exact h0)
  ·have:=Nat.eq_of_beq_eq_true hq
   subst this
   rw [cond_true]
   cases hk:Nat.beq t.k k' with
   | false=>exact .c _ _ (.unk _)
   | true =>
    rw [cond_true]
    have hr:=aj.row o' k' a n' c hn hl hc hm h0 (w:=w)
    obtain ⟨news,hsrc⟩:=nU hH hr (show bV H t (.row o' k') = some l by simp [bV,hg,hk,lP])
    have hsrc':Iv { E with live:=fun q=>q = o' } w (.slice a n' c) t.k l.length (els t l) news :=
     ⟨hsrc.form,fun ad n2 c2 he hn2=>by
      cases he
      rcases h0 with ⟨h0,_⟩ | ⟨b,hb,hab,_⟩
      ·cases h0
      ·cases hab
       exact .inr ⟨o',rfl,hb⟩,hsrc.len,hsrc.one,hsrc.els,hsrc.rep⟩
    exact .c _ _ (sa (E:={ E with live:=fun q=>q = o' }) (ok':=(E.fz o').ok) (fun _ h=>.inl h) (fun q b hq hb=>by
     have e1:q = o':=hq
     subst e1;exact .inr hb) hsrc')
 | sub o' k' off n' a c hn hc hm hl ha =>
  rw [V.fz]
  cases hq:Nat.beq o' o
  ·have hne:o'≠o:=fun e=>by subst e;simp at hq
   obtain ⟨c1,c2,c3⟩:=tH (E:=E) hne
   exact .sub o' k' off n' a c hn hc hm (by rw [c3];exact hl) (by rw [c1];exact ha)
  ·have:=Nat.eq_of_beq_eq_true hq
   subst this
   rw [cond_true]
   cases hk:Nat.beq t.k k' with
   | false=>exact .c _ _ (.unk _)
   | true =>
    rw [cond_true]
    have hr:=aj.sub o' k' off n' a c hn hc hm hl ha (w:=w)
    have hlen:E.len o' = l.length:=(hH.at_ _ _ hg).2.1
    obtain ⟨news,hsrc⟩:=nU hH hr (show bV H t (.sub o' k' off n') = some (af l off n') by simp [bV,hg,hk,lP])
    have hsl:(af l off n').length = n':=B9 (by omega)
    have hsrc':Iv { E with live:=fun q=>q = o' } w (.slice a n' c) t.k (af l off n').length (els t (af l off n')) news :=
     ⟨hsrc.form,fun ad n2 c2 he hn2=>by
      cases he
      obtain ⟨b,hb,hab⟩:=ha (by rw [hsl] at hn2;exact hn2)
      cases hab
      exact .inr ⟨o',rfl,hb⟩,hsrc.len,hsrc.one,hsrc.els,hsrc.rep⟩
    exact .c _ _ (sa (E:={ E with live:=fun q=>q = o' }) (ok':=(E.fz o').ok) (fun _ h=>.inl h) (fun q b hq hb=>by
     have e1:q = o':=hq
     subst e1;exact .inr hb) hsrc')
 | dptr k' cs j ad u hok hcell hl hu=>exact .dptr k' cs j ad u (.inl hok) hcell hl fun i d hd=>(hu i d hd).mono (fun _ h=>.inl h) fun _ _=>rfl
 | fn f vs ds hl h ih =>
  rw [V.fz]
  refine .fn _ _ _ (by rw [jv,hl]) fun i v d hv hd=>?_
  rw [pb] at hd
  cases hx:ds[i]? with
  | none=>rw [hx] at hd;cases hd
  | some x=>rw [hx] at hd;cases hd;exact ih i v x hv hx
theorem dn.trans1 {E1 E2:au} {o:Nat} {kl:List Nat} {w1:World} (h:dn E w [o] E1 w) (h':dn E1 w kl E2 w1) (hl:∀ q,E1.live q→E.live q) (hc:∀ q b,E1.conc q = some b→E.conc q = some b):dn E w (o :: kl) E2 w1 :=
 ⟨h'.os,h'.tape,h'.output,h'.size,fun q hq=>h'.live q (h.live q hq),fun b hb hn=>h'.blk b hb fun q hq hcq=>hn q (hl q hq) (hc q b hcq),fun b hb=>h'.ok b (h.ok b hb),fun b hb=>by
  rcases h'.okold b hb with g | g | ⟨q,g1,g2⟩
  ·exact h.okold b g
  ·exact .inr (.inl g)
  ·exact .inr (.inr ⟨q,hl q g1,hc q b g2⟩),fun q hq hn=>by
  have a1:=h.conc q hq (by simp at hn;simp [hn.1])
  have a2:=h'.conc q (h.live q hq) (by simp at hn;exact hn.2)
  exact ⟨a2.1.trans a1.1,a2.2.1.trans a1.2.1,a2.2.2.trans a1.2.2⟩,fun q b hq hb=>by
  rcases h'.concnew q b hq hb with ⟨q',g1,g2⟩ | g
  ·exact .inl ⟨q',hl q' g1,hc q' b g2⟩
  ·exact .inr g⟩
theorem vE (kl:List Nat) (o:Nat) (e:TypeId) (t:Ty) (l:List t.T):∀ H:ae,d7 kl ((o,some (.row e t l)) :: H) = (o,some (.row e t l)) :: d7 kl H:=by
 induction kl with
 | nil=>intro H;rfl
 | cons x r ih=>intro H;rw [d7,List.map_cons,d7];exact ih _
theorem xh {ws:List Value} {f:ae→List V→Option aH} {nid:Nat} {R:World→Value→Prop}
  (hf0:∀ (E:au) (H:ae) (vs:List V) (r:aH),az E w H→e9 E nid→aL E w ws vs→f H vs = some r→(∀ p∈r.pre,p)→∃ E' w' v',R w' v'∧ce E w H nid r E' w' v'):∀ (fl:List Nat) (E:au) (H:ae) (vs:List V) (r:aH),az E w H→e9 E nid→aL E w ws vs →
  jW f fl H vs = some r→(∀ p∈r.pre,p)→∃ E' w' v',R w' v'∧ce E w H nid r E' w' v'
 | [],E,H,vs,r,hH,hf,hv,h,hp=>hf0 E H vs r hH hf hv h hp
 | q :: fl,E,H,vs,r,hH,hf,hv,h,hp=>by
  rw [jW] at h
  split at h
  ·next e t l hg =>
   have hq:=(hH.at_ q _ hg).1
   cases hb:jW f fl ((q,some (.row e t [])) :: d7 [q] H) (V.fzs q t l vs) with
   | none=>rw [hb] at h;cases h
   | some r0 =>
    rw [hb] at h;cases h
    obtain ⟨E',w',v',h1,h2⟩:=xh hf0 fl (E.fz q) _ _ r0 (ED hH hg) hf ⟨by rw [jv];exact hv.1,fun i v d hi hd=>by
     rw [pb] at hd
     cases hx:vs[i]? with
     | none=>rw [hx] at hd;cases hd
     | some x=>rw [hx] at hd;cases hd;exact yQ hH hg (hv.2 i v x hi hx)⟩ hb hp
    refine ⟨E',w',v',h1,(D9 hq).trans1 h2.st (fun _ h=>h) (fun _ _ h=>(np h).2), ?_,h2.val,h2.live⟩
    have:=h2.heap
    rw [vE] at this
    rw [List.append_assoc]
    exact this
  ·cases h
theorem Mp {C:FuncId→Option CC} {f:FuncId} {args:List V} (h:rr C f nid H args = some r):ja C H nid f args = some r:=by
 unfold rr at h
 cases hb:V.noPs args with
 | false=>rw [hb] at h;cases h
 | true =>
  rw [hb,cond_true] at h
  split at h
  ·exact h
  ·cases h
theorem HU {ws:List Value} {f:ae→List V→Option aH} {nid:Nat} {g:FuncId}
  (hf0:∀ (E:au) (H:ae) (vs:List V) (r:aH),az E w H→e9 E nid→aL E w ws vs→f H vs = some r→(∀ p∈r.pre,p)→i7 P g ws.toArray w fun v w'=>∃ E',ce E w H nid r E' w' v):∀ (fl:List Nat) (E:au) (H:ae) (vs:List V) (r:aH),az E w H→e9 E nid→aL E w ws vs →
  jW f fl H vs = some r→(∀ p∈r.pre,p)→i7 P g ws.toArray w fun v w'=>∃ E',ce E w H nid r E' w' v
 | [],E,H,vs,r,hH,hf,hv,h,hp=>hf0 E H vs r hH hf hv h hp
 | q :: fl,E,H,vs,r,hH,hf,hv,h,hp=>by
  rw [jW] at h
  split at h
  ·next e t l hg =>
   have hq:=(hH.at_ q _ hg).1
   cases hb:jW f fl ((q,some (.row e t [])) :: d7 [q] H) (V.fzs q t l vs) with
   | none=>rw [hb] at h;cases h
   | some r0 =>
    rw [hb] at h;cases h
    refine (HU hf0 fl (E.fz q) _ _ r0 (ED hH hg) hf ⟨by rw [jv];exact hv.1,fun i v d hi hd=>by
     rw [pb] at hd
     cases hx:vs[i]? with
     | none=>rw [hx] at hd;cases hd
     | some x=>rw [hx] at hd;cases hd;exact yQ hH hg (hv.2 i v x hi hx)⟩ hb hp).mono ?_
    rintro v' w' ⟨E',h2⟩
    refine ⟨E',(D9 hq).trans1 h2.st (fun _ h=>h) (fun _ _ h=>(np h).2), ?_,h2.val,h2.live⟩
    have:=h2.heap
    rw [vE] at this
    rw [List.append_assoc]
    exact this
  ·cases h
theorem MT (hH:az E w H) (hf:e9 E nid) {C:FuncId→Option CC} (hC:∀ f con,C f = some con→bz P f con) {f:FuncId} {args:List V} {xs:List Value} (hx:aL E w xs args)
  (h:pU C H nid f args = some r) (hp:∀ p∈r.pre,p) :
  i7 P f xs.toArray w fun v w'=>∃ E',ce E w H nid r E' w' v:=by
 unfold pU at h
 split at h
 ·next r' hr=>cases h;exact DI hH hf hC hx hr hp
 ·exact HU (fun E H vs r hH hf hv h hp=>DI hH hf hC hv (Mp h) hp) _ E H args r hH hf hx h hp
theorem Km {o:Oper} {nid:Nat} {t:TypeId} {len:Nat} {parts:Array (Nat × Operand)} {ρ:Operand→Value} (ho:o.op = .buildSlice t len parts) (hH:az E w H) (hf:e9 E nid) {vs:List V} {r:aH} (hv:aL E w (parts.toList.map fun p=>ρ p.2) vs)
  (h:Nh P nid t len (parts.toList.map (·.1)) H vs = some r) (hp:∀ p∈r.pre,p):∃ E' w' v',(execOp ρ o).run P w = .ok (.value v') w'∧ce E w H nid r E' w' v' :=
 xh (R:=fun w' v'=>(execOp ρ o).run P w = .ok (.value v') w') (fun E H vs r hH hf hv h _=>C9 hH hf.one ho hv h) _ E H vs r hH hf hv h hp
theorem J0 {o:Oper} {nid:Nat} {ρ:Operand→Value} (hH:az E w H) (hf:e9 E nid) {t:TypeId} {a x:Operand} (ho:o.op = .store t a x) {va vx:V} {r:aH} (ha:aj E w (ρ a) va) (hx:aj E w (ρ x) vx) (h:vY P H t va vx = some r) (hp:∀ p∈r.pre,p) :
  ∃ E' w',(execOp ρ o).run P w = .ok .skip w'∧ce E w H nid r E' w' undef:=by
 unfold vY at h
 split at h
 ·split at h
  ·obtain ⟨E',w',v',⟨rfl,h1⟩,h2⟩:=xh (ws:=[ρ a,ρ x]) (R:=fun w' v'=>v' = undef∧(execOp ρ o).run P w = .ok .skip w') (fun E H vs r hH hf hv h hp=>by
    unfold vS at h
    split at h
    ·next a' x' =>
     obtain ⟨E',w',h1,h2⟩:=xL hH hf.one ho (hv.2 0 _ _ rfl rfl) (hv.2 1 _ _ rfl rfl) h hp
     exact ⟨E',w',undef,⟨rfl,h1⟩,h2⟩
    ·cases h) _ E H _ r hH hf ⟨rfl,fun i v d h1 h2=>by
     match i with
     | 0=>simp at h1 h2;subst h1 h2;exact ha
     | 1=>simp at h1 h2;subst h1 h2;exact hx
     | i+2=>simp at h1⟩ h hp
   exact ⟨E',w',h1,h2⟩
  ·exact xL hH hf.one ho ha hx h hp
 ·exact xL hH hf.one ho ha hx h hp
theorem Pw (hH:az E w H) (hf:e9 E nid) {C:FuncId→Option CC} (hC:∀ f con,C f = some con→bz P f con) {a:Act} {vs:List V} (hv:aL E w ((du o.op).map a.eval) vs)
  (h:qP P C H nid o vs = some r) (hp:∀ p∈r.pre,p) {K:Act→World→Prop} {Q:Exit→Act→World→Prop} (hK:∀ E' w' v',ce E w H nid r E' w' v'→K (a.put o.dst v') w'):o.wp P a w K Q:=by
 have fin:(∃ E' w' v',(execOp a.eval o).run P w = .ok (.value v') w'∧ce E w H nid r E' w' v')→o.wp P a w K Q:=by
  rintro ⟨E',w',v',h1,h2⟩
  unfold Oper.wp
  rw [h1]
  exact hK E' w' v' h2
 have finq:iX P a.eval o E w r→o.wp P a w K Q:=fun hq=>by
  obtain ⟨v',h1,h2⟩:=Lw hH hf.one hq
  exact fin ⟨_,w,v',h1,h2⟩
 unfold qP at h
 split at h
 ·next x d ho =>
  rw [ho] at hv
  cases h
  exact finq ⟨rfl,rfl,LR ho (hv.2 0 _ _ rfl rfl)⟩
 ·next x d ho =>
  rw [ho] at hv
  cases h
  exact finq ⟨rfl,rfl,H9 ho (hv.2 0 _ _ rfl rfl)⟩
 ·next t ho =>
  split at h
  ·next z hz=>exact fin (LA hH hf.one ho hz h)
  ·cases h
 ·next t x d ho =>
  rw [ho] at hv
  exact fin (Pi hH hf.one ho (hv.2 0 _ _ rfl rfl) h)
 ·next t parts vs ho =>
  rw [ho] at hv
  exact finq (J8 ho (by simpa [du,Op.operands,List.map_map,Function.comp_def] using hv) h)
 ·next t len parts vs ho =>
  rw [ho] at hv
  exact fin (Km ho hH hf (by simpa [du,Op.operands,List.map_map,Function.comp_def] using hv) h hp)
 ·next t x d ho =>
  rw [ho] at hv
  exact finq (CX hH ho (hv.2 0 _ _ rfl rfl) h hp)
 ·next t x y d e ho =>
  rw [ho] at hv
  obtain ⟨E',w',h1,h2⟩:=J0 hH hf ho (hv.2 0 _ _ rfl rfl) (hv.2 1 _ _ rfl rfl) h hp
  unfold Oper.wp
  rw [h1]
  exact hK E' w' undef h2
 ·next x d ho =>
  rw [ho] at hv
  exact finq (E7 ho (hv.2 0 _ _ rfl rfl) h)
 ·next op t x y ty d e ho =>
  rw [ho] at hv
  exact finq (NQ ho (hv.2 0 _ _ rfl rfl) (hv.2 1 _ _ rfl rfl) h hp)
 ·next op t x d ho =>
  rw [ho] at hv
  exact finq (OB ho (hv.2 0 _ _ rfl rfl) h)
 ·next s t x d ho =>
  rw [ho] at hv
  split at h
  ·next e hs hd =>
   split at h
   ·next he=>exact finq (JZ hH hs hd he ho (hv.2 0 _ _ rfl rfl) h)
   ·cases h
  ·exact finq (LG ho (hv.2 0 _ _ rfl rfl) h)
 ·next t x f d ho =>
  rw [ho] at hv
  exact finq (Cw ho (hv.2 0 _ _ rfl rfl) h)
 ·next t x f d ho =>
  rw [ho] at hv
  exact finq (Ki ho (hv.2 0 _ _ rfl rfl) h)
 ·next t x y d e ho =>
  rw [ho] at hv
  exact finq (Df hH ho (hv.2 0 _ _ rfl rfl) (hv.2 1 _ _ rfl rfl) h hp)
 ·next t x y d e ho =>
  rw [ho] at hv
  exact finq (J5 ho (hv.2 0 _ _ rfl rfl) (hv.2 1 _ _ rfl rfl) h hp)
 ·next t x d ho =>
  rw [ho] at hv
  exact finq (pG hH (dlo:=none) (dhi:=none) ho (hv.2 0 _ _ rfl rfl) (by simp) (by simp) (by simp) (by simp) h hp)
 ·next t x l d e ho =>
  rw [ho] at hv
  exact finq (pG hH (dlo:=some e) (dhi:=none) ho (hv.2 0 _ _ rfl rfl) (fun y hy=>by cases hy;exact ⟨_,rfl,hv.2 1 _ _ rfl rfl⟩) (by simp) (by simp) (by simp) h hp)
 ·next t x l d e ho =>
  rw [ho] at hv
  exact finq (pG hH (dlo:=none) (dhi:=some e) ho (hv.2 0 _ _ rfl rfl) (by simp) (by simp) (fun y hy=>by cases hy;exact ⟨_,rfl,hv.2 1 _ _ rfl rfl⟩) (by simp) h hp)
 ·next t x l hh d e g ho =>
  rw [ho] at hv
  exact finq (pG hH (dlo:=some e) (dhi:=some g) ho (hv.2 0 _ _ rfl rfl) (fun y hy=>by cases hy;exact ⟨_,rfl,hv.2 1 _ _ rfl rfl⟩) (by simp) (fun y hy=>by cases hy;exact ⟨_,rfl,hv.2 2 _ _ rfl rfl⟩) (by simp) h hp)
 ·next t l c d e ho =>
  rw [ho] at hv
  exact fin (Fc hH hf.one ho (hv.2 0 _ _ rfl rfl) (hv.2 1 _ _ rfl rfl) h hp)
 ·next vs f first caps ho =>
  rw [ho] at hv
  cases hf:(first.isEmpty&&Nat.blt f 1000000000) with
  | false=>rw [hf] at h;cases h
  | true =>
   rw [hf] at h
   simp only [cond_true,Option.some.injEq] at h
   subst h
   rw [Bool.and_eq_true] at hf
   have h0:first = #[]:=by simpa using hf.1
   subst h0
   exact finq ⟨rfl,rfl,E8 ho rfl hf.2 (by simpa [du,Op.operands] using hv)⟩
 ·next t ho=>exact fin (Jv hH hf.one ho h)
 ·next t x y ok m k ho =>
  rw [ho] at hv
  exact finq (Je hH ho (hv.2 0 _ _ rfl rfl) (hv.2 1 _ _ rfl rfl) h)
 ·next t x y z m k v ho =>
  rw [ho] at hv
  obtain ⟨E',w',v',⟨rfl,h1⟩,h2⟩:=xh (ws:=[a.eval x,a.eval y,a.eval z]) (R:=fun w' v'=>v' = undef∧(execOp a.eval o).run P w = .ok .skip w') (fun E H vs r hH hf hv h hp=>by
   obtain ⟨E',w',h1,h2⟩:=Mg hH hf.one ho hv h
   exact ⟨E',w',undef,⟨rfl,h1⟩,h2⟩) _ E H _ r hH hf (by simpa [du,Op.operands] using hv) h hp
  unfold Oper.wp
  rw [h1]
  exact hK E' w' undef h2
 ·next t x d ho =>
  rw [ho] at hv
  split at h
  ·next e hu =>
   cases hc:(V.isCell d&&Nat.blt t 1000000000) with
   | false=>rw [hc] at h;cases h
   | true =>
    rw [hc] at h
    simp only [cond_true,Option.some.injEq] at h
    subst h
    rw [Bool.and_eq_true] at hc
    have hlt:=hc.2
    exact finq ⟨rfl,rfl,ye hlt ho hu (hv.2 0 _ _ rfl rfl)⟩
  ·cases h
 ·next x ix d ho =>
  rw [ho] at hv
  exact finq (Gt ho (hv.2 0 _ _ rfl rfl) h hp)
 ·next t x d ho =>
  rw [ho] at hv
  split at h
  ·next r' hr'=>cases h;exact fin (LC hH hf.one ho (hv.2 0 _ _ rfl rfl) hr')
  ·exact fin (Kn hH hf.one ho (hv.2 0 _ _ rfl rfl) h)
 ·next x d ho =>
  rw [ho] at hv
  exact fin (Nz hH hf.one ho (hv.2 0 _ _ rfl rfl) h)
 ·next x d ho =>
  rw [ho] at hv
  exact finq (IT hH ho (hv.2 0 _ _ rfl rfl) h hp)
 ·next args argTypes d ho =>
  rw [ho] at hv
  obtain ⟨x,hx⟩:∃ x,args.toList = [x]:=by
   have h2:args.toList.length = 1:=by have:=hv.1;simpa [du] using this
   match hl:args.toList,h2 with
   | [p],_=>exact ⟨p,rfl⟩
  have hargs:args = #[x]:=by rw [← Array.toArray_toList (xs:=args),hx]
  subst hargs
  split at h
  ·next t ht =>
   cases hu:P.underlying t with
   | none=>simp [wv,hu] at h
   | some dd=>exact finq (NH hH ho rfl rfl ht hu (hv.2 0 _ _ rfl rfl) h)
  ·cases h
 ·next args argTypes d ho =>
  rw [ho] at hv
  obtain ⟨x,hx⟩:∃ x,args.toList = [x]:=by
   have h2:args.toList.length = 1:=by have:=hv.1;simpa [du] using this
   match hl:args.toList,h2 with
   | [p],_=>exact ⟨p,rfl⟩
  have hargs:args = #[x]:=by rw [← Array.toArray_toList (xs:=args),hx]
  subst hargs
  split at h
  ·next t ht=>exact fin (MN hH hf.one ho rfl rfl ht (hv.2 0 _ _ rfl rfl) h hp)
  ·cases h
 ·next vs _ _ args argTypes ho =>
  rw [ho] at hv
  cases hm:Ms vs with
  | none=>simp [hm] at h
  | some m =>
   simp only [hm,Option.map_some,Option.some.injEq] at h
   subst h
   exact finq ⟨rfl,rfl,N3 ho rfl (by simpa [du] using hv) hm⟩
 ·next vs _ _ args argTypes ho =>
  rw [ho] at hv
  cases hm:LQ vs with
  | none=>simp [hm] at h
  | some m =>
   simp only [hm,Option.map_some,Option.some.injEq] at h
   subst h
   exact finq ⟨rfl,rfl,M5 ho rfl (by simpa [du] using hv) hm⟩
 ·next args argTypes s x ho =>
  rw [ho] at hv
  obtain ⟨s',x',hsx⟩:∃ s' x',args.toList = [s',x']:=by
   have h2:args.toList.length = 2:=by have:=hv.1;simpa [du] using this
   match hl:args.toList,h2 with
   | [p,q],_=>exact ⟨p,q,rfl⟩
  have hargs:args = #[s',x']:=by rw [← Array.toArray_toList (xs:=args),hsx]
  subst hargs
  split at h
  ·next t t' ht =>
   cases hb:Nat.beq t t' with
   | false=>simp [hb] at h
   | true =>
    have htt:t = t':=Nat.eq_of_beq_eq_true hb
    subst htt
    simp only [hb,cond_true] at h
    have hat:argTypes = #[t,t]:=by rw [← Array.toArray_toList (xs:=argTypes),ht]
    exact fin (J6 hH hf.one ho rfl rfl hat (hv.2 0 _ _ rfl rfl) (hv.2 1 _ _ rfl rfl) h hp)
  ·cases h
 ·next f args argTypes g caps ds ho =>
  rw [ho] at hv
  obtain ⟨_,_,e,hf,ha⟩:=aL.cons_inv hv
  cases e
  generalize hfv:a.eval f = fv at hf
  cases hglt:Nat.blt g 1000000000 with
  | false=>rw [hglt] at h;cases h
  | true =>
  rw [hglt] at h
  simp only [cond_true] at h
  cases hf with
  | fn _ cs _ hcl hch =>
   rw [oX hglt] at hfv
   have hall:aL E w (args.toList.map a.eval++cs) (ds++caps):=by
    refine ⟨by rw [List.length_append,List.length_append,ha.1,hcl],fun i v d hv' hd'=>?_⟩
    rw [List.getElem?_append] at hv' hd'
    rw [← ha.1] at hd'
    split at hv'
    ·next hlt=>rw [if_pos hlt] at hd'; exact ha.2 i v d hv' hd'
    ·next hge=>rw [if_neg hge] at hd'; exact hch _ v d hv' hd'
   have hcalls:=MT hH hf hC hall h hp
   have hargs:args.map a.eval++cs.toArray = (args.toList.map a.eval++cs).toArray:=by
    rw [← Array.toArray_toList (xs:=args.map a.eval++cs.toArray)]
    simp
   have hrun:(execOp a.eval o).run P w = (callFunc g (args.toList.map a.eval++cs).toArray).run P w:=by
    simp only [execOp,ho,resolve,hfv,Deferred.ofValue,invoke,Sem.run_bind,Sem.run_pure,Result.andThen_ok,Array.empty_append,hargs]
   unfold Oper.wp
   rw [hrun]
   rcases hcalls with ⟨h1,h2⟩ | ⟨v,w',h1,E',hP⟩
   ·rw [h1]
    refine Calls.mono h2 ?_
    rintro e w' ⟨v,rfl,E',hP⟩
    exact hK E' w' v hP
   ·rw [h1]
    exact hK E' w' v hP
 ·cases h
end
end Go.Ax
namespace Go.Ax
open Go.RowKit
def kS (tm:List (Nat × aF)) (E:au) (w:World) (v:Value) (s:aF):Prop :=
 (holds tm s.ch = true→aj E w v s.v)∧(s.ch.all (fun x=>dq tm x.1) = true→holds tm s.ch = false→v = undef)
structure fh where
  W:World
  ok:Nat→Prop
  mb:Nat→Prop
  gh:Nat→Value:=fun _=>undef
def ea (B:fh) (a:Act) (t:Nat):Value:=if t < 1000000 then a.tmps.getD t undef else B.gh t
theorem tJ {B:fh} {a:Act} {t:Nat} (h:t < 1000000):ea B a t = a.tmps.getD t undef:=if_pos h
structure vu (M:Nat→Prop) (n:Nat) (w w':World):Prop where
  os:w'.os = w.os
  tape:w'.tape = w.tape
  output:w'.output = w.output
  size:w.heap.size≤w'.heap.size
  block:∀ k,k < n→¬ M k→w'.heap[k]? = w.heap[k]?
theorem vu.refl (M:Nat→Prop) (n:Nat) (w:World):vu M n w w:=⟨rfl,rfl,rfl,Nat.le_refl _,fun _ _ _=>rfl⟩
theorem vu.below {n:Nat} {w w':World} (h:vu (fun _=>False) n w w'):Below n w w':=⟨h.os,h.tape,h.output,h.size,fun k hk=>h.block k hk (fun h=>h)⟩
structure bn (N:Nat) (B:fh) (σ:St) (E:au) (a:Act) (w:World):Prop where
  size:a.tmps.size = N
  small:N≤1000000
  defers:a.defers = []
  live:∀ q,σ.nx≤q→¬ E.live q
  heap:az E w σ.hp
  slots:∀ t s,aw σ.tm t = some s→kS σ.tm E w (ea B a t) s
  base:vu B.mb B.W.heap.size B.W w
  own:∀ o b,E.live o→E.conc o = some b→B.W.heap.size≤b∨B.mb b
  okold:∀ b,E.ok b→B.ok b∨B.W.heap.size≤b∨B.mb b
section
variable {P:Program} {N:Nat} {B:fh} {σ:St} {E:au} {a:Act} {w:World}
theorem C8 {a b:Nat} (h:a≠b):Nat.beq a b = false:=by
 cases hb:Nat.beq a b
 ·rfl
 ·exact (h (Nat.eq_of_beq_eq_true hb)).elim
theorem br (t':Nat) (s:aF) (r:List (Nat × aF)) (t:Nat):aw ((t',s) :: r) t = if t' = t then some s else aw r t:=by
 rw [aw]
 by_cases h:t' = t
 ·subst h;simp
 ·rw [C8 h];simp [h]
theorem kC:∀ (tm:List (Nat × aF)) (t:Nat) (s:aF) (t':Nat),aw (gm tm t s) t' = if t = t' then some s else aw tm t'
 | [],t,s,t'=>by rw [gm,br]
 | (q,x) :: r,t,s,t'=>by
  rw [gm]
  by_cases h:q = t
  ·subst h
   rw [show Nat.beq q q = true by simp,cond_true,br,br]
   split <;> rfl
  ·rw [C8 h,cond_false]
   cases Nat.blt t q
   ·rw [cond_false,br,kC r,br]
    by_cases h1:q = t'
    ·rw [if_pos h1,if_pos h1,if_neg (by omega)]
    ·rw [if_neg h1,if_neg h1]
   ·rw [cond_true,br]
theorem wz (f:aF→aF):∀ (tm:List (Nat × aF)) (t:Nat),aw (tm.map fun x=>(x.1,f x.2)) t = (aw tm t).map f
 | [],t=>rfl
 | (q,x) :: r,t=>by
  rw [List.map_cons,br,br,wz f r]
  split <;> rfl
theorem lO:∀ (kl:List Nat) (tm:List (Nat × aF)) (t:Nat),aw (rx kl tm) t = (aw tm t).map fun s=>{ ch:=s.ch,v:=s.v.killAll kl }
 | [],tm,t=>by simp [rx,V.killAll]
 | o :: r,tm,t=>by
  rw [rx,lO r,wz (fun s=>{ ch:=s.ch,v:=s.v.kill o })]
  cases aw tm t <;> simp [V.killAll]
def bg:Option aF→Option Bool
 | some { v:=.c (.lit (.bool b)), .. }=>some b
 | _=>none
theorem mq {s:Option aF} {b:Bool} (h:bg s = some b):∃ ch,s = some { ch,v:=.c (.lit (.bool b)) }:=by
 unfold bg at h
 split at h
 ·next ch b'=>cases h;exact ⟨ch,rfl⟩
 ·cases h
theorem eE (tm:List (Nat × aF)) (t:Nat) (w:Bool) (r:aN):holds tm ((t,w) :: r) = ((match bg (aw tm t) with | some b=>(b == w) | none=>false)&&holds tm r):=by
 rw [holds]
 congr 1
 cases hb:bg (aw tm t) with
 | some b =>
  obtain ⟨ch,e⟩:=mq hb
  rw [e]
  cases w <;> cases b <;> rfl
 | none =>
  split
  ·next h=>rw [h] at hb;simp [bg] at hb
  ·rfl
theorem iD {tm tm':List (Nat × aF)}:∀ (ch:aN),(∀ x∈ch,bg (aw tm' x.1) = bg (aw tm x.1))→holds tm' ch = holds tm ch
 | [],_=>rfl
 | (t,w) :: r,h=>by
  rw [eE,eE,h (t,w) (by simp),iD r fun x hx=>h x (by simp [hx])]
theorem zx:∀ (kl:List Nat) (b:Bool),(V.c (.lit (.bool b))).killAll kl = .c (.lit (.bool b))
 | [],_=>rfl
 | o :: r,b=>by rw [V.killAll,V.kill,zx r]
theorem GH (o:Nat) (v:V) (b:Bool) (h:v.kill o = .c (.lit (.bool b))):v = .c (.lit (.bool b)):=by
 cases v with
 | c d=>simpa [V.kill] using h
 | agg vs=>simp [V.kill] at h
 | tup vs=>simp [V.kill] at h
 | ptr o' k i j=>rw [V.kill] at h;cases hb:Nat.beq o' o <;> simp [hb] at h
 | row o' k=>rw [V.kill] at h;cases hb:Nat.beq o' o <;> simp [hb] at h
 | sub o' k i j=>rw [V.kill] at h;cases hb:Nat.beq o' o <;> simp [hb] at h
 | dptr k cs j=>simp [V.kill] at h
 | fn f vs=>simp [V.kill] at h
theorem sK:∀ (kl:List Nat) (v:V) (b:Bool),v.killAll kl = .c (.lit (.bool b))→v = .c (.lit (.bool b))
 | [],v,b,h=>h
 | o :: r,v,b,h=>GH o v b (sK r _ b h)
theorem AV (kl:List Nat) (s:Option aF):bg (s.map fun s=>{ ch:=s.ch,v:=s.v.killAll kl }) = bg s:=by
 cases s with
 | none=>rfl
 | some s =>
  obtain ⟨ch,v⟩:=s
  by_cases h:∃ b,v = .c (.lit (.bool b))
  ·obtain ⟨b,rfl⟩:=h
   simp [bg,zx]
  ·have h2:bg (some { ch,v }) = none:=by
    cases hb:bg (some { ch,v }) with
    | none=>rfl
    | some b=>obtain ⟨ch',e⟩:=mq hb;cases e;exact (h ⟨b,rfl⟩).elim
   rw [h2]
   cases hb:bg (Option.map (fun s:aF=>{ ch:=s.ch,v:=s.v.killAll kl }) (some { ch,v })) with
   | none=>rfl
   | some b =>
    obtain ⟨ch',e⟩:=mq hb
    simp only [Option.map_some,Option.some.injEq,aF.mk.injEq] at e
    exact (h ⟨b,sK kl v b e.2⟩).elim
theorem Kb (kl:List Nat) (tm:List (Nat × aF)) (ch:aN):holds (rx kl tm) ch = holds tm ch :=
 iD ch fun x _=>by rw [lO,AV]
theorem Ga {tm:List (Nat × aF)} {ch':aN} (h':holds tm ch' = true):∀ (ch:aN),pV ch ch' = true→holds tm ch = true
 | [],_=>rfl
 | (t,w) :: r,h=>by
  simp only [pV,List.all_cons,Bool.and_eq_true] at h
  obtain ⟨h1,h2⟩:=h
  rw [eE,Bool.and_eq_true]
  refine ⟨?_,Ga h' r h2⟩
  unfold Pa at h1
  obtain ⟨y,hy,hyt⟩:=List.any_eq_true.1 h1
  simp only [Bool.and_eq_true,Nat.beq_eq,beq_iff_eq] at hyt
  obtain ⟨e1,e2⟩:=hyt
  have key:∀ (ch':aN),y∈ch'→holds tm ch' = true→(match bg (aw tm y.1) with | some b=>(b == y.2) | none=>false) = true:=by
   intro ch'
   induction ch' with
   | nil=>intro hy;simp at hy
   | cons z l ih =>
    intro hy hh
    obtain ⟨zt,zw⟩:=z
    rw [eE,Bool.and_eq_true] at hh
    rcases List.mem_cons.1 hy with rfl | hy
    ·exact hh.1
    ·exact ih hy hh.2
  have:=key ch' hy h'
  rw [← e1, ← e2] at this
  exact this
theorem Ps (f:FuncId) (hlt:Nat.blt f 1000000000 = true):aj E w (.func (.func f) #[] #[]) (.fn f []):=by
 have e:oA f [] = .func (.func f) #[] #[]:=oX hlt []
 rw [← e]
 exact .fn f [] [] rfl fun i v d h=>by simp at h
theorem co (hs:bn N B σ E a w) {ch:aN} (hh:holds σ.tm ch = true) {x:Operand} {v:V} (h:bM σ ch x = some v):aj E w (a.eval x) v:=by
 unfold bM at h
 split at h
 ·next t =>
  cases hlow:Nat.blt t 1000000 with
  | false=>simp [hlow] at h
  | true =>
  rw [hlow,cond_true] at h
  split at h
  ·next s hg =>
   cases hc:pV s.ch ch with
   | false=>simp [hc] at h
   | true =>
    simp only [hc,cond_true,Option.some.injEq] at h
    subst h
    have:=(hs.slots t s hg).1 (Ga hh _ hc)
    rw [tJ (by simpa using hlow)] at this
    exact this
  ·cases h
 ·cases h;exact uX _
 ·next f =>
  cases hlt:Nat.blt f 1000000000 with
  | false=>rw [hlt] at h;cases h
  | true=>rw [hlt] at h;cases h;exact Ps _ hlt
 ·cases h
theorem A6 (hs:bn N B σ E a w) {ch:aN} (hh:holds σ.tm ch = true):∀ {xs:List Operand} {vs:List V},ld σ ch xs = some vs→aL E w (xs.map a.eval) vs
 | [],vs,h=>by simp [ld] at h;subst h;exact .nil
 | x :: xs,vs,h=>by
  unfold ld at h
  rw [List.mapM_cons] at h
  simp only [Option.bind_eq_bind,Option.pure_def,Option.bind_eq_some_iff,Option.some.injEq] at h
  obtain ⟨d,hd,ds,hds,rfl⟩:=h
  have ih:=A6 hs hh (xs:=xs) hds
  refine ⟨by simp [ih.1],fun i v d' hv hd'=>?_⟩
  match i with
  | 0=>simp at hv hd'; subst hv;subst hd'; exact co hs hh hd
  | i+1=>exact ih.2 i v d' (by simpa using hv) (by simpa using hd')
theorem mo {ops:Array Oper} (hs:bn N B σ E a w) {o:Oper} {ch:aN} (h:cC ops.toList σ.tm o.guard = some ch) (hb:ch.all (fun x=>dq σ.tm x.1) = true):Region.wanted o (yielded ops a.tmps) = holds σ.tm ch:=by
 unfold cC at h
 split at h
 ·next hg=>cases h;simp [Region.wanted,hg,holds]
 ·next j wt hg =>
  split at h
  ·next oj hj =>
   split at h
   ·next t ht =>
    cases hlow:Nat.blt t 1000000 with
    | false=>simp [hlow] at h
    | true =>
    rw [hlow,cond_true] at h
    split at h
    ·next ch' b hgt =>
     cases h
     have hj':ops[j]? = some oj:=by rw [← Array.getElem?_toList];exact hj
     rw [eE,hgt]
     simp only [bg,Region.wanted,hg,yielded,hj',Option.bind_some,ht]
     have hsl:=hs.slots t _ hgt
     rw [tJ (by simpa using hlow)] at hsl
     cases hh:holds σ.tm ch' with
     | true =>
      have hr:=(hsl.1 hh).lit_inv
      have:a.tmps[t]? = some (.bool b):=by
       rw [Array.getD_eq_getD_getElem?] at hr
       cases hx:a.tmps[t]? with
       | none=>rw [hx] at hr;simp [undef] at hr
       | some x=>rw [hx] at hr;simpa using hr
      rw [this]
      cases b <;> cases wt <;> rfl
     | false =>
      have hr:=hsl.2 (by simp only [List.all_cons,Bool.and_eq_true] at hb;exact hb.2) hh
      rw [Bool.and_false]
      rw [Array.getD_eq_getD_getElem?] at hr
      cases hx:a.tmps[t]? with
      | none=>rfl
      | some x=>rw [hx] at hr;simp at hr;subst hr;rfl
    ·cases h
   ·cases h
  ·cases h
theorem Kv (hs:bn N B σ E a w) {ch:aN} (hh:holds σ.tm ch = true) {c x y:Operand} {v:V} (h:uy σ ch c x y = some v) :
  ∃ b:Bool,a.eval c = .bool b∧aj E w (if b then a.eval x else a.eval y) v:=by
 unfold uy at h
 split at h
 ·next b hc =>
  have hcb:=(co hs hh hc).lit_inv
  refine ⟨b,hcb, ?_⟩
  have key:∀ (want:Bool),b = want→∀ (z:Operand) (u:V),bM σ (pw c want ch) z = some u→aj E w (a.eval z) u:=by
   intro want hw z u hz
   cases c with
   | tmp t =>
    have:holds σ.tm ((t,want) :: ch) = true:=by
     rw [eE,hh,Bool.and_true]
     cases hg:aw σ.tm t with
     | none=>simp [bM,hg] at hc
     | some s =>
      cases hsc:pV s.ch ch with
      | false=>simp [bM,hg,hsc] at hc
      | true =>
       have hl:Nat.blt t 1000000 = true:=by
        cases hl:Nat.blt t 1000000 with
        | true=>rfl
        | false=>simp [bM,hl] at hc
       simp only [bM,hg,hsc,hl,cond_true,Option.some.injEq] at hc
       have:bg (some s) = some b:=by obtain ⟨sc,sv⟩:=s;simp only at hc;subst hc;rfl
       rw [this,hw]
       cases want <;> rfl
    exact co hs this hz
   | const _=>exact co hs hh hz
   | global _=>exact co hs hh hz
   | func _=>exact co hs hh hz
  have bv:∀ {o:Option V} {v:V},G7 o = some v→o = some v:=by
   intro o v h
   unfold G7 at h
   split at h
   ·cases h;rfl
   ·cases h
  cases b with
  | true=>rw [cond_true] at h;exact key true rfl _ _ (bv h)
  | false=>rw [cond_false] at h;exact key false rfl _ _ (bv h)
 ·cases h
theorem Mn (hs:bn N B σ E a w) {ch:aN} (hh:holds σ.tm ch = true) {c x y:Operand} {v:V} (h:pD σ ch c x y = some v) :
  ∃ b:Bool,a.eval c = .bool b∧aj E w (if b then a.eval x else a.eval y) v:=by
 unfold pD at h
 split at h
 ·next b hc =>
  have hcb:=(co hs hh hc).lit_inv
  refine ⟨b,hcb, ?_⟩
  split at h
  ·next p q hx hy =>
   cases h
   have key:∀ (want:Bool),b = want→∀ (z:Operand) (u:V),bM σ (pw c want ch) z = some u→aj E w (a.eval z) u:=by
    intro want hw z u hz
    cases c with
    | tmp t =>
     have:holds σ.tm ((t,want) :: ch) = true:=by
      rw [eE,hh,Bool.and_true]
      cases hg:aw σ.tm t with
      | none=>simp [bM,hg] at hc
      | some s =>
       cases hsc:pV s.ch ch with
       | false=>simp [bM,hg,hsc] at hc
       | true =>
        have hl:Nat.blt t 1000000 = true:=by
         cases hl:Nat.blt t 1000000 with
         | true=>rfl
         | false=>simp [bM,hl] at hc
        simp only [bM,hg,hsc,hl,cond_true,Option.some.injEq] at hc
        have:bg (some s) = some b:=by obtain ⟨sc,sv⟩:=s;simp only at hc;subst hc;rfl
        rw [this,hw]
        cases want <;> rfl
     exact co hs this hz
    | const _=>exact co hs hh hz
    | global _=>exact co hs hh hz
    | func _=>exact co hs hh hz
   cases hb:b with
   | true =>
    subst hb
    have:=key true rfl x _ hx
    simpa using this
   | false =>
    subst hb
    have:=key false rfl y _ hy
    simpa using this
  ·cases h
 ·cases h
theorem OF {t t':Nat} {v:Value} (ht:t < a.tmps.size):(a.put (some t) v).tmps.getD t' undef = if t = t' then v else a.tmps.getD t' undef:=by
 simp only [Act.put,Array.getD_eq_getD_getElem?,Array.getElem?_setIfInBounds]
 by_cases h:t = t'
 ·subst h;simp [ht]
 ·simp [h]
theorem M8 {t t':Nat} {v:Value} (ht:t < a.tmps.size) (hl:t < 1000000):ea B (a.put (some t) v) t' = if t = t' then v else ea B a t':=by
 unfold ea
 rw [OF ht]
 by_cases h:t = t'
 ·subst h;rw [if_pos hl,if_pos rfl,if_pos rfl]
 ·simp only [if_neg h]
theorem sT (d:Nat) (tm:List (Nat × aF)) (t:Nat):aw (m9 d tm) t = (aw tm t).map fun s=>bif s.ch.any (fun y=>Nat.beq y.1 d) then ⟨[], .c .unk⟩ else s :=
 wz (fun s=>bif s.ch.any (fun y=>Nat.beq y.1 d) then ⟨[], .c .unk⟩ else s) tm t
theorem P8 {d:Nat} {ch:aN} (h:ch.any (fun y=>Nat.beq y.1 d) = false):∀ x∈ch,x.1≠d:=by
 intro x hx e
 have:=List.any_eq_false.1 h x hx
 rw [e] at this
 simp at this
theorem IJ {d:Nat} {ch:aN} (h:gU (some d) ch = true):∀ x∈ch,x.1≠d:=by
 intro x hx e
 have:=List.all_eq_true.1 h x hx
 rw [e] at this
 simp at this
theorem j6 {tm:List (Nat × aF)} {t:Nat}:dq tm t = (bg (aw tm t)).isSome:=by
 unfold dq
 cases h:aw tm t with
 | none=>rfl
 | some s =>
  obtain ⟨ch,v⟩:=s
  simp only
  unfold V.isBool bg
  split <;> simp_all
theorem AH {tm:List (Nat × aF)}:∀ (ch:aN),holds tm ch = true→ch.all (fun x=>dq tm x.1) = true
 | [],_=>rfl
 | (t,w) :: r,h=>by
  rw [eE,Bool.and_eq_true] at h
  simp only [List.all_cons,Bool.and_eq_true]
  refine ⟨?_,AH r h.2⟩
  rw [j6]
  cases hb:bg (aw tm t) with
  | none=>rw [hb] at h;simp at h
  | some b=>rfl
theorem fL {tm tm':List (Nat × aF)} {E':au} {w':World} {v:Value} {s:aF} (h:kS tm E' w' v s) (hb:∀ x∈s.ch,dq tm' x.1 = true→bg (aw tm' x.1) = bg (aw tm x.1)):kS tm' E' w' v s:=by
 have key:s.ch.all (fun x=>dq tm' x.1) = true→holds tm' s.ch = holds tm s.ch∧s.ch.all (fun x=>dq tm x.1) = true:=by
  intro ha
  have h1:∀ x∈s.ch,bg (aw tm' x.1) = bg (aw tm x.1):=fun x hx=>hb x hx (List.all_eq_true.1 ha x hx)
  refine ⟨iD _ h1,List.all_eq_true.2 fun x hx=>?_⟩
  have:=List.all_eq_true.1 ha x hx
  rw [j6] at this ⊢
  rw [← h1 x hx];exact this
 refine ⟨fun hh=>?_,fun ha hh=>?_⟩
 ·have:=key (AH _ hh)
  exact h.1 (by rw [← this.1];exact hh)
 ·have:=key ha
  exact h.2 this.2 (by rw [← this.1];exact hh)
theorem I3 {d:Nat} {tm:List (Nat × aF)} {t:Nat} (h:dq (m9 d tm) t = true):bg (aw (m9 d tm) t) = bg (aw tm t):=by
 rw [j6] at h
 rw [sT] at h ⊢
 cases hx:aw tm t with
 | none=>rfl
 | some s =>
  rw [hx] at h
  simp only [Option.map_some] at h ⊢
  cases hc:s.ch.any (fun y=>Nat.beq y.1 d) with
  | false=>rfl
  | true=>rw [hc] at h;simp [bg] at h
theorem FU {tm:List (Nat × aF)} {E':au} {w':World} {ch:aN} {d:Nat} {v:V} {v':Value} (hlt:d < a.tmps.size) (hlow:d < 1000000) (hsl:∀ t s,aw tm t = some s→kS tm E' w' (ea B a t) s)
  (hcd:∀ x∈ch,x.1≠d) (hv:kS tm E' w' v' { ch,v }):∀ t s,aw (gm (m9 d tm) d { ch,v }) t = some s→kS (gm (m9 d tm) d { ch,v }) E' w' (ea B (a.put (some d) v') t) s:=by
 have hb:∀ c:aN,(∀ x∈c,x.1≠d)→∀ x∈c,dq (gm (m9 d tm) d { ch,v }) x.1 = true→bg (aw (gm (m9 d tm) d { ch,v }) x.1) = bg (aw tm x.1):=by
  intro c hc x hx h
  rw [j6,kC,if_neg (fun e=>hc x hx e.symm)] at h
  rw [kC,if_neg (fun e=>hc x hx e.symm)]
  exact I3 (by rw [j6];exact h)
 intro t s hg
 rw [kC] at hg
 rw [M8 hlt hlow]
 split at hg
 ·next e =>
  subst e;cases hg
  rw [if_pos rfl]
  exact fL hv (hb ch hcd)
 ·next e =>
  rw [if_neg e]
  rw [sT] at hg
  cases hx:aw tm t with
  | none=>rw [hx] at hg;cases hg
  | some y =>
   rw [hx] at hg
   simp only [Option.map_some,Option.some.injEq] at hg
   cases hc:y.ch.any (fun y=>Nat.beq y.1 d) with
   | true =>
    rw [hc,cond_true] at hg;subst hg
    exact ⟨fun _=>.unk _,fun _ h=>by simp [holds] at h⟩
   | false =>
    rw [hc,cond_false] at hg;subst hg
    exact fL (hsl t _ hx) (hb _ (P8 hc))
theorem L3 {kl:List Nat} {tm:List (Nat × aF)} {E':au} {w':World} (hr:∀ v d,aj E w v d→aj E' w' v (d.killAll kl)) (hsl:∀ t s,aw tm t = some s→kS tm E w (ea B a t) s) :
  ∀ t s,aw (rx kl tm) t = some s→kS (rx kl tm) E' w' (ea B a t) s:=by
 intro t s hg
 rw [lO] at hg
 cases hx:aw tm t with
 | none=>rw [hx] at hg;cases hg
 | some y =>
  rw [hx] at hg;cases hg
  refine fL (tm:=tm) ⟨fun h=>hr _ _ ((hsl t y hx).1 h),(hsl t y hx).2⟩ fun x _ _=>?_
  rw [lO,AV]
theorem ui (hs:bn N B σ E a w) {rc:bA} {E':au} {w':World} {v':Value} {M:Nat} (hM:σ.nx≤M) (hnid:rc.nid+8≤M) (hP:ce E w σ.hp rc.nid rc.res E' w' v') (hh:holds σ.tm rc.ch = true)
  (hd:io N rc.dst = true) (hn:rc.ch.isEmpty = true∨gU rc.dst rc.ch = true):bn N B { after σ rc with nx:=M } E' (a.put rc.dst v') w':=by
 have hlive:∀ q,M≤q→¬ E'.live q:=by
  intro q hq h
  rcases hP.live q h with h | h
  ·exact hs.live q (by omega) h
  ·omega
 have hown:∀ o b,E'.live o→E'.conc o = some b→B.W.heap.size≤b∨B.mb b:=by
  intro o b ho h
  rcases hP.st.concnew o b ho h with ⟨o,h1,h2⟩ | h
  ·exact hs.own o b h1 h2
  ·have:=hs.base.size;exact .inl (by omega)
 have hold:∀ b,E'.ok b→B.ok b∨B.W.heap.size≤b∨B.mb b:=by
  intro b hb
  rcases hP.st.okold b hb with h | h | ⟨o,h1,h2⟩
  ·exact hs.okold b h
  ·have:=hs.base.size;exact .inr (.inl (by omega))
  ·exact .inr (hs.own o b h1 h2)
 have hbase:vu B.mb B.W.heap.size B.W w':=by
  refine ⟨hP.st.os.trans hs.base.os,hP.st.tape.trans hs.base.tape,hP.st.output.trans hs.base.output,Nat.le_trans hs.base.size hP.st.size,fun k hk hm=>?_⟩
  rw [hP.st.blk k (by have:=hs.base.size;omega) fun o ho h=>by
   rcases hs.own o k ho h with h | h
   ·omega
   ·exact hm h]
  exact hs.base.block k hk hm
 have hkill:=L3 (kl:=rc.res.kill) (E':=E') (w':=w') (fun v d h=>h.step hP.st hs.heap.sep hs.heap.oklt) hs.slots
 cases hdst:rc.dst with
 | none =>
  refine ⟨hs.size,hs.small,hs.defers,hlive,hP.heap,fun t s hg=>?_,hbase,hown,hold⟩
  simp only [after,hdst] at hg ⊢
  exact hkill t s hg
 | some d =>
  rw [hdst] at hd hn
  simp only [io,Nat.blt_eq] at hd
  have hlt:d < a.tmps.size:=by rw [hs.size];exact hd
  have hcd:∀ x∈rc.ch,x.1≠d:=by
   rcases hn with hn | hn
   ·intro x hx;rw [List.isEmpty_iff.1 hn] at hx;simp at hx
   ·exact IJ hn
  refine ⟨by simp [Act.put,hs.size],hs.small,hs.defers,hlive,hP.heap, ?_,hbase,hown,hold⟩
  simp only [after,hdst]
  refine FU hlt (by have:=hs.small;omega) hkill hcd ⟨fun _=>hP.val,fun _ h=>?_⟩
  rw [Kb,hh] at h
  cases h
end
end Go.Ax
namespace Go.Ax
open Go.RowKit
section
variable {P:Program} {N:Nat} {B:fh} {σ σ':St} {E:au} {a:Act} {w:World} {C:FuncId→Option CC}
theorem B7 (hs:bn N B σ E a w) {rc:bA} {M:Nat} (hf:¬ E.live rc.nid) (hM:σ.nx≤M) (hnid:rc.nid+8≤M) (hh:holds σ.tm rc.ch = false) (he:rc.res.eff = []) (hk:rc.res.kill = []) (hn:gU rc.dst rc.ch = true)
  (hd:io N rc.dst = true):bn N B { after σ rc with nx:=M } (E.next rc.nid none 0 0 E.ok) (a.put rc.dst undef) w:=by
 have hS:dn E w [] (E.next rc.nid none 0 0 E.ok) w:=cH hf none 0 0 E.ok (.refl _ _) (by simp) (fun _ h=>h) (fun _ h=>.inl h)
 have hN:az (E.next rc.nid none 0 0 E.ok) w σ.hp:=cY hf hs.heap (.refl _ _) (by simp) (fun _ h=>h) (fun _ h=>.inl h) hs.heap.oklt
 have hown:∀ o b,(E.next rc.nid none 0 0 E.ok).live o→(E.next rc.nid none 0 0 E.ok).conc o = some b→B.W.heap.size≤b∨B.mb b:=by
  intro o b ho h
  rcases hS.concnew o b ho h with ⟨o,h1,h2⟩ | h
  ·exact hs.own o b h1 h2
  ·have:=hs.base.size;exact .inl (by omega)
 have hlive:∀ q,M≤q→¬ (E.next rc.nid none 0 0 E.ok).live q:=by
  rintro q hq (h | h)
  ·omega
  ·exact hs.live q (by omega) h
 have hslot:∀ t s,aw σ.tm t = some s→kS σ.tm (E.next rc.nid none 0 0 E.ok) w (ea B a t) s:=fun t s hg =>
  ⟨fun h=>fZ hs.heap hS ((hs.slots t s hg).1 h),(hs.slots t s hg).2⟩
 have hkT:rx rc.res.kill σ.tm = σ.tm:=by rw [hk];rfl
 have hkH:rc.res.eff++d7 rc.res.kill σ.hp = σ.hp:=by rw [he,hk];rfl
 cases hdst:rc.dst with
 | none =>
  refine ⟨hs.size,hs.small,hs.defers,hlive,by simp only [after];rw [hkH];exact hN,fun t s hg=>?_,hs.base,hown,hs.okold⟩
  simp only [after,hdst] at hg ⊢
  rw [hkT] at hg ⊢
  exact hslot t s hg
 | some d =>
  rw [hdst] at hd hn
  simp only [io,Nat.blt_eq] at hd
  have hlt:d < a.tmps.size:=by rw [hs.size];exact hd
  refine ⟨by simp [Act.put,hs.size],hs.small,hs.defers,hlive,by simp only [after];rw [hkH];exact hN, ?_,hs.base,hown,hs.okold⟩
  simp only [after,hdst]
  rw [hkT]
  refine FU hlt (by have:=hs.small;omega) hslot (IJ hn) ⟨fun h=>?_,fun _ _=>rfl⟩
  have h':holds σ.tm rc.ch = true:=h
  rw [hh] at h'
  cases h'
theorem Oc {tm:List (Nat × aF)} {ch:aN} {ps:List Prop} (h:∀ p∈mO tm ch ps,p) (hh:holds tm ch = true):∀ p∈ps,p:=by
 intro p hp
 cases ch with
 | nil=>exact h p hp
 | cons x l=>exact h _ (List.mem_map.2 ⟨p,hp,rfl⟩) hh
theorem qO {tm:List (Nat × aF)} {c ch:aN} (h:ch.all (fun x=>dv tm c x.1) = true):ch.all (fun x=>dq tm x.1) = true:=by
 refine List.all_eq_true.2 fun x hx=>?_
 have:=List.all_eq_true.1 h x hx
 unfold dv at this
 unfold dq
 split at this
 ·simp only [Bool.and_eq_true] at this;exact this.1
 ·cases this
theorem nu {ops:List Oper} {nid:Nat} {o:Oper} {rc:bA} (h:tc P C N ops σ nid o = some rc) :
  io N o.dst = true∧cC ops σ.tm o.guard = some rc.ch∧rc.ch.all (fun x=>dv σ.tm rc.ch x.1) = true∧kW P C σ nid rc.ch o = some (rc.vs,rc.res) ∧
   (rc.ch.isEmpty||gU o.dst rc.ch) = true∧rc.dst = o.dst∧rc.nid = nid∧rc.rds = kN (du o.op)++rc.ch.map (·.1)∧rc.reach = aR σ.hp (lk o rc.vs)∧rc.rws = ny σ.hp (lk o rc.vs):=by
 unfold tc at h
 cases hd:io N o.dst with
 | false=>simp [hd] at h
 | true =>
  simp only [hd,cond_true] at h
  split at h
  ·next ch hch =>
   cases hb:ch.all (fun x=>dv σ.tm ch x.1) with
   | false=>simp [hb] at h
   | true =>
    simp only [hb,cond_true] at h
    split at h
    ·next vs r hr =>
     cases hc:(ch.isEmpty||gU o.dst ch) with
     | false=>simp [hc] at h
     | true =>
      simp only [hc,cond_true,Option.some.injEq] at h
      subst h
      exact ⟨rfl,hch,hb,hr,hc,rfl,rfl,rfl,rfl,rfl⟩
    ·cases h
  ·cases h
theorem Ff {ops:List Oper} {nid:Nat} {o:Oper} {rc:bA} (h:oc P C N ops σ nid o = some rc):tc P C N ops σ nid o = some rc∧Ac rc = true:=by
 unfold oc at h
 split at h
 ·next r hr =>
  cases hn:Ac r with
  | false=>rw [hn] at h;cases h
  | true=>rw [hn] at h;cases h;exact ⟨hr,hn⟩
 ·cases h
def eX (P:Program) (C:FuncId→Option CC) (N:Nat) (ops:List Oper) (σ:St) (nid:Nat) (o:Oper) (rc:bA):Prop :=
 (tc P C N ops σ nid o = some rc∧(holds σ.tm rc.ch = true∨Ac rc = true)) ∨
 (rc = PH P o rc.ch nid∧io N o.dst = true∧cC ops σ.tm o.guard = some rc.ch∧rc.ch.all (fun x=>dv σ.tm rc.ch x.1) = true∧gU o.dst rc.ch = true∧holds σ.tm rc.ch = false)
theorem eX.of {ops:List Oper} {nid:Nat} {o:Oper} {rc:bA} (h:oc P C N ops σ nid o = some rc):eX P C N ops σ nid o rc:=.inl ⟨(Ff h).1, .inr (Ff h).2⟩
theorem OH {H:ae} {nid:Nat} {ch:aN} {o:Oper} {vs:List V} {r:aH} (h:zd P C H nid ch o vs = some r) (hp:∀ p∈r.pre,p):qP P C H nid o vs = some r:=by
 unfold zd at h
 split at h
 ·next r' hr=>cases h;exact hr
 ·cases hc:ch.isEmpty with
  | true=>rw [hc] at h;cases h
  | false =>
   rw [hc] at h;cases h
   have:=hp (false = true) (by simp)
   cases this
theorem Es (hC:∀ f con,C f = some con→bz P f con) (hs:bn N B σ E a w) {ops:Array Oper} {i:Nat} {o:Oper} (hi:ops[i]? = some o) {nid M:Nat} (hf:e9 E nid) (hM:σ.nx≤M) (hnid:nid+8≤M)
  {rc:bA} (h0:eX P C N ops.toList σ nid o rc) (hp:∀ p∈mO σ.tm rc.ch rc.res.pre,p) {K:Act→World→Prop} {Q:Exit→Act→World→Prop}
  (hK:∀ E' a' w',bn N B { after σ rc with nx:=M } E' a' w'→(∀ q,E'.live q→E.live q∨nid≤q∧q < nid+8)→K a' w'):wpOp P ops Q i K a w:=by
 rcases h0 with ⟨h,hne0⟩ | ⟨e,hd,hch,hb,hn,hh⟩
 rotate_left
 ·have e1:rc.dst = o.dst:=by rw [e];rfl
  have e2:rc.nid = nid:=by rw [e];rfl
  rw [← e1] at hd hn
  rw [← e2] at hnid hf hK
  unfold wpOp
  rw [hi]
  simp only
  rw [mo hs hch (qO hb), ← e1,hh,if_neg (by simp)]
  exact hK _ _ _ (B7 hs hf.one hM hnid hh (by rw [e];rfl) (by rw [e];rfl) hn hd) bG
 obtain ⟨hd,hch,hb,hr,hc,e1,e2,_,_⟩:=nu h
 rw [← e1] at hd hc
 rw [← e2] at hnid hf hK
 unfold wpOp
 rw [hi]
 simp only
 rw [mo hs hch (qO hb), ← e1]
 cases hh:holds σ.tm rc.ch with
 | false =>
  rw [if_neg (by simp)]
  have hne:rc.ch.isEmpty = false:=by
   cases hx:rc.ch with
   | nil=>rw [hx] at hh;simp [holds] at hh
   | cons=>rfl
  rw [hne,Bool.false_or] at hc
  have hno:=hne0.resolve_left (by rw [hh];simp)
  unfold Ac at hno
  rw [hne,Bool.false_or] at hno
  simp only [Bool.and_eq_true,List.isEmpty_iff] at hno
  exact hK _ _ _ (B7 hs hf.one hM hnid hh hno.1 hno.2 hc hd) bG
 | true =>
  rw [if_pos rfl]
  left
  have hpp:=Oc hp hh
  have hn:rc.ch.isEmpty = true∨gU rc.dst rc.ch = true:=by
   simpa only [Bool.or_eq_true] using hc
  unfold kW at hr
  split at hr
  ·next c x y ho =>
   have hpk:∃ v,rc.res = { val:=v }∧∃ b:Bool,a.eval c = .bool b∧aj E w (if b then a.eval x else a.eval y) v:=by
    cases hv:pD σ rc.ch c x y with
    | some v =>
     simp only [hv,Option.some.injEq,Prod.mk.injEq] at hr
     exact ⟨v,hr.2.symm,Mn hs hh hv⟩
    | none =>
     simp only [hv] at hr
     cases hv2:uy σ rc.ch c x y with
     | none=>simp [hv2] at hr
     | some v =>
      simp only [hv2,Option.map_some,Option.some.injEq,Prod.mk.injEq] at hr
      exact ⟨v,hr.2.symm,Kv hs hh hv2⟩
   obtain ⟨v,hrv,b,hb,hrep⟩:=hpk
   have hr:([]:List V) = []∧({ val:=v }:aH) = rc.res:=⟨rfl,hrv.symm⟩
   ·unfold Oper.wp
    have hrun:(execOp a.eval o).run P w = .ok (.value (if b then a.eval x else a.eval y)) w:=by
     simp [execOp,ho,hb,asBool]
    rw [hrun]
    have hP:ce E w σ.hp rc.nid rc.res (E.next rc.nid none 0 0 E.ok) w (if b then a.eval x else a.eval y):=by
     have hS:dn E w [] (E.next rc.nid none 0 0 E.ok) w:=cH hf.one none 0 0 E.ok (.refl _ _) (by simp) (fun _ h=>h) (fun _ h=>.inl h)
     rw [← hr.2]
     exact ⟨hS,cY hf.one hs.heap (.refl _ _) (by simp) (fun _ h=>h) (fun _ h=>.inl h) hs.heap.oklt,fZ hs.heap hS hrep,bG⟩
    have hfin:=hK _ _ _ (ui hs hM hnid hP hh hd hn) hP.live
    rw [e1] at hfin
    exact hfin
  ·next op hnp =>
   split at hr
   ·next vs hvs =>
    cases hov0:zd P C σ.hp nid rc.ch o vs with
    | none=>simp [hov0] at hr
    | some r =>
     simp only [hov0,Option.map_some,Option.some.injEq,Prod.mk.injEq] at hr
     obtain ⟨rfl,rfl⟩:=hr
     have hov:=OH hov0 hpp
     rw [← e2] at hov
     refine Pw hs.heap hf hC (A6 hs hh hvs) hov hpp fun E' w' v' hP=>?_
     have hfin:=hK _ _ _ (ui hs hM hnid hP hh hd hn) hP.live
     rw [e1] at hfin
     exact hfin
   ·cases hr
theorem Ka (tm:List (Nat × aF)) (t:Nat):aw (od tm) t = (aw tm t).map fun s=>bif s.ch.isEmpty then s else ⟨[], .c .unk⟩ :=
 wz (fun s=>bif s.ch.isEmpty then s else ⟨[], .c .unk⟩) tm t
theorem Bp (hs:bn N B σ E a w):bn N B { σ with tm:=od σ.tm } E a w:=by
 refine ⟨hs.size,hs.small,hs.defers,hs.live,hs.heap,fun t s hg=>?_,hs.base,hs.own,hs.okold⟩
 simp only at hg ⊢
 rw [Ka] at hg
 cases hx:aw σ.tm t with
 | none=>rw [hx] at hg;cases hg
 | some y =>
  rw [hx] at hg
  simp only [Option.map_some,Option.some.injEq] at hg
  cases hc:y.ch.isEmpty with
  | false =>
   rw [hc,cond_false] at hg;subst hg
   exact ⟨fun _=>.unk _,fun _ h=>by simp [holds] at h⟩
  | true =>
   rw [hc,cond_true] at hg;subst hg
   have hch:y.ch = []:=List.isEmpty_iff.1 hc
   have:=hs.slots t y hx
   exact ⟨fun _=>this.1 (by rw [hch];rfl),fun _ h=>by rw [hch] at h;simp [holds] at h⟩
inductive zW (P:Program) (C:FuncId→Option CC) (N:Nat) (all:List Oper):List Oper→St→St→Prop
  | nil (σ:St):zW P C N all [] σ { σ with tm:=od σ.tm }
  | cons (o:Oper) (r:List Oper) (σ σ':St) (rc:bA) (h:eX P C N all σ σ.nx o rc) (hp:∀ p∈mO σ.tm rc.ch rc.res.pre,p) (hr:zW P C N all r { after σ rc with nx:=σ.nx+8 } σ'):zW P C N all (o :: r) σ σ'
theorem BF (hC:∀ f con,C f = some con→bz P f con) {ops:Array Oper} {Q:Exit→Act→World→Prop}:∀ (rest:List Oper) (i:Nat) (σ σ':St) (E:au) (a:Act) (w:World),
  ops.toList.drop i = rest→zW P C N ops.toList rest σ σ'→bn N B σ E a w→(∀ E' a' w',bn N B σ' E' a' w'→Q .normal a' w')→wpOps P ops Q (List.range' i rest.length) a w
 | [],i,σ,σ',E,a,w,hd,hg,hs,hQ=>by
  cases hg
  exact hQ _ _ _ (Bp hs)
 | o :: rest,i,σ,σ',E,a,w,hd,hg,hs,hQ=>by
  cases hg with
  | cons _ _ _ _ rc h1 hp hr =>
   have hi:ops[i]? = some o:=by
    have:=congrArg (·[0]?) hd
    simpa using this
   rw [List.length_cons,List.range'_succ,wpOps_cons]
   refine Es (M:=σ.nx+8) hC hs hi (.of hs.live (Nat.le_refl _)) (Nat.le_add_right _ _) (Nat.le_refl _) h1 hp fun E' a' w' hs' _=>?_
   refine BF hC rest (i+1) { after σ rc with nx:=σ.nx+8 } _ E' a' w' ?_ hr hs' hQ
   rw [← List.drop_drop,hd]
   rfl
theorem MS (hC:∀ f con,C f = some con→bz P f con) {id:Nat} {ops:Array Oper} {Q:Exit→Act→World→Prop} (hg:zW P C N ops.toList ops.toList σ σ')
  (hs:bn N B σ E a w) (hQ:∀ E' a' w',bn N B σ' E' a' w'→Q .normal a' w'):(Code.region id ops false).wp P Q a w:=by
 refine wp_region ?_
 have:=BF hC (Q:=Q) ops.toList 0 σ σ' E a w rfl hg hs hQ
 rw [List.range_eq_range']
 simpa using this
end
end Go.Ax
namespace Go.Ax
open Go.RowKit
section
variable {P:Program} {N:Nat} {B:fh} {σ σ':St} {E:au} {a:Act} {w:World} {C:FuncId→Option CC}
theorem CW:∀ {ps:List Prop} {Q:Prop},ET ps Q→(∀ p∈ps,p)∧Q
 | [],_,h=>⟨fun p hp=>by simp at hp,h⟩
 | p :: ps,Q,h=>by
  obtain ⟨h1,h2⟩:=CW h.2
  refine ⟨fun q hq=>?_,h2⟩
  rcases List.mem_cons.1 hq with rfl | hq
  ·exact h.1
  ·exact h1 q hq
theorem N4 {ps:List Prop} {Q Q':Prop} (hq:Q→Q'):ET ps Q→ET ps Q':=by
 induction ps with
 | nil=>exact hq
 | cons p ps ih=>exact fun h=>⟨h.1,ih h.2⟩
theorem If (hs:bn N B σ E a w) {t:Nat} {s:aF} (hg:aw σ.tm t = some s):bn N B { σ with tm:=gm σ.tm t s } E a w:=by
 have hx:∀ x,aw (gm σ.tm t s) x = aw σ.tm x:=by
  intro x
  rw [kC]
  split
  ·next e=>subst e;exact hg.symm
  ·rfl
 refine ⟨hs.size,hs.small,hs.defers,hs.live,hs.heap,fun q y hq=>?_,hs.base,hs.own,hs.okold⟩
 simp only at hq ⊢
 rw [hx] at hq
 exact fL (tm:=σ.tm) (hs.slots q y hq) fun z _ _=>by rw [hx]
theorem Ia (hC:∀ f con,C f = some con→bz P f con) (hs:bn N B σ E a w) {ops:Array Oper} {i:Nat} {o:Oper} (hi:ops[i]? = some o) {ch:aN} (hch:cC ops.toList σ.tm o.guard = some ch)
  (hb:ch.all (fun x=>dq σ.tm x.1) = true) (hh:holds σ.tm ch = true) {k:St→Prop} (h:pB P C N ops.toList σ o k) {K:Act→World→Prop} {Q:Exit→Act→World→Prop}
  (hK:∀ σ' E' a' w',k σ'→bn N B σ' E' a' w'→K a' w'):wpOp P ops Q i K a w:=by
 unfold pB at h
 split at h
 ·next rc hr =>
  obtain ⟨hp,hk⟩:=CW h
  have hr':oc P C N (#[{ o with guard:=none }]:Array Oper).toList σ σ.nx { o with guard:=none } = some rc:=hr
  have hch0:rc.ch = []:=by
   obtain ⟨_,h1,_⟩:=nu (Ff hr).1
   have:cC ops.toList σ.tm none = some rc.ch:=h1
   simpa [cC] using this.symm
  have:=Es (Q:=Q) (M:=σ.nx+8) hC hs (ops:=#[{ o with guard:=none }]) (i:=0) rfl (.of hs.live (Nat.le_refl _)) (Nat.le_add_right _ _) (Nat.le_refl _) (.of hr') (by rw [hch0];exact hp)
   (K:=K) fun E' a' w' hs' _=>hK _ E' a' w' hk hs'
  unfold wpOp at this ⊢
  rw [hi]
  simp only
  rw [mo hs hch hb,hh,if_pos rfl]
  have e:(#[{ o with guard:=none }]:Array Oper)[0]? = some { o with guard:=none }:=rfl
  rw [e] at this
  simp only [Region.wanted,if_true] at this
  exact this
 ·exact h.elim
theorem EO (hs:bn N B σ E a w) {ops:Array Oper} {i:Nat} {o:Oper} (hi:ops[i]? = some o) {ch:aN} (hch:cC ops.toList σ.tm o.guard = some ch)
  (hb:ch.all (fun x=>dq σ.tm x.1) = true) (hh:holds σ.tm ch = false) {k:St→Prop} (h:pN N σ o ch k) {K:Act→World→Prop} {Q:Exit→Act→World→Prop}
  (hK:∀ σ' E' a' w',k σ'→bn N B σ' E' a' w'→K a' w'):wpOp P ops Q i K a w:=by
 unfold pN at h
 cases hc:(io N o.dst&&gU o.dst ch) with
 | false=>rw [hc] at h;exact h.elim
 | true =>
  rw [hc,cond_true] at h
  rw [Bool.and_eq_true] at hc
  unfold wpOp
  rw [hi]
  simp only
  rw [mo hs hch hb,hh,if_neg (by simp)]
  exact hK _ _ _ _ h (B7 hs (rc:=Er o ch σ.nx) (hs.live _ (Nat.le_refl _)) (Nat.le_add_right _ _) (Nat.le_refl _) hh rfl rfl hc.2 hc.1)
theorem NA (hC:∀ f con,C f = some con→bz P f con) {ops:Array Oper} {Q:Exit→Act→World→Prop}:∀ (rest:List Oper) (i:Nat) (σ:St) (K:St→Prop) (E:au) (a:Act) (w:World),
  ops.toList.drop i = rest→ur P C N ops.toList rest σ K→bn N B σ E a w→(∀ σ' E' a' w',K σ'→bn N B σ' E' a' w'→Q .normal a' w')→wpOps P ops Q (List.range' i rest.length) a w
 | [],i,σ,K,E,a,w,hd,hg,hs,hQ=>by
  rw [ur] at hg
  exact hQ _ _ _ _ hg (Bp hs)
 | o :: rest,i,σ,K,E,a,w,hd,hg,hs,hQ=>by
  have hi:ops[i]? = some o:=by
   have:=congrArg (·[0]?) hd
   simpa using this
  have hd':ops.toList.drop (i+1) = rest:=by
   rw [← List.drop_drop,hd];rfl
  have next:∀ σ' E' a' w',ur P C N ops.toList rest σ' K→bn N B σ' E' a' w'→wpOps P ops Q (List.range' (i+1) rest.length) a' w' :=
   fun σ' E' a' w' h hs'=>NA hC rest (i+1) σ' K E' a' w' hd' h hs' hQ
  rw [List.length_cons,List.range'_succ,wpOps_cons]
  rw [ur] at hg
  split at hg
  ·next hgn=>exact Ia hC hs hi (ch:=[]) (by rw [hgn];rfl) rfl rfl hg next
  ·next g hgn =>
   split at hg
   ·next t wt ch hch =>
    cases hb:((t,wt) :: ch).all (fun x=>dv σ.tm ((t,wt) :: ch) x.1) with
    | false=>rw [hb] at hg;exact hg.elim
    | true =>
     rw [hb,cond_true] at hg
     have hbs:=qO hb
     rw [← hgn] at hch
     split at hg
     ·next c0 b hgt =>
      cases hh:holds σ.tm ch with
      | false =>
       rw [hh,cond_false] at hg
       exact EO hs hi hch hbs (by rw [eE,hh,Bool.and_false]) hg next
      | true =>
       rw [hh,cond_true] at hg
       have hhold:holds σ.tm ((t,wt) :: ch) = (b == wt):=by rw [eE,hh,Bool.and_true,hgt];rfl
       have hsame:∀ b',b = b'→(∀ x,aw (gm σ.tm t ⟨c0,bl b'⟩) x = aw σ.tm x):=by
        intro b' e x
        subst e
        rw [kC]
        split
        ·next e=>subst e;exact hgt.symm
        ·rfl
       have hgc:∀ b',b = b'→cC ops.toList (gm σ.tm t ⟨c0,bl b'⟩) o.guard = some ((t,wt) :: ch):=by
        intro b' e
        rw [← hch]
        unfold cC
        split
        ·rfl
        ·split
         ·split
          ·rw [hsame b' e]
          ·rfl
         ·rfl
       have hbc:∀ b',b = b'→((t,wt) :: ch).all (fun x=>dq (gm σ.tm t ⟨c0,bl b'⟩) x.1) = true:=by
        intro b' e
        rw [← hbs]
        congr 1
        funext x
        unfold dq
        rw [hsame b' e]
       have hho:∀ b',b = b'→holds (gm σ.tm t ⟨c0,bl b'⟩) ((t,wt) :: ch) = (b' == wt):=by
        intro b' e
        rw [iD (tm:=σ.tm) _ fun x _=>by rw [hsame b' e],hhold,e]
       cases hbv:b with
       | true =>
        rw [hbv,cond_true] at hg
        have hs':=If hs hgt
        rw [hbv] at hs'
        cases wt with
        | true=>rw [cond_true] at hg;exact Ia hC hs' hi (hgc true hbv) (hbc true hbv) (hho true hbv) hg next
        | false=>rw [cond_false] at hg;exact EO hs' hi (hgc true hbv) (hbc true hbv) (hho true hbv) hg next
       | false =>
        rw [hbv,cond_false] at hg
        have hs':=If hs hgt
        rw [hbv] at hs'
        cases wt with
        | true=>rw [cond_true] at hg;exact EO hs' hi (hgc false hbv) (hbc false hbv) (hho false hbv) hg next
        | false=>rw [cond_false] at hg;exact Ia hC hs' hi (hgc false hbv) (hbc false hbv) (hho false hbv) hg next
     ·exact hg.elim
   ·exact hg.elim
theorem LH (hC:∀ f con,C f = some con→bz P f con) {id:Nat} {ops:Array Oper} {Q:Exit→Act→World→Prop} {K:St→Prop} (hg:ur P C N ops.toList ops.toList σ K)
  (hs:bn N B σ E a w) (hQ:∀ σ' E' a' w',K σ'→bn N B σ' E' a' w'→Q .normal a' w'):(Code.region id ops false).wp P Q a w:=by
 refine wp_region ?_
 have:=NA hC (Q:=Q) ops.toList 0 σ K E a w rfl hg hs hQ
 rw [List.range_eq_range']
 simpa using this
theorem wg {all:List Oper} {o:Oper} {k k':St→Prop} (hk:∀ σ,k σ→k' σ) (h:pB P C N all σ o k):pB P C N all σ o k':=by
 unfold pB at h ⊢
 split at h
 ·next rc hr=>exact N4 (hk _) h
 ·exact h.elim
theorem wy {o:Oper} {ch:aN} {k k':St→Prop} (hk:∀ σ,k σ→k' σ) (h:pN N σ o ch k):pN N σ o ch k':=by
 unfold pN at h ⊢
 cases hc:(io N o.dst&&gU o.dst ch) with
 | false=>rw [hc] at h;exact h.elim
 | true=>rw [hc,cond_true] at h;rw [cond_true];exact hk _ h
end
end Go.Ax
namespace Go.Ax
open Go.RowKit
section
variable {P:Program} {N:Nat} {B:fh} {σ σ':St} {E:au} {a:Act} {w:World} {C:FuncId→Option CC}
mutual
theorem kill_noUnk (o:Nat):∀ v:V,(v.kill o).noUnk = true→v.kill o = v
 | .c _,_=>rfl
 | .agg vs,h=>by simp only [V.kill,V.noUnk] at h ⊢; rw [kills_noUnk o vs h]
 | .tup vs,h=>by simp only [V.kill,V.noUnk] at h ⊢; rw [kills_noUnk o vs h]
 | .ptr o' k i j,h=>by
  rw [V.kill] at h ⊢
  cases hb:Nat.beq o' o
  ·rfl
  ·rw [hb] at h;simp [V.noUnk] at h
 | .row o' k,h=>by
  rw [V.kill] at h ⊢
  cases hb:Nat.beq o' o
  ·rfl
  ·rw [hb] at h;simp [V.noUnk] at h
 | .sub o' k i j,h=>by
  rw [V.kill] at h ⊢
  cases hb:Nat.beq o' o
  ·rfl
  ·rw [hb] at h;simp [V.noUnk] at h
 | .dptr ..,_=>rfl
 | .fn _ vs,h=>by simp only [V.kill,V.noUnk] at h ⊢; rw [kills_noUnk o vs h]
theorem kills_noUnk (o:Nat):∀ vs:List V,V.noUnks (V.kills o vs) = true→V.kills o vs = vs
 | [],_=>rfl
 | v :: r,h=>by
  simp only [V.kills,V.noUnks,Bool.and_eq_true] at h ⊢
  rw [kill_noUnk o v h.1,kills_noUnk o r h.2]
end
theorem mE:∀ (kl:List Nat) (v:V),(v.killAll kl).noUnk = true→v.killAll kl = v
 | [],_,_=>rfl
 | o :: r,v,h=>by
  rw [V.killAll] at h ⊢
  have h1:=mE r _ h
  rw [h1] at h ⊢
  exact kill_noUnk o v h
mutual
theorem kill_norefs (o:Nat):∀ v:V,v.refs = []→v.kill o = v
 | .c _,_=>rfl
 | .agg vs,h=>by simp only [V.kill];rw [kills_norefs o vs h]
 | .tup vs,h=>by simp only [V.kill];rw [kills_norefs o vs h]
 | .ptr o' k i j,h=>by simp [V.refs] at h
 | .row o' k,h=>by simp [V.refs] at h
 | .sub o' k i j,h=>by simp [V.refs] at h
 | .dptr ..,_=>rfl
 | .fn _ vs,h=>by simp only [V.kill];rw [kills_norefs o vs h]
theorem kills_norefs (o:Nat):∀ vs:List V,V.refss vs = []→V.kills o vs = vs
 | [],_=>rfl
 | v :: r,h=>by
  simp only [V.refss,List.append_eq_nil_iff] at h
  simp only [V.kills]
  rw [kill_norefs o v h.1,kills_norefs o r h.2]
end
mutual
theorem kill_disj (o:Nat):∀ (v:V),o ∉ v.refs→v.kill o = v
 | .c _,_=>rfl
 | .agg vs,h=>by rw [V.kill,kills_disj o vs (by rw [V.refs] at h;exact h)]
 | .tup vs,h=>by rw [V.kill,kills_disj o vs (by rw [V.refs] at h;exact h)]
 | .ptr o' k i j,h=>by
  rw [V.kill]
  cases hb:Nat.beq o' o with
  | false=>rfl
  | true=>exact (h (by rw [V.refs,Nat.eq_of_beq_eq_true hb];simp)).elim
 | .row o' k,h=>by
  rw [V.kill]
  cases hb:Nat.beq o' o with
  | false=>rfl
  | true=>exact (h (by rw [V.refs,Nat.eq_of_beq_eq_true hb];simp)).elim
 | .sub o' k i j,h=>by
  rw [V.kill]
  cases hb:Nat.beq o' o with
  | false=>rfl
  | true=>exact (h (by rw [V.refs,Nat.eq_of_beq_eq_true hb];simp)).elim
 | .dptr ..,_=>rfl
 | .fn f vs,h=>by rw [V.kill,kills_disj o vs (by rw [V.refs] at h;exact h)]
theorem kills_disj (o:Nat):∀ (vs:List V),o ∉ V.refss vs→V.kills o vs = vs
 | [],_=>rfl
 | v :: r,h=>by
  rw [V.refss,List.mem_append] at h
  rw [V.kills,kill_disj o v (fun e=>h (.inl e)),kills_disj o r (fun e=>h (.inr e))]
end
theorem ji:∀ (kl:List Nat) (v:V),(∀ q∈v.refs,q ∉ kl)→v.killAll kl = v
 | [],_,_=>rfl
 | o :: r,v,h=>by
  rw [V.killAll,kill_disj o v (fun ho=>h o ho (by simp)),ji r v fun q hq hr=>h q hq (by simp [hr])]
theorem kM {a b:List Nat} (h:Ly a b = true):∀ x∈a,x ∉ b:=by
 intro x hx hb
 have:=List.all_eq_true.1 h x hx
 simp only [Bool.not_eq_true'] at this
 have:=List.any_eq_false.1 this x hb
 simp at this
theorem xa {H H':ae} {o k:Nat} (h:H.get o = H'.get o):ss H o k = ss H' o k:=by unfold ss;rw [h]
theorem xo {H H':ae} {o k off n:Nat} (h:H.get o = H'.get o):tf H o k off n = tf H' o k off n:=by unfold tf;rw [h]
theorem Gu {H:ae} {vs:List V} {o:Nat} {cs:List V} (ho:o∈V.refss vs) (hb:H.get o = some (.box cs)) {q:Nat} (hq:q∈V.refss cs):q∈aR H vs :=
 List.mem_append_right _ (List.mem_flatMap.2 ⟨o,ho,by rw [hb];exact hq⟩)
theorem EK {H:ae} {vs:List V} {o:Nat} {m:V} (ho:o∈V.refss vs) {s:Int} {l:List Int} (hb:H.get o = some (.iter m s l)) {q:Nat} (hq:q∈V.refs m):q∈aR H vs :=
 List.mem_append_right _ (List.mem_flatMap.2 ⟨o,ho,by rw [hb];exact hq⟩)
theorem NO {H:ae} {vs:List V} {o:Nat} (ho:o∈V.refss vs):o∈aR H vs:=List.mem_append_left _ ho
theorem AZ {H H':ae}:∀ (os:List Nat),(∀ o∈os,H.get o = H'.get o)→bB os H = bB os H'
 | [],_=>rfl
 | o :: r,h=>by
  unfold bB
  rw [h o (by simp),AZ r fun o ho=>h o (by simp [ho])]
structure iM (H H':ae) (os:List Nat):Prop where
  one:∀ o∈os,H.get o = H'.get o
  two:∀ o∈os, ∀ cs,H.get o = some (.box cs)→∀ q∈V.refss cs,H.get q = H'.get q
  three:∀ o∈os, ∀ m s l,H.get o = some (.iter m s l)→∀ q∈V.refs m,H.get q = H'.get q
theorem iM.sub {H H':ae} {os os':List Nat} (h:iM H H' os) (hs:∀ o∈os',o∈os):iM H H' os':=⟨fun o ho=>h.one o (hs o ho),fun o ho=>h.two o (hs o ho),fun o ho=>h.three o (hs o ho)⟩
theorem A5 {H H':ae} {vs:List V} (h:∀ o∈aR H vs,H.get o = H'.get o):iM H H' (V.refss vs) :=
 ⟨fun o ho=>h o (NO ho),fun o ho cs hb q hq=>h q (Gu ho hb hq),fun o ho m s l hb q hq=>h q (EK ho hb hq)⟩
theorem u6 {H H':ae} {vs:List V} (h:iM H H' (V.refss vs)):aR H vs = aR H' vs:=by
 unfold aR
 congr 1
 have:∀ (l:List Nat),(∀ o∈l,H.get o = H'.get o)→l.flatMap (fun o=>match H.get o with | some (.box cs)=>V.refss cs | some (.iter m _ _)=>V.refs m | _=>[]) = l.flatMap (fun o=>match H'.get o with | some (.box cs)=>V.refss cs | some (.iter m _ _)=>V.refs m | _=>[]):=by
  intro l
  induction l with
  | nil=>intro _;rfl
  | cons x l ih =>
   intro hl
   rw [List.flatMap_cons,List.flatMap_cons,hl x (by simp),ih fun o ho=>hl o (by simp [ho])]
 exact this _ h.one
theorem Ny {H H':ae} {vs:List V} (h:iM H H' (V.refss vs)) {o:Nat} (ho:o∈aR H vs):H.get o = H'.get o:=by
 unfold aR at ho
 rcases List.mem_append.1 ho with ho | ho
 ·exact h.one o ho
 ·obtain ⟨q,hq,ho⟩:=List.mem_flatMap.1 ho
  cases hg:H.get q with
  | none=>rw [hg] at ho;simp at ho
  | some b =>
   rw [hg] at ho
   cases b with
   | box cs=>exact h.two q hq cs hg o ho
   | row t k n=>simp at ho
   | raw x=>simp at ho
   | map=>simp at ho
   | iter m s l=>exact h.three q hq m s l hg o ho
theorem Gz {H H':ae} {vs:List V} (h:iM H H' (V.refss vs)):ny H vs = ny H' vs:=by
 unfold ny
 rw [← u6 h]
 have key:∀ l:List Nat,(∀ o∈l,H.get o = H'.get o)→(l.all fun o=>G4 (H.get o)) = (l.all fun o=>G4 (H'.get o))∧(l.flatMap fun o=>o7 (H.get o)) = l.flatMap fun o=>o7 (H'.get o):=by
  intro l
  induction l with
  | nil=>intro _;exact ⟨rfl,rfl⟩
  | cons x l ih =>
   intro h
   obtain ⟨i1,i2⟩:=ih fun o ho=>h o (by simp [ho])
   rw [List.all_cons,List.all_cons,List.flatMap_cons,List.flatMap_cons,h x (by simp),i1,i2]
   exact ⟨rfl,rfl⟩
 obtain ⟨k1,k2⟩:=key _ fun o ho=>Ny h ho
 rw [k1,k2]
theorem J3 {H H':ae} {v:V} (h:∀ o∈v.refs,H.get o = H'.get o):pz H v = pz H' v:=by
 cases v with
 | row o k=>simp only [pz,xa (h o (by simp [V.refs]))]
 | sub o k off n=>simp only [pz,xo (h o (by simp [V.refs]))]
 | _=>rfl
theorem LF {H H':ae} {o k i j:Nat} (h:iM H H' [o]):HG H o k i j = HG H' o k i j:=by
 unfold HG
 have h1:=h.one o (by simp)
 cases hg:H.get o with
 | none=>rw [← h1,hg]
 | some ob =>
  cases ob with
  | row t k' n=>rw [← h1,hg]
  | raw x=>rw [← h1,hg]
  | map=>rw [← h1,hg]
  | iter m s l=>rw [← h1,hg]
  | box cs =>
   have:cs.map (pz H) = cs.map (pz H'):=List.map_congr_left fun v hv=>J3 fun q hq=>by
    obtain ⟨i,hi⟩:=List.getElem?_of_mem hv
    exact h.two o (by simp) cs hg q (ca hi hq)
   rw [← h1,hg]
   simp only [this]
mutual
theorem view_agree {H H':ae}:∀ (v:V),iM H H' v.refs→v.view H = v.view H'
 | .c .nil,_=>rfl
 | .c .unk,_=>rfl
 | .c (.lit _),_=>rfl
 | .c (.opt ..),_=>rfl
 | .c .any,_=>rfl
 | .c (.sl ..),_=>rfl
 | .agg vs,h=>by rw [V.view,V.view,views_agree vs h]
 | .tup vs,h=>by rw [V.view,V.view,views_agree vs h]
 | .ptr o k i j,h=>by rw [V.view,V.view];exact LF h
 | .row o k,h=>by rw [V.view,V.view];exact xa (h.one o (by simp [V.refs]))
 | .sub o k off n,h=>by rw [V.view,V.view];exact xo (h.one o (by simp [V.refs]))
 | .dptr ..,_=>by rw [V.view,V.view]
 | .fn f vs,h=>by rw [V.view,V.view,views_agree vs h]
theorem views_agree {H H':ae}:∀ (vs:List V),iM H H' (V.refss vs)→V.views H vs = V.views H' vs
 | [],_=>rfl
 | v :: r,h=>by
  rw [V.views,V.views,view_agree v (h.sub fun o ho=>by simp [V.refss,ho]),views_agree r (h.sub fun o ho=>by simp [V.refss,ho])]
end
mutual
theorem viewN_agree {H H':ae}:∀ (v:V),v.noP = true→(∀ o∈v.refs,H.get o = H'.get o)→v.view H = v.view H'
 | .c d,_,_=>by cases d <;> rfl
 | .agg vs,hn,h=>by rw [V.view,V.view,viewsN_agree vs (by simpa [V.noP] using hn) h]
 | .tup vs,hn,h=>by rw [V.view,V.view,viewsN_agree vs (by simpa [V.noP] using hn) h]
 | .ptr o k i j,hn,_=>by simp [V.noP] at hn
 | .row o k,_,h=>by rw [V.view,V.view];exact xa (h o (by simp [V.refs]))
 | .sub o k off n,_,h=>by rw [V.view,V.view];exact xo (h o (by simp [V.refs]))
 | .dptr ..,_,_=>by rw [V.view,V.view]
 | .fn f vs,hn,h=>by rw [V.view,V.view,viewsN_agree vs (by simpa [V.noP] using hn) h]
theorem viewsN_agree {H H':ae}:∀ (vs:List V),V.noPs vs = true→(∀ o∈V.refss vs,H.get o = H'.get o)→V.views H vs = V.views H' vs
 | [],_,_=>rfl
 | v :: r,hn,h=>by
  rw [V.noPs,Bool.and_eq_true] at hn
  rw [V.views,V.views,viewN_agree v hn.1 (fun o ho=>h o (by simp [V.refss,ho])),viewsN_agree r hn.2 (fun o ho=>h o (by simp [V.refss,ho]))]
end
theorem Kf {C:FuncId→Option CC} {f:FuncId} {nid:Nat} {H H':ae} {vs:List V} (h:∀ o∈V.refss vs,H.get o = H'.get o):rr C f nid H vs = rr C f nid H' vs:=by
 unfold rr
 cases hn:V.noPs vs with
 | false=>rfl
 | true =>
  rw [cond_true,cond_true]
  cases hc:C f with
  | none=>rfl
  | some con =>
   match con,hc with
   | .mut m,hc=>rfl
   | .pure con,hc =>
    simp only
    unfold ja
    rw [hc]
    simp only
    rw [viewsN_agree vs hn h]
theorem Nd (o:Nat) (t:Ty) (l:List t.T):∀ vs:List V, ∀ x∈V.refss (V.fzs o t l vs),x∈V.refss vs:=fzr2 o t l
where
  fzr1 (o:Nat) (t:Ty) (l:List t.T):∀ d:V, ∀ x∈(d.fz o t l).refs,x∈d.refs
  | .c _,x,h=>by simp [V.fz,V.refs] at h
  | .agg vs,x,h=>by rw [V.fz,V.refs] at h;rw [V.refs];exact fzr2 o t l vs x h
  | .tup vs,x,h=>by rw [V.fz,V.refs] at h;rw [V.refs];exact fzr2 o t l vs x h
  | .ptr o' k' i j,x,h=>by
    rw [V.fz] at h
    cases hb:Nat.beq o' o with
    | false=>rw [hb,cond_false] at h;exact h
    | true=>rw [hb,cond_true] at h;simp [V.refs] at h
  | .row o' k',x,h=>by
    rw [V.fz] at h
    cases hb:Nat.beq o' o with
    | false=>rw [hb,cond_false] at h;exact h
    | true =>
      rw [hb,cond_true] at h
      cases hk:Nat.beq t.k k' <;> rw [hk] at h <;> simp [V.refs] at h
  | .sub o' k' i j,x,h=>by
    rw [V.fz] at h
    cases hb:Nat.beq o' o with
    | false=>rw [hb,cond_false] at h;exact h
    | true =>
      rw [hb,cond_true] at h
      cases hk:Nat.beq t.k k' <;> rw [hk] at h <;> simp [V.refs] at h
  | .dptr ..,x,h=>by rw [V.fz] at h;exact h
  | .fn _ vs,x,h=>by rw [V.fz,V.refs] at h;rw [V.refs];exact fzr2 o t l vs x h
  fzr2 (o:Nat) (t:Ty) (l:List t.T):∀ vs:List V, ∀ x∈V.refss (V.fzs o t l vs),x∈V.refss vs
  | [],x,h=>by simp [V.fzs,V.refss] at h
  | v :: r,x,h=>by
    rw [V.fzs,V.refss,List.mem_append] at h
    rw [V.refss,List.mem_append]
    exact h.imp (fzr1 o t l v x) (fzr2 o t l r x)
theorem qe {f:ae→List V→Option aH} (hf:∀ H H' vs,(∀ o∈V.refss vs,ae.get H o = ae.get H' o)→f H vs = f H' vs):∀ (fl:List Nat) (H H':ae) (vs:List V),(∀ o∈fl,H.get o = H'.get o)→(∀ o∈V.refss vs,H.get o = H'.get o)→jW f fl H vs = jW f fl H' vs
 | [],H,H',vs,_,h=>hf H H' vs h
 | q :: fl,H,H',vs,h,h2=>by
  rw [jW,jW, ← h q (by simp)]
  split
  ·next e t l hg =>
   refine congrArg _ (qe hf fl _ _ _ (fun o ho=>?_) fun o ho=>?_)
   ·simp only [ae.get_cons,eG,h o (by simp [ho])]
   ·simp only [ae.get_cons,eG,h2 o (Nd q t l vs o ho)]
  ·rfl
theorem CO {H H':ae} {t:Ty} {v:V} (h:∀ o∈v.refs,H.get o = H'.get o):bV H t v = bV H' t v:=by
 unfold bV
 cases v with
 | row q k=>simp only [h q (by simp [V.refs])]
 | sub q k off n=>simp only [h q (by simp [V.refs])]
 | c d=>cases d <;> rfl
 | _=>rfl
theorem J4 {P:Program} {H H':ae} {t:TypeId} {a:V} (h:∀ o∈a.refs,H.get o = H'.get o):nQ P H t a = nQ P H' t a:=by
 unfold nQ
 cases a with
 | ptr q k i j=>simp only [h q (by simp [V.refs])]
 | _=>rfl
theorem sC {P:Program} {H H':ae} {t:TypeId} {a b:V} (h:∀ o∈a.refs,H.get o = H'.get o):p9 P H t a b = p9 P H' t a b:=by
 unfold p9
 cases a with
 | ptr q k i j=>simp only [h q (by simp [V.refs])]
 | _=>rfl
theorem Hk {P:Program} {H H':ae} {t:TypeId} {vs:List V} (h:∀ o∈V.refss vs,H.get o = H'.get o):vS P t H vs = vS P t H' vs:=by
 unfold vS
 split
 ·next a x=>exact sC fun q hq=>h q (by simp [V.refss,hq])
 ·rfl
theorem Hy {P:Program} {H H':ae} {t:TypeId} {a b:V} (h:∀ o∈V.refss [a,b],H.get o = H'.get o):vY P H t a b = vY P H' t a b:=by
 unfold vY
 cases a with
 | ptr q k i j =>
  have hq:=h q (by simp [V.refss,V.refs])
  simp only [← hq]
  split
  ·exact qe (f:=vS P t) (fun H H' vs h=>Hk h) (V.refs b) H H' _ (fun o ho=>h o (by simp [V.refss,ho])) h
  ·exact sC fun o ho=>h o (by simp [V.refss,ho])
 | _=>exact sC fun o ho=>h o (by simp [V.refss,ho])
theorem mx {H H':ae} {m:V} (h:∀ o∈m.refs,H.get o = H'.get o):ov H m = ov H' m:=by
 unfold ov
 split
 ·next f o k i j=>rw [h o (by simp [V.refs,V.refss])]
 ·rfl
theorem LB {P:Program} {H H':ae} {t:TypeId} {a:V} (h:∀ o∈a.refs,H.get o = H'.get o):wv P H t a = wv P H' t a:=by
 unfold wv
 generalize P.underlying t = u
 cases u with
 | none=>rfl
 | some u =>
  cases a with
  | row q k =>
   have hq:=h q (by simp [V.refs])
   cases u <;> first | rfl | simp only [hq]
  | c d =>
   cases d with
   | lit v=>cases v <;> cases u <;> rfl
   | _=>cases u <;> rfl
  | fn f vs =>
   have e:=mx (m:=.fn f vs) h
   cases u <;> first | rfl | simp only [e]
  | _=>cases u <;> rfl
theorem oe {P:Program} {H H':ae} {t:TypeId} {a:V} {lo hi:Option V} (h:∀ o∈a.refs,H.get o = H'.get o):nR P H t a lo hi = nR P H' t a lo hi:=by
 unfold nR
 generalize P.underlying t = u
 cases u with
 | none=>rfl
 | some u =>
  cases a with
  | row q k =>
   have hq:=h q (by simp [V.refs])
   cases u <;> first | rfl | simp only [hq]
  | c d =>
   cases d with
   | lit v=>cases v <;> cases u <;> rfl
   | _=>cases u <;> rfl
  | _=>cases u <;> rfl
theorem BS {P:Program} {H H':ae} {t:TypeId} {a b:V} (h:∀ o∈a.refs,H.get o = H'.get o):lw P H t a b = lw P H' t a b:=by
 unfold lw
 generalize P.underlying t = u
 by_cases hb:∃ kk i,b = .c (.lit (.int kk i))
 ·obtain ⟨kk,i,rfl⟩:=hb
  cases u with
  | none=>rfl
  | some u =>
   cases a with
   | row q k =>
    have hq:=h q (by simp [V.refs])
    cases u <;> first | rfl | simp only [hq]
   | ptr q k i j =>
    have hq:=h q (by simp [V.refs])
    cases u <;> first | rfl | simp only [hq]
   | c d=>cases d <;> cases u <;> rfl
   | _=>cases u <;> rfl
 ·split <;> first | rfl | exact (hb ⟨_,_,rfl⟩).elim | (split <;> first | rfl | exact (hb ⟨_,_,rfl⟩).elim)
theorem Iy {P:Program} {H H':ae} {t:TypeId} {a:V} (h:∀ o∈a.refs,H.get o = H'.get o):qE P H t a = qE P H' t a:=by
 unfold qE
 cases a with
 | row q k=>simp only [h q (by simp [V.refs])]
 | sub q k off n=>simp only [h q (by simp [V.refs])]
 | _=>rfl
theorem GR {P:Program} {H H':ae} {nid:Nat} {t:TypeId} {s x:V} (h:∀ o∈s.refs,H.get o = H'.get o) (hx:∀ o∈x.refs,H.get o = H'.get o):nF P H nid t s x = nF P H' nid t s x:=by
 unfold nF
 have e:∀ ty,bV H ty x = bV H' ty x:=fun ty=>CO hx
 cases s with
 | row q k=>simp only [h q (by simp [V.refs]),e]
 | c d=>cases d <;> simp only [e]
 | _=>rfl
theorem Ko {H H':ae} {a:V} (h:∀ o∈a.refs,H.get o = H'.get o):Ah H a = Ah H' a:=by
 unfold Ah
 cases a with
 | ptr q k i j=>simp only [h q (by simp [V.refs])]
 | _=>rfl
theorem GU {H H':ae} {t:TypeId} {m k:V} {ok:Bool} (h:∀ o∈m.refs,H.get o = H'.get o):se P H t m k ok = se P H' t m k ok:=by
 unfold se
 rw [mx h]
theorem Kc {H H':ae} {t:TypeId} {vs:List V} (h:∀ o∈V.refss vs,H.get o = H'.get o):xE P t H vs = xE P t H' vs:=by
 unfold xE
 split
 ·next m k v=>rw [mx fun o ho=>h o (by simp [V.refss,ho])]
 ·rfl
theorem Ir {H H':ae} {a:V} (h:iM H H' a.refs):vT H a = vT H' a:=by
 unfold vT
 cases a with
 | ptr q k i j =>
  have e:=h.one q (by simp [V.refs])
  simp only [e]
  cases hg:H'.get q with
  | none=>rfl
  | some b =>
   cases b with
   | iter m s l=>simp only [mx fun o ho=>h.three q (by simp [V.refs]) m s l (e.trans hg) o ho]
   | _=>rfl
 | _=>rfl
theorem Ic {P:Program} {H H':ae} {nid:Nat} {t:TypeId} {a:V} (h:∀ o∈a.refs,H.get o = H'.get o):vX P H nid t a = vX P H' nid t a:=by
 unfold vX
 rw [mx h]
theorem NZ {H H':ae} {nid:Nat} {o:Oper} {vs:List V} (h:iM H H' (V.refss vs)):qP P C H nid o vs = qP P C H' nid o vs:=by
 unfold qP
 split <;> try rfl
 ·exact qe (fun _ _ _ _=>rfl) _ _ _ _ (fun o ho=>h.one o ho) fun o ho=>h.one o ho
 ·exact J4 fun q hq=>h.one q (by simp [V.refss,hq])
 ·exact Hy fun q hq=>h.one q hq
 ·next a b x d _ =>
  have hx:bV H (.i .u8) d = bV H' (.i .u8) d:=CO fun q hq=>h.one q (by simp [V.refss,hq])
  unfold Co
  rw [hx]
 ·exact BS fun q hq=>h.one q (by simp [V.refss,hq])
 ·exact oe fun q hq=>h.one q (by simp [V.refss,hq])
 ·exact oe fun q hq=>h.one q (by simp [V.refss,hq])
 ·exact oe fun q hq=>h.one q (by simp [V.refss,hq])
 ·exact oe fun q hq=>h.one q (by simp [V.refss,hq])
 ·exact GU fun q hq=>h.one q (by simp [V.refss,hq])
 ·next t x y z m k v _=>exact qe (f:=xE P t) (fun _ _ _ h=>Kc h) (V.refs v) _ _ _ (fun o ho=>h.one o (by simp [V.refss,ho])) fun o ho=>h.one o ho
 ·next t x d _=>rw [Ic (P:=P) (H:=H) (H':=H') fun q hq=>h.one q (by simp [V.refss,hq])]
 ·exact Ko fun q hq=>h.one q (by simp [V.refss,hq])
 ·exact Ir (h.sub fun q hq=>by simp [V.refss,hq])
 ·next args ats x _ =>
  have hc:∀ t,wv P H t x = wv P H' t x:=fun t=>LB fun q hq=>h.one q (by simp [V.refss,hq])
  simp only [hc]
 ·next args ats x _ =>
  have hc:∀ t,qE P H t x = qE P H' t x:=fun t=>Iy fun q hq=>h.one q (by simp [V.refss,hq])
  simp only [hc]
 ·next args ats s x _ =>
  have ha:∀ t,nF P H nid t s x = nF P H' nid t s x:=fun t=>GR (fun q hq=>h.one q (by simp [V.refss,hq])) fun q hq=>h.one q (by simp [V.refss,hq])
  simp only [ha]
 ·next f args ats g caps ds _ =>
  unfold pU
  have hag:iM H H' (V.refss (ds++caps)):=by
   refine h.sub fun q hq=>?_
   have:∀ (l1 l2:List V),q∈V.refss (l1++l2)→q∈V.refss l1∨q∈V.refss l2:=by
    intro l1 l2
    induction l1 with
    | nil=>intro h;exact .inr h
    | cons x l ih =>
     intro h
     simp only [List.cons_append,V.refss,List.mem_append] at h ⊢
     rcases h with h | h
     ·exact .inl (.inl h)
     ·exact (ih h).imp .inr id
   simp only [V.refss,V.refs,List.mem_append]
   exact (this _ _ hq).symm
  have hr:bB (aR H (ds++caps)) H = bB (aR H' (ds++caps)) H':=by
   rw [← u6 hag]
   refine AZ _ fun o ho=>?_
   rcases List.mem_append.1 ho with ho | ho
   ·exact hag.one o ho
   ·obtain ⟨q,hq,ho⟩:=List.mem_flatMap.1 ho
    cases hg:H.get q with
    | none=>rw [hg] at ho;simp at ho
    | some b =>
     cases b with
     | box cs=>rw [hg] at ho;exact hag.two q hq cs hg o ho
     | row t k n=>rw [hg] at ho;simp at ho
     | raw x=>rw [hg] at ho;simp at ho
     | map=>rw [hg] at ho;simp at ho
     | iter m s l=>rw [hg] at ho;exact hag.three q hq m s l hg o ho
  have h0:ja C H nid g (ds++caps) = ja C H' nid g (ds++caps):=by
   unfold ja
   rw [views_agree _ hag,hr]
  have h1:=qe (f:=rr C g nid) (fun _ _ _ h=>Kf h) (V.refss (ds++caps)) H H' (ds++caps) hag.one hag.one
  rw [h0,h1]
end
end Go.Ax
namespace Go.Ax
open Go.RowKit
section
variable {P:Program} {N:Nat} {B:fh} {σ σ':St} {E:au} {a:Act} {w:World} {C:FuncId→Option CC} {all:List Oper}
def cD:List Nat→Option Ob→Option Ob
 | [],b=>b
 | o :: r,b=>cD r (mn o b)
theorem yz:∀ (kl:List Nat) (H:ae) (q:Nat),ae.get (d7 kl H) q = cD kl (ae.get H q)
 | [],H,q=>rfl
 | o :: r,H,q=>by
  have h1:=eG o H q
  rw [d7,yz r,cD]
  simp only [d7] at h1
  rw [h1]
theorem rM:∀ (A H:ae) (q:Nat),ae.get (A++H) q = if q∈cW A then ae.get A q else ae.get H q
 | [],H,q=>by simp [cW]
 | (p,b) :: A,H,q=>by
  rw [List.cons_append,ae.get_cons,ae.get_cons,rM A H q]
  by_cases h:p = q
  ·subst h;simp [cW]
  ·simp only [if_neg h,cW,List.map_cons,List.mem_cons]
   have:¬ q = p:=fun e=>h e.symm
   simp only [this,false_or]
   rfl
theorem hZ (r:bA) (q:Nat):ae.get (after σ r).hp q = if q∈cW r.res.eff then ae.get r.res.eff q else cD r.res.kill (ae.get σ.hp q):=by
 rw [after,rM,yz]
def oK (dst:Option Nat) (s:aF):aF:=match dst with | some d=>bif s.ch.any (fun y=>Nat.beq y.1 d) then ⟨[], .c .unk⟩ else s | none=>s
theorem ia (r:bA) (t:Nat):aw (after σ r).tm t = if r.dst = some t then some ⟨r.ch,r.res.val⟩ else (aw σ.tm t).map fun s=>oK r.dst ⟨s.ch,s.v.killAll r.res.kill⟩:=by
 unfold after oK
 cases hd:r.dst with
 | none=>simp only [reduceCtorEq,if_false];rw [lO]
 | some d =>
  simp only [Option.some.injEq]
  rw [kC]
  split
  ·rfl
  ·rw [sT,lO]
   cases aw σ.tm t <;> rfl
theorem xm {d:Option Nat} {t:Nat}:t∈lZ d↔d = some t:=by
 cases d with
 | none=>simp [lZ]
 | some x=>simp [lZ,eq_comm]
theorem Nf {r:bA} {t:Nat} {s:aF} (h:aw (after σ r).tm t = some s) (ht:t ∉ lZ r.dst) (hn:s.v.noUnk = true):aw σ.tm t = some s:=by
 rw [ia,if_neg (fun e=>ht (xm.2 e))] at h
 cases hx:aw σ.tm t with
 | none=>rw [hx] at h;cases h
 | some y =>
  rw [hx] at h
  simp only [Option.map_some,Option.some.injEq] at h
  have:oK r.dst ⟨y.ch,y.v.killAll r.res.kill⟩ = ⟨y.ch,y.v.killAll r.res.kill⟩:=by
   unfold oK
   cases hd:r.dst with
   | none=>rfl
   | some d =>
    simp only
    cases hc:y.ch.any (fun z=>Nat.beq z.1 d) with
    | false=>rfl
    | true =>
     simp only [oK,hd,hc,cond_true] at h
     subst h
     simp [V.noUnk] at hn
  rw [this] at h
  subst h
  have:=mE _ _ hn
  obtain ⟨ych,yv⟩:=y
  simp only at this ⊢
  rw [this]
theorem MK {r:bA} {t:Nat} {s:aF} (h:aw σ.tm t = some s) (ht:t ∉ lZ r.dst) (hk:∀ q∈s.v.refs,q ∉ r.res.kill) (hc:∀ x∈s.ch,x.1 ∉ lZ r.dst):aw (after σ r).tm t = some s:=by
 rw [ia,if_neg (fun e=>ht (xm.2 e)),h]
 simp only [Option.map_some,Option.some.injEq]
 have e1:s.v.killAll r.res.kill = s.v:=ji _ _ hk
 rw [e1]
 unfold oK
 cases hd:r.dst with
 | none=>rfl
 | some d =>
  simp only
  have:s.ch.any (fun z=>Nat.beq z.1 d) = false:=by
   refine List.any_eq_false.2 fun x hx=>?_
   have:=hc x hx
   rw [hd] at this
   intro hb
   exact this (by simp [lZ,Nat.eq_of_beq_eq_true hb])
  rw [this]
  rfl
theorem jC:∀ {xs:List Operand} {t:Nat},t∈kN xs↔Operand.tmp t∈xs
 | [],t=>by simp [kN]
 | .tmp q :: r,t=>by simp [kN,jC (xs:=r)]
 | .const v :: r,t=>by simp [kN,jC (xs:=r)]
 | .global g :: r,t=>by simp [kN,jC (xs:=r)]
 | .func f :: r,t=>by simp [kN,jC (xs:=r)]
theorem nv {c ch:aN} (h:pV c ch = true):∀ x∈c,x.1∈ch.map (·.1):=by
 intro x hx
 have:=List.all_eq_true.1 h x hx
 unfold Pa at this
 obtain ⟨y,hy,hyx⟩:=List.any_eq_true.1 this
 simp only [Bool.and_eq_true,Nat.beq_eq] at hyx
 rw [hyx.1]
 exact List.mem_map.2 ⟨y,hy,rfl⟩
theorem Dw:∀ {vs:List V} {v:V},V.noUnks vs = true→v∈vs→v.noUnk = true
 | x :: r,v,h,hv=>by
  simp only [V.noUnks,Bool.and_eq_true] at h
  rcases List.mem_cons.1 hv with rfl | hv
  ·exact h.1
  ·exact Dw h.2 hv
theorem ug {ch:aN} {t:Nat} {v:V} (h:bM σ ch (.tmp t) = some v):∃ s,aw σ.tm t = some s∧pV s.ch ch = true∧s.v = v:=by
 unfold bM at h
 cases hl:Nat.blt t 1000000 with
 | false=>simp [hl] at h
 | true =>
  simp only [hl,cond_true] at h
  split at h
  ·next s hg =>
   cases hc:pV s.ch ch with
   | false=>simp [hc] at h
   | true=>simp only [hc,cond_true,Option.some.injEq] at h;exact ⟨s,hg,hc,h⟩
  ·cases h
theorem CK {ch:aN}:∀ {xs:List Operand} {vs:List V},ld σ ch xs = some vs→∀ x∈xs, ∃ v∈vs,bM σ ch x = some v
 | [],vs,h,x,hx=>by simp at hx
 | y :: xs,vs,h,x,hx=>by
  unfold ld at h
  rw [List.mapM_cons] at h
  simp only [Option.bind_eq_bind,Option.pure_def,Option.bind_eq_some_iff,Option.some.injEq] at h
  obtain ⟨d,hd,ds,hds,rfl⟩:=h
  rcases List.mem_cons.1 hx with rfl | hx
  ·exact ⟨d,by simp,hd⟩
  ·obtain ⟨v,hv,h⟩:=CK (xs:=xs) hds x hx
   exact ⟨v,by simp [hv],h⟩
theorem J1 {ch:aN} {c x y:Operand} {v:V} (h:pD σ ch c x y = some v) :
  ∃ b p q:Bool,bM σ ch c = some (bl b)∧bM σ (pw c true ch) x = some (bl p)∧bM σ (pw c false ch) y = some (bl q)∧v = bl (bif b then p else q):=by
 unfold pD at h
 split at h
 ·next b hc =>
  split at h
  ·next p q hx hy=>cases h;exact ⟨b,p,q,hc,hx,hy,rfl⟩
  ·cases h
 ·cases h
theorem Gp {c:Operand} {wt:Bool} {ch:aN} {i:Nat} (h:i∈(pw c wt ch).map (·.1)):i∈ch.map (·.1)∨c = .tmp i:=by
 unfold pw at h
 split at h
 ·simp only [List.map_cons,List.mem_cons] at h
  rcases h with rfl | h
  ·exact .inr rfl
  ·exact .inl h
 ·exact .inl h
theorem L8 {nid:Nat} {o:Oper} {rc:bA} (h:tc P C N all σ nid o = some rc) (hn:V.noUnks rc.vs = true) {t:Nat} (ht:t∈rc.rds) :
  ∃ s,aw σ.tm t = some s∧s.v.noUnk = true∧(∀ x∈s.ch,x.1∈rc.rds)∧∀ q∈s.v.refs,q∈V.refss rc.vs:=by
 obtain ⟨hd,hch,hb,hr,hc,e1,e2,e3,e4,e5⟩:=nu h
 have hids:∀ i,i∈rc.ch.map (·.1)→i∈rc.rds:=fun i hi=>by rw [e3];exact List.mem_append_right _ hi
 have hbool:∀ {s:aF} {b:Bool},s.v = bl b→s.v.noUnk = true∧∀ q∈s.v.refs,q∈V.refss rc.vs:=by
  intro s b e;rw [e];exact ⟨rfl,fun q hq=>by simp [V.refs] at hq⟩
 rw [e3,List.mem_append] at ht
 rcases ht with ht | ht
 ·have hto:=jC.1 ht
  unfold kW at hr
  split at hr
  ·next c x y ho =>
   cases hv:pD σ rc.ch c x y with
   | none =>
    simp only [hv] at hr
    cases hv2:uy σ rc.ch c x y with
    | none=>simp [hv2] at hr
    | some v =>
     simp only [hv2,Option.map_some,Option.some.injEq,Prod.mk.injEq] at hr
     rw [← hr.1] at hn
     cases hn
   | some v =>
    obtain ⟨b,p,q,h1,h2,h3,_⟩:=J1 hv
    have hcr:∀ i,c = .tmp i→i∈rc.rds:=fun i hi=>by rw [e3,ho];exact List.mem_append_left _ (jC.2 (by simp [du,Op.operands,hi]))
    rw [ho] at hto
    have hto':Operand.tmp t = c∨Operand.tmp t = x∨Operand.tmp t = y:=by simpa [du,Op.operands] using hto
    rcases hto' with rfl | rfl | rfl
    ·obtain ⟨s,g1,g2,g3⟩:=ug h1
     exact ⟨s,g1,(hbool g3).1,fun z hz=>hids _ (nv g2 z hz),(hbool g3).2⟩
    ·obtain ⟨s,g1,g2,g3⟩:=ug h2
     exact ⟨s,g1,(hbool g3).1,fun z hz=>(Gp (nv g2 z hz)).elim (hids _) (hcr _),(hbool g3).2⟩
    ·obtain ⟨s,g1,g2,g3⟩:=ug h3
     exact ⟨s,g1,(hbool g3).1,fun z hz=>(Gp (nv g2 z hz)).elim (hids _) (hcr _),(hbool g3).2⟩
  ·next op hnp =>
   split at hr
   ·next vs hvs =>
    cases hov:zd P C σ.hp nid rc.ch o vs with
    | none=>simp [hov] at hr
    | some r =>
     simp only [hov,Option.map_some,Option.some.injEq,Prod.mk.injEq] at hr
     obtain ⟨rfl,_⟩:=hr
     obtain ⟨v,hv,hov'⟩:=CK hvs _ hto
     obtain ⟨s,g1,g2,rfl⟩:=ug hov'
     refine ⟨s,g1,Dw hn hv,fun z hz=>hids _ (nv g2 z hz),fun q hq=>?_⟩
     obtain ⟨i,hi⟩:=List.getElem?_of_mem hv
     exact ca hi hq
   ·cases hr
 ·obtain ⟨x,hx,rfl⟩:=List.mem_map.1 ht
  have hg:=List.all_eq_true.1 hb x hx
  unfold dv at hg
  split at hg
  ·next s hs =>
   simp only [Bool.and_eq_true] at hg
   have:∃ b,s.v = bl b:=by
    have:=hg.1
    unfold V.isBool at this
    split at this
    ·next b e=>exact ⟨b,e⟩
    ·cases this
   obtain ⟨b,hbv⟩:=this
   exact ⟨s,hs,(hbool hbv).1,fun z hz=>hids _ (nv hg.2 z hz),(hbool hbv).2⟩
  ·cases hg
theorem QG {H H':ae} {nid:Nat} {o:Oper} {vs:List V} (h:iM H H' (V.refss (lk o vs))):qP P C H nid o vs = qP P C H' nid o vs:=by
 unfold lk at h
 split at h
 ·next x ho =>
  unfold qP
  rw [ho]
  rcases vs with _ | ⟨a,_ | ⟨b,r⟩⟩ <;> rfl
 ·exact NZ h
theorem Bc {o:Oper} {ch:aN} (hch:cC all σ.tm o.guard = some ch) (hb:ch.all (fun x=>dv σ.tm ch x.1) = true) (hid:∀ x∈ch,aw σ'.tm x.1 = aw σ.tm x.1) :
  cC all σ'.tm o.guard = some ch∧ch.all (fun x=>dv σ'.tm ch x.1) = true:=by
 have g1:cC all σ'.tm o.guard = some ch:=by
  have hch':=hch
  unfold cC at hch ⊢
  split at hch
  ·exact hch
  ·next j wt _ =>
   split at hch
   ·next oj hj =>
    split at hch
    ·next t ht =>
     cases hl:Nat.blt t 1000000 with
     | false=>simp [hl] at hch
     | true =>
      simp only [hl,cond_true] at hch ⊢
      split at hch
      ·next ch' b hg =>
       simp only [Option.some.injEq] at hch
       have:=hid (t,wt) (by rw [← hch];simp)
       rw [this,hg]
       simp only [hch]
      ·cases hch
    ·cases hch
   ·cases hch
 have g2:ch.all (fun x=>dv σ'.tm ch x.1) = true:=by
  refine List.all_eq_true.2 fun x hx=>?_
  have:=List.all_eq_true.1 hb x hx
  unfold dv at this ⊢
  rw [hid x hx]
  exact this
 exact ⟨g1,g2⟩
theorem Ls {nid:Nat} {o:Oper} {rc:bA} (h:tc P C N all σ nid o = some rc) (hA:∀ t∈rc.rds,aw σ'.tm t = aw σ.tm t) (hB:iM σ.hp σ'.hp (V.refss (lk o rc.vs))) :
  tc P C N all σ' nid o = some rc∧holds σ'.tm rc.ch = holds σ.tm rc.ch:=by
 obtain ⟨hd,hch,hb,hr,hc,e1,e2,e3,e4,e5⟩:=nu h
 have hid:∀ x∈rc.ch,aw σ'.tm x.1 = aw σ.tm x.1:=fun x hx=>hA _ (by rw [e3];exact List.mem_append_right _ (List.mem_map.2 ⟨x,hx,rfl⟩))
 have hop:∀ (x:Operand),x∈du o.op→∀ ch,bM σ' ch x = bM σ ch x:=by
  intro x hx ch
  cases x with
  | tmp t=>unfold bM;simp only [hA t (by rw [e3];exact List.mem_append_left _ (jC.2 hx))]
  | _=>rfl
 obtain ⟨g1,g2⟩:=Bc hch hb hid
 have g3:kW P C σ' nid rc.ch o = some (rc.vs,rc.res):=by
  rw [← hr]
  unfold kW at hr ⊢
  split
  ·next c x y ho =>
   rw [ho] at hop
   have:pD σ' rc.ch c x y = pD σ rc.ch c x y:=by
    unfold pD
    rw [hop c (by simp [du,Op.operands]),hop x (by simp [du,Op.operands]),hop y (by simp [du,Op.operands])]
   have this2:uy σ' rc.ch c x y = uy σ rc.ch c x y:=by
    unfold uy
    rw [hop c (by simp [du,Op.operands]),hop x (by simp [du,Op.operands]),hop y (by simp [du,Op.operands])]
   rw [this,this2]
  ·next op hnp =>
   have:∀ (xs:List Operand),(∀ x∈xs,x∈du o.op)→ld σ' rc.ch xs = ld σ rc.ch xs:=by
    intro xs
    induction xs with
    | nil=>intro _;rfl
    | cons x l ih =>
     intro hx
     unfold ld at ih ⊢
     rw [List.mapM_cons,List.mapM_cons,hop x (hx x (by simp)),ih fun z hz=>hx z (by simp [hz])]
   rw [this _ fun x hx=>hx]
   split at hr
   ·next c x y ho=>exact (hnp c x y ho).elim
   ·split at hr
    ·next vs hvs =>
     cases hov:zd P C σ.hp nid rc.ch o vs with
     | none=>simp [hov] at hr
     | some r =>
      simp only [hov,Option.map_some,Option.some.injEq,Prod.mk.injEq] at hr
      obtain ⟨rfl,_⟩:=hr
      have:zd P C σ'.hp nid rc.ch o rc.vs = zd P C σ.hp nid rc.ch o rc.vs:=by unfold zd;rw [QG hB]
      rw [this,hov]
    ·cases hr
 have hreach:aR σ'.hp (lk o rc.vs) = rc.reach:=by rw [e4];exact (u6 hB).symm
 have hrows:ny σ'.hp (lk o rc.vs) = rc.rws:=by rw [e5];exact (Gz hB).symm
 refine ⟨?_,iD _ fun x hx=>by rw [hid x hx]⟩
 unfold tc
 rw [hd,cond_true,g1]
 simp only
 rw [g2,cond_true,g3]
 simp only
 rw [hc,cond_true,hreach,hrows]
 rw [← e1, ← e2, ← e3]
theorem eX.slots {nid:Nat} {o:Oper} {rc:bA} (h:eX P C N all σ nid o rc) (hn:V.noUnks rc.vs = true) {t:Nat} (ht:t∈rc.rds) :
  ∃ s,aw σ.tm t = some s∧s.v.noUnk = true∧(∀ x∈s.ch,x.1∈rc.rds)∧∀ q∈s.v.refs,q∈V.refss rc.vs:=by
 rcases h with ⟨h,_⟩ | ⟨e,_,_,hb,_,_⟩
 ·exact L8 h hn ht
 ·have e3:rc.rds = rc.ch.map (·.1):=by rw [e];rfl
  rw [e3] at ht
  obtain ⟨x,hx,rfl⟩:=List.mem_map.1 ht
  have hg:=List.all_eq_true.1 hb x hx
  unfold dv at hg
  split at hg
  ·next s hs =>
   simp only [Bool.and_eq_true] at hg
   have hv:=hg.1
   unfold V.isBool at hv
   split at hv
   ·next b e=>exact ⟨s,hs,by rw [e];rfl,fun z hz=>by rw [e3];exact nv hg.2 z hz,fun q hq=>by rw [e] at hq;simp [V.refs] at hq⟩
   ·cases hv
  ·cases hg
theorem eX.parts {nid:Nat} {o:Oper} {rc:bA} (h:eX P C N all σ nid o rc):(∀ x∈rc.ch,x.1∈rc.rds)∧rc.reach = aR σ.hp (lk o rc.vs)∧rc.rws = ny σ.hp (lk o rc.vs):=by
 rcases h with ⟨h,_⟩ | ⟨e,_⟩
 ·obtain ⟨_,_,_,_,_,_,_,e3,e4,e5⟩:=nu h
  exact ⟨fun x hx=>by rw [e3];exact List.mem_append_right _ (List.mem_map.2 ⟨x,hx,rfl⟩),e4,e5⟩
 ·have e6:lk o rc.vs = []:=by rw [e];unfold lk;split <;> rfl
  rw [e6]
  exact ⟨fun x hx=>by rw [show rc.rds = rc.ch.map (·.1) by rw [e];rfl];exact List.mem_map.2 ⟨x,hx,rfl⟩,by rw [e];rfl,by rw [e];rfl⟩
theorem eX.congr {nid:Nat} {o:Oper} {rc:bA} (h:eX P C N all σ nid o rc) (hA:∀ t∈rc.rds,aw σ'.tm t = aw σ.tm t) (hB:iM σ.hp σ'.hp (V.refss (lk o rc.vs))) :
  eX P C N all σ' nid o rc∧holds σ'.tm rc.ch = holds σ.tm rc.ch:=by
 have hp:=h.parts.1
 have hid:∀ x∈rc.ch,aw σ'.tm x.1 = aw σ.tm x.1:=fun x hx=>hA _ (hp x hx)
 have hh:holds σ'.tm rc.ch = holds σ.tm rc.ch:=iD _ fun x hx=>by rw [hid x hx]
 refine ⟨?_,hh⟩
 rcases h with ⟨h,hn⟩ | ⟨e,hd,hch,hb,hn,hf⟩
 ·exact .inl ⟨(Ls h hA hB).1,by rw [hh];exact hn⟩
 ·obtain ⟨g1,g2⟩:=Bc hch hb hid
  exact .inr ⟨e,hd,g1,g2,hn,hh.trans hf⟩
end
end Go.Ax
