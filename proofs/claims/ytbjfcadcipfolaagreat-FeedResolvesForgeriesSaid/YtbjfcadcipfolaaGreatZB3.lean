import Derived.Test.YtbjfcadcipfolaaGreatZB2m
import Derived.Maps.RangeRun
import Derived.Test.YtbjfcadcipfolaaGreatZB2m
import Derived.Test.YtbjfcadcipfolaaGreatZB2m
set_option linter.all false
/- Walks over strings, bytes as strings, parts that are cleared. -/
namespace Go.Ax
open Go.RowKit
section
variable {P:Program} {ρ:Operand→Value} {E:av} {w w':World} {o:Oper} {r:aF} {H:ae} {nid:Nat}
def RU (ok:Nat→Prop):av:=⟨fun _=>none,fun _=>0,fun _=>0,fun _=>False,ok⟩
theorem Q4 (hH:az E w H) (hf:¬ E.live nid) (x:Obj) (he:r.eff = [(nid,some (.raw x))]) (hk:r.kill = []) {v':Value}
  (hv:∀ (E':av) (w':World),E'.live nid→E'.conc nid = some w.heap.size→E'.len nid = 1→ai E' w' v' r.val) :
  cO E w H nid r (E.next nid (some w.heap.size) 0 1 E.ok) (w.alloc x) v':=by
 have hb:Below w.heap.size w (w.alloc x):=(Below.refl _ _).alloc (Nat.le_refl _) _
 have hcc:∀ b,some w.heap.size = some b→w.heap.size≤b∧b < (w.alloc x).heap.size∧¬ E.ok b:=by
  intro b e;cases e
  exact ⟨Nat.le_refl _,by simp,fun h=>by have:=hH.oklt _ h;omega⟩
 have hS:dH E w [] (E.next nid (some w.heap.size) 0 1 E.ok) (w.alloc x):=cZ hf _ 0 1 E.ok hb (fun b h=>(hcc b h).1) (fun _ h=>h) (fun _ h=>.inl h)
 have hN:=dw (cap:=0) (len:=1) hf hH hb hcc (fun _ h=>h) (fun _ h=>.inl h) (fun b h=>by have:=hH.oklt b h;simp;omega)
 have e1:(E.next nid (some w.heap.size) 0 1 E.ok).conc nid = some w.heap.size:=by simp [av.next]
 have e3:(E.next nid (some w.heap.size) 0 1 E.ok).len nid = 1:=by simp [av.next]
 refine ⟨by rw [hk];exact hS, ?_,hv _ _ (.inl rfl) e1 e3,bQ⟩
 rw [he,hk]
 exact lj hN (.inl rfl) ⟨e3,_,e1,heap_alloc_new w _⟩
theorem Mk (hH:az E w H) (hf:¬ E.live nid) {t:TypeId} {x:Operand} (ho:o.op = .range t x) {vx:V} (hx:ai E w (ρ x) vx) (h:I6 P nid t vx = some r) :
  ∃ E' w' v',(execOp ρ o).run P w = .ok (.value v') w'∧cO E w H nid r E' w' v':=by
 unfold I6 at h
 split at h
 ·next s hu =>
  cases h
  have ex:=hx.lit_inv
  refine ⟨_,w.alloc (.stringIter s 0), .pointer (some ⟨w.heap.size,0,none⟩), ?_,Q4 hH hf (.stringIter s 0) rfl rfl fun E' w' h1 h2 h3=>?_⟩
  ·have:=run_range_string (P:=P) w t s hu
   simp only [execOp,ho,ex,Sem.run_bind,this,Result.andThen_ok]
   rfl
  ·have:=ai.ptr (E:=E') (w:=w') nid 1 0 0 w.heap.size h1 h2 (by omega)
   simpa using this
 ·cases h
theorem K0 (hH:az E w H) (hf:¬ E.live nid) {t:TypeId} {x:Operand} (ho:o.op = .range t x) {vx:V} (hx:ai E w (ρ x) vx) (h:wv P H nid t vx = some r) :
  ∃ E' w' v',(execOp ρ o).run P w = .ok (.value v') w'∧cO E w H nid r E' w' v':=by
 unfold wv at h
 split at h
 ·next k e hu =>
  split at h
  ·next q tm kt vt ks vs hm =>
   cases h
   obtain ⟨bm,ex,hl,hc,hg⟩:=lU hH hx hm
   obtain ⟨_,_,_,b',es,clock,h3,h4,_,h6,_,h8,_⟩:=hH.at_ _ _ hg
   rw [hc] at h3;cases h3
   have hb:Below w.heap.size w (w.alloc (.mapIter (some bm) clock #[] clock)):=(Below.refl _ _).alloc (Nat.le_refl _) _
   have hcc:∀ b,some w.heap.size = some b→w.heap.size≤b∧b < (w.alloc (.mapIter (some bm) clock #[] clock)).heap.size∧¬ E.ok b:=by
    intro b e;cases e
    exact ⟨Nat.le_refl _,by simp,fun h=>by have:=hH.oklt _ h;omega⟩
   have hS:dH E w [] (E.next nid (some w.heap.size) 0 1 E.ok) (w.alloc (.mapIter (some bm) clock #[] clock)):=cZ hf _ 0 1 E.ok hb (fun b h=>(hcc b h).1) (fun _ h=>h) (fun _ h=>.inl h)
   have hN:=dw (cap:=0) (len:=1) hf hH hb hcc (fun _ h=>h) (fun _ h=>.inl h) (fun b h=>by have:=hH.oklt b h;simp;omega)
   have e1:(E.next nid (some w.heap.size) 0 1 E.ok).conc nid = some w.heap.size:=by simp [av.next]
   have e3:(E.next nid (some w.heap.size) 0 1 E.ok).len nid = 1:=by simp [av.next]
   refine ⟨_,w.alloc (.mapIter (some bm) clock #[] clock), .pointer (some ⟨w.heap.size,0,none⟩), ?_,hS, ?_, ?_,bQ⟩
   ·have:=run_range_map (P:=P) w t k e bm es clock hu h4
    simp only [execOp,ho,ex,Sem.run_bind,this,Result.andThen_ok]
    rfl
   ·refine lj hN (.inl rfl) ⟨e3,_,bm,clock, #[],clock,e1,heap_alloc_new w _,⟨rfl,by rw [h8,h6],rfl⟩, ?_⟩
    rw [← ex]
    exact gR hH hS hx
   ·have:=ai.ptr (E:=E.next nid (some w.heap.size) 0 1 E.ok) (w:=w.alloc (.mapIter (some bm) clock #[] clock)) nid 1 0 0 w.heap.size (.inl rfl) e1 (by omega)
    simpa using this
  ·cases h
 ·cases h
theorem Gl:∀ (ts:List Ty) (x:HP ts),ts.all Rf = true→∀ d∈gp ts x,d = .lit (x8 d)
 | [],_,_,d,hd=>by simp [gp] at hd
 | [t],x,h,d,hd=>by
  simp only [gp,List.mem_singleton] at hd
  subst hd
  match t,h with
  | .i k,_=>rfl
  | .b,_=>rfl
  | .s,_=>rfl
 | t :: u :: r,x,h,d,hd=>by
  rw [List.all_cons,Bool.and_eq_true] at h
  rw [gp,List.mem_cons] at hd
  rcases hd with rfl | hd
  ·match t,h.1 with
   | .i k,_=>rfl
   | .b,_=>rfl
   | .s,_=>rfl
  ·exact Gl (u :: r) x.2 h.2 d hd
theorem JO {kt:Ty} (h:kt.key = true) (x:kt.T):ai E w (gi kt x) (encV kt x):=by
 match kt,h,x with
 | .i k,_,x=>exact .c _ _ (.lit _)
 | .b,_,x=>exact .c _ _ (.lit _)
 | .s,_,x=>exact .c _ _ (.lit _)
 | .st k,h,x =>
  refine .agg ((Ty.enc (.st k) x).map x8) ((Ty.enc (.st k) x).map .c) (by simp) fun i v d hv hd=>?_
  rw [List.getElem?_map] at hv hd
  cases hx:(Ty.enc (.st k) x)[i]? with
  | none=>rw [hx] at hv;cases hv
  | some y =>
   rw [hx] at hv hd
   cases hv;cases hd
   refine .c _ _ ?_
   have e:=Gl (lf k) (GA k x) h y (List.mem_of_getElem? hx)
   rw [e]
   exact .lit _
theorem J8 (hH:az E w H) {x:Operand} (ho:o.op = .entry x) {vx:V} (hx:ai E w (ρ x) vx) (h:wo H vx = some r) (hp:∀ p∈r.pre,p):jj P ρ o E w r:=by
 unfold wo at h
 split at h
 ·next q k i j =>
  split at h
  ·next m s l hg =>
   cases hb0:Nat.beq (i*k+j) 0 with
   | false=>rw [hb0] at h;cases h
   | true =>
    rw [hb0,cond_true] at h
    have h0:=Nat.eq_of_beq_eq_true hb0
    split at h
    ·next q2 tm kt vt ks vs p l' hm =>
     cases hkt:kt.key with
     | false=>rw [hkt] at h;cases h
     | true =>
     rw [hkt,cond_true] at h
     cases h
     have hks:am ks.length s = true:=hp _ (by simp)
     have hks:(ks.length:Int) = s:=by simpa [am] using hks
     have hp0:0≤p:=hp _ (by simp)
     have hp1:p.toNat < ks.length:=hp _ (by simp)
     obtain ⟨_,hlen,b,bm,sn,seen,c,h1,h2,⟨h3,h5,h6⟩,h4⟩:=hH.at_ _ _ hg
     obtain ⟨bm',e1,hl,hc,hg2⟩:=lU hH h4 hm
     cases e1
     obtain ⟨_,_,k2,b',es,clock,g3,g4,g5,g6,g7,g8,g9⟩:=hH.at_ _ _ hg2
     rw [hc] at g3;cases g3
     have ex:ρ x = .pointer (some ⟨b,0,none⟩):=by
      generalize ρ x = v at hx
      cases hx with
      | ptr _ _ _ _ b' g1 g2 g3=>rw [h1] at g2;cases g2;rw [h0]
     have hlt:p.toNat < es.size:=by rw [g6];exact hp1
     have he:es[p.toNat]? = some es[p.toNat]:=Array.getElem?_eq_getElem hlt
     obtain ⟨a1,a2⟩:=g7 _ _ he
     have a3:=g9 _ _ he
     have hseen:∃ sd:Array Nat,seen = sd.push es[p.toNat].born:=by
      have e2:seen.toList.reverse.map (fun q:Nat=>(q:Int)) = p :: l':=h6
      cases hr:seen.toList.reverse with
      | nil=>rw [hr] at e2;cases e2
      | cons y ys =>
       rw [hr,List.map_cons] at e2
       have e3:(y:Int) = p:=(List.cons.inj e2).1
       refine ⟨ys.reverse.toArray, ?_⟩
       have e4:seen.toList = ys.reverse++[y]:=by rw [← List.reverse_reverse seen.toList,hr,List.reverse_cons]
       apply Array.ext'
       rw [e4,Array.toList_push,a3]
       congr 2
       omega
     obtain ⟨sd,rfl⟩:=hseen
     have hcl:c = clock:=by omega
     subst hcl
     have hr:=run_entry_at (P:=P) w b bm sn sd es c es[p.toNat] h2 g4 (by simp) g5.2.1
     refine ⟨rfl,rfl, .tuple #[es[p.toNat].key,es[p.toNat].val], ?_, .tup [es[p.toNat].key,es[p.toNat].val] _ rfl fun i v d hv hd=>?_⟩
     ·simp only [execOp,ho,ex,Sem.run_bind,hr,Result.andThen_ok]
      rfl
     ·match i,hv,hd with
      | 0,hv,hd=>cases hv;cases hd;rw [a1];exact JO hkt _
      | 1,hv,hd=>cases hv;cases hd;exact a2.rep
    ·cases h
  ·cases h
 ·cases h
theorem N6 (hH:az E w H) (hf:¬ E.live nid) {x:Operand} (ho:o.op = .next x true) {vx:V} (hx:ai E w (ρ x) vx) (h:AI H vx = some r) :
  ∃ E' w' v',(execOp ρ o).run P w = .ok (.value v') w'∧cO E w H nid r E' w' v':=by
 unfold AI at h
 split at h
 ·next q k i j =>
  split at h
  ·next s pos hg =>
   cases hb0:Nat.beq (i*k+j) 0 with
   | false=>simp [hb0] at h
   | true =>
    simp only [hb0,cond_true,Option.some.injEq] at h
    have h0:=Nat.eq_of_beq_eq_true hb0
    obtain ⟨hl,hlen,b,hb,hh⟩:=hH.at_ _ _ hg
    have ex:ρ x = .pointer (some ⟨b,0,none⟩):=by
     generalize ρ x = v at hx
     cases hx with
     | ptr _ _ _ _ b' g1 g2 g3=>rw [hb] at g2;cases g2;rw [h0]
    subst h
    have hlt:=fL hh
    refine ⟨_,er w b (.stringIter s (bif Nat.blt pos s.size then pos+AR s pos else pos)),Ee (Nat.blt pos s.size) [.int .i64 pos, .int .i32 (jf s pos)], ?_,
     tf hH hf hl hb _ (ob:=.raw (.stringIter s (bif Nat.blt pos s.size then pos+AR s pos else pos))) rfl rfl (fun E' h1 h2 h3 _ _=>⟨h3.trans hlen,b,h1,qF _ hlt⟩) fun _=>.c _ _ (.opt _ _)⟩
    by_cases hp:pos < s.size
    ·have hp':Nat.blt pos s.size = true:=by simpa using hp
     have:(Instr.next (.pointer (some ⟨b,0,none⟩)) true o.type).run P w = .ok (.tuple #[.bool true, .int .i64 pos, .int .i32 (jf s pos)]) (er w b (.stringIter s (pos+AR s pos))):=by
      simp [Instr.next,getObj,setObj,Sem.run,hh,hp,goInt,jf,AR,er]
     rw [hp']
     simp only [execOp,ho,ex,Sem.run_bind,this,Result.andThen_ok]
     rfl
    ·have hp':Nat.blt pos s.size = false:=by
      cases hc:Nat.blt pos s.size with
      | false=>rfl
      | true=>rw [Nat.blt_eq] at hc;exact (hp hc).elim
     have hw:er w b (.stringIter s pos) = w:=by
      unfold er
      congr 1
      apply Array.ext_getElem?
      intro i
      by_cases e:b = i
      ·subst e;rw [Array.getElem?_setIfInBounds,if_pos rfl,if_pos hlt,hh]
      ·rw [Array.getElem?_setIfInBounds,if_neg e]
     have:(Instr.next (.pointer (some ⟨b,0,none⟩)) true o.type).run P w = .ok (.tuple #[.bool false]) w:=by
      simp [Instr.next,getObj,Sem.run,hh,hp]
     rw [hp']
     simp only [execOp,ho,ex,Sem.run_bind,this,Result.andThen_ok,cond_false,hw]
     rfl
  ·cases h
 ·cases h
theorem By:∀ (ns:List Int) (s:ByteArray),ns.foldl (fun r n=>r.push (UInt8.ofNat n.toNat)) s = ⟨s.data++(ns.map fun x=>UInt8.ofNat x.toNat).toArray⟩
 | [],s=>by simp
 | n :: ns,s=>by
  rw [List.foldl_cons,By ns]
  congr 1
  simp [ByteArray.push]
theorem Kz (hH:az E w H) {s d e:TypeId} (hs:P.underlying s = some (.slice e)) (hd:P.underlying d = some .string) (he:P.underlying e = some (.int .u8)) {x:Operand} (ho:o.op = .convert s d x) {vx:V} (hx:ai E w (ρ x) vx)
  (h:Eh H vx = some r):jj P ρ o E w r:=by
 unfold Eh at h
 cases ha:cC H (.i .u8) vx with
 | none=>rw [ha] at h;cases h
 | some l =>
  rw [ha] at h
  simp only [Option.map_some,Option.some.injEq] at h
  subst h
  obtain ⟨news,hsrc⟩:=o5 hH hx ha
  obtain ⟨a,c,ev,hc,hm,hcell⟩:=hsrc.form
  refine ⟨rfl,rfl, .string (bz l), ?_, .lit _⟩
  have hlen:news.length = l.length:=by have:=hsrc.len;simpa [Ty.k] using this
  have hnews:news = l.map (Value.int .u8):=by
   refine List.ext_getElem? fun i=>?_
   by_cases hi:i < l.length
   ·have h1:i < news.length:=by omega
    have e1:els (.i .u8) l i = [.lit (.int .u8 l[i])]:=by
     rw [fD,List.getD_eq_getElem?_getD,List.getElem?_eq_getElem hi];rfl
    have hr:=hsrc.rep i 0 (.lit (.int .u8 l[i])) (news[i]) hi (by rw [e1];rfl) (by show news[i*1+0]? = _;rw [Nat.mul_one,Nat.add_zero];exact List.getElem?_eq_getElem h1)
    rw [List.getElem?_eq_getElem h1,List.getElem?_map,List.getElem?_eq_getElem hi]
    simp only [Option.map_some,Option.some.injEq]
    generalize news[i] = z at hr
    cases hr with
    | lit=>rfl
   ·rw [List.getElem?_eq_none (by omega),List.getElem?_eq_none (by simp;omega)]
  have key:(Conv.bytesToString (ρ x)).run P w = .ok (.string (bz l)) w:=by
   rw [ev]
   cases l with
   | nil =>
    cases a with
    | none=>rfl
    | some ad =>
     have:=run_bytesToString (P:=P) w ad 0 c [] (by have:=run_loadCells (P:=P) w ad 0 (fun _=>undef) (fun j hj=>by omega);simpa using this)
     rw [List.length_nil,this];rfl
   | cons y l =>
    obtain ⟨ad,rfl,hcl⟩:=hcell (by simp)
    have hload:(loadCells ad (y :: l).length).run P w = .ok ((y :: l).map (Value.int .u8)).toArray w:=by
     have:=run_loadCells_list (P:=P) w ad news (fun j v hv=>hcl j v hv)
     rw [hlen] at this
     rw [this,hnews]
    rw [run_bytesToString w ad (y :: l).length c _ hload,By]
    simp [bz]
  rw [ev] at key
  simp [execOp,ho,ev,convert,run_underlying hs,run_underlying hd,run_underlying he,key]
theorem KZ {e:TypeId} {z:List D} (h:qe P e = some z):∃ (i:TypeInfo) (v:Value),P.info? e = some i∧i.zero = some v∧v.cells.size = z.length∧(∀ u∈v.cells.toList,u.oneCell' = true) ∧
  ∀ (ok:Nat→Prop) (w:World) (j:Nat) (d:D) (u:Value),z[j]? = some d→v.cells[j]? = some u→aM ok w u d:=by
 have h0:=h
 unfold qe at h0
 split at h0
 ·next zv hzv =>
  obtain ⟨i,v,h1,h2,h3,h4⟩:=kR hzv
  obtain ⟨i',v',g1,g2,g3,g4,g5⟩:=F5 h
  rw [h1] at g1;cases g1
  rw [h2] at g2;cases g2
  refine ⟨i,v,h1,h2,g3,IU v h3 h4 (u5 h0),fun ok w j d u hd hu=>?_⟩
  have:=(cX (E:=RU ok) (w:=w) v h4).2 j u (.c d) (by rw [Array.getElem?_toList];exact hu) (g4 j d hd)
  cases this with
  | c _ _ h=>exact h
 ·cases h0
theorem N1 {t:Ty} {l:List t.T} {y:t.T} {off n i:Nat} (h:off+n≤l.length) (hi:i < l.length):els t (zo y l off n) i = if off≤i∧i < off+n then t.enc y else els t l i:=by
 unfold zo
 rw [FC,List.length_take,Nat.min_eq_left (by omega)]
 by_cases h1:i < off
 ·rw [if_pos h1,if_neg (by omega),fD,fD,List.getD_eq_getElem?_getD,List.getElem?_take_of_lt h1,List.getD_eq_getElem?_getD]
 ·rw [if_neg h1,FC,List.length_replicate]
  by_cases h2:i < off+n
  ·rw [if_pos (by omega),if_pos ⟨by omega,h2⟩,Fz (by omega)]
  ·have a1:¬ (i - off < n):=by omega
   have a2:¬ (off≤i∧i < off+n):=by omega
   rw [if_neg a1,if_neg a2,fD,fD,List.getD_eq_getElem?_getD,List.getElem?_drop,List.getD_eq_getElem?_getD]
   congr 3;omega
theorem MO {T:Type} {l:List T} {y:T} {off n:Nat} (h:off+n≤l.length):(zo y l off n).length = l.length:=by simp [zo];omega
theorem Mg (hH:az E w H) (hf:¬ E.live nid) {c:Call} (ho:o.op = .call c) (hcal:c.callee = .builtin .clear) {x:Operand} (hargs:c.args = #[x]) {t:TypeId} (hat:c.argTypes[0]? = some t) {vx:V} (hx:ai E w (ρ x) vx)
  (h:qB P H t vx = some r) (hp:∀ p∈r.pre,p):∃ E' w' v',(execOp ρ o).run P w = .ok (.value v') w'∧cO E w H nid r E' w' v':=by
 have run:∀ w',(Builtin.clear_ c.argTypes o.type #[ρ x]).run P w = .ok (.tuple #[]) w'→(execOp ρ o).run P w = .ok (.value (.tuple #[])) w':=by
  intro w' hn
  simp [execOp,ho,resolve,hcal,hargs,invoke,builtin,hn]
 have main:∀ (e:TypeId) (z:List D) (q e':Nat) (ty:Ty) (l l':List ty.T) (y:ty.T) (off n:Nat) (a:Option Addr) (cp:Nat),P.underlying t = some (.slice e)→qe P e = some z→ae.get H q = some (.row e' ty l)→kJ ty z = some y →
   (e' = e∧ty.k = sz P e∧z.length = ty.k∧0 < ty.k)→ρ x = .slice a n cp→n≤cp→E.live q→off+n≤l.length→(0 < n→∃ b,E.conc q = some b∧a = some ⟨b,off*ty.k,none⟩)→l'.length = l.length →
   (∀ i,i < l.length→els ty l' i = if off≤i∧i < off+n then ty.enc y else els ty l i)→r.val = .c .unk→r.eff = [(q,some (.row e' ty l'))]→r.kill = [] →
   ∃ E' w' v',(execOp ρ o).run P w = .ok (.value v') w'∧cO E w H nid r E' w' v':=by
  intro e z q e' ty l l' y off n a cp hu hz hg hy hcs hv hc hn hlen ha hll hel hrv hre hrk
  obtain ⟨rfl,hk1,hk2,hk0⟩:=hcs
  obtain ⟨hl,hob⟩:=hH.at_ _ _ hg
  obtain ⟨i,zv,z1,z2,z3,z4,z5⟩:=KZ hz
  have hyl:=mC ty _ _ hy
  rw [hv] at run
  by_cases hn0:n = 0
  ·subst hn0
   have hS:dH E w [] (E.next nid none 0 0 E.ok) w:=cZ hf none 0 0 E.ok (.refl _ _) (by simp) (fun _ h=>h) (fun _ h=>.inl h)
   have hN:az (E.next nid none 0 0 E.ok) w H:=dw hf hH (.refl _ _) (by simp) (fun _ h=>h) (fun _ h=>.inl h) hH.oklt
   refine ⟨_,w, .tuple #[],run w ?_,by rw [hrk];exact hS, ?_,by rw [hrv];exact .c _ _ (.unk _),bQ⟩
   ·cases a <;> simp [Builtin.clear_,hat,run_underlying hu]
   ·rw [hre,hrk]
    refine lj hN (hN.at_ _ _ hg).1 ?_
    exact DP.congr (hN.at_ _ _ hg).2 rfl hll.symm fun i hi=>by
     rw [hel i hi,if_neg (by omega)];exact .refl _
  ·obtain ⟨b,hb,rfl⟩:=ha (by omega)
   obtain ⟨hlen2,hrow⟩:=hob
   obtain ⟨b',C,c1,c2,c3,c4,c5,c6,c7,c8⟩:=hrow.resolve_left (fun h=>by rw [hb] at h;cases h.1)
   rw [hb] at c1;cases c1
   have hfit:off*ty.k+n*ty.k≤C.size:=by
    rw [c3, ← Nat.add_mul]
    exact Nat.mul_le_mul_right _ (by omega)
   have hzl:(Builtin.zeroCells zv.cells n).toList.length = n*ty.k:=by simp [Builtin.zeroCells,z3,hk2]
   have hzu:∀ q u,(Builtin.zeroCells zv.cells n).toList[q]? = some u→q < n*ty.k∧zv.cells[q % ty.k]? = some u:=by
    intro q u hq
    have hlt:=(List.getElem?_eq_some_iff.1 hq).1
    rw [hzl] at hlt
    refine ⟨hlt, ?_⟩
    have hm:q % ty.k < zv.cells.size:=by rw [z3,hk2];exact Nat.mod_lt _ hk0
    rw [Array.getElem?_toList] at hq
    unfold Builtin.zeroCells at hq
    rw [Array.getElem?_map,z3,hk2,Array.getElem?_range,if_pos hlt] at hq
    simp only [Option.map_some,Option.some.injEq] at hq
    rw [getElem!_pos zv.cells _ hm] at hq
    rw [Array.getElem?_eq_getElem hm,hq]
   have hone:∀ u∈(Builtin.zeroCells zv.cells n).toList,u.oneCell' = true:=by
    intro u hu'
    obtain ⟨q,hq⟩:=List.getElem?_of_mem hu'
    obtain ⟨_,h2⟩:=hzu q u hq
    exact z4 u (List.mem_of_getElem? (by rw [Array.getElem?_toList];exact h2))
   have hst:=run_storeCells_at P b (off*ty.k) e' (Builtin.zeroCells zv.cells n).toList 0 C w c2 (by rw [hzl];exact hfit) hone
   rw [Nat.add_zero] at hst
   rw [hzl] at hst
   generalize hC':(C.toList.take (off*ty.k)++(Builtin.zeroCells zv.cells n).toList++C.toList.drop (off*ty.k+n*ty.k)).toArray = C' at hst
   have hrow':w.setRow b C' = er w b (.cells C' e' (0,0)):=by
    have hlt:=fL c2
    have h1:=setRow_heap w b C C' e' (0,0) c2
    unfold World.setRow er
    unfold World.setRow at h1
    congr 1
    apply Array.ext_getElem?
    intro j
    by_cases e:b = j
    ·subst e
     rw [Array.getElem?_setIfInBounds,if_pos rfl,if_pos hlt]
     exact h1
    ·rw [Array.getElem?_setIfInBounds,if_neg e,Array.getElem?_modify,if_neg e]
   have hget:∀ q,C'[q]? = if off*ty.k≤q∧q < off*ty.k+n*ty.k then (Builtin.zeroCells zv.cells n).toList[q - off*ty.k]? else C[q]?:=by
    intro q
    rw [← hC',List.getElem?_toArray]
    have ht:(C.toList.take (off*ty.k)).length = off*ty.k:=by rw [List.length_take,Array.length_toList];omega
    by_cases h1:q < off*ty.k
    ·rw [if_neg (by omega),List.append_assoc,List.getElem?_append_left (by omega),List.getElem?_take_of_lt h1,Array.getElem?_toList]
    ·by_cases h2:q < off*ty.k+n*ty.k
     ·rw [if_pos ⟨by omega,h2⟩,List.append_assoc,List.getElem?_append_right (by omega),ht,List.getElem?_append_left (by omega)]
     ·rw [if_neg (by omega),List.getElem?_append_right (by rw [List.length_append];omega),List.length_append,ht,hzl,List.getElem?_drop,Array.getElem?_toList]
      congr 1;omega
   have hsz:C'.size = C.size:=by
    rw [← hC']
    simp [hzl]
    omega
   refine ⟨_,er w b (.cells C' e' (0,0)), .tuple #[],run _ ?_,tf hH hf hl hb _ (ob:=.row e' ty l') hre hrk (fun E' h1 h2 h3 hr hd=>⟨(h3.trans hlen2).trans hll.symm, .inr ⟨b,C',h1,qF _ (fL c2),by rw [hsz,h2];exact c3,by rw [h2,hll];exact c4,by rw [h2];exact c5,fun i hi=>eA ty l' i, ?_, ?_⟩⟩) fun _=>by rw [hrv];exact .c _ _ (.unk _)⟩
   ·obtain ⟨n',rfl⟩:∃ n',n = n'+1:=⟨n - 1,by omega⟩
    have hzv:=gH (P:=P) (w:=w) z1 z2
    simp [Builtin.clear_,hat,run_underlying hu,hzv,hst,hrow']
   ·intro q' j u hq hj hu'
    rw [hll] at hq
    rw [hget] at hu'
    split at hu'
    ·exact hone u (List.mem_of_getElem? hu')
    ·exact c7 q' j u hq hj hu'
   ·intro q' j d u hq hd' hu'
    rw [hll] at hq
    rw [hget] at hu'
    rw [hel q' hq] at hd'
    by_cases hc:off≤q'∧q' < off+n
    ·rw [if_pos hc] at hd'
     have hj:j < ty.k:=by rw [← kf ty y];exact (List.getElem?_eq_some_iff.1 hd').1
     have a1:off*ty.k≤q'*ty.k:=Nat.mul_le_mul_right _ hc.1
     have a2:(q'+1)*ty.k≤(off+n)*ty.k:=Nat.mul_le_mul_right _ hc.2
     rw [Nat.add_mul,Nat.one_mul,Nat.add_mul] at a2
     rw [if_pos ⟨by omega,by omega⟩] at hu'
     obtain ⟨_,h2⟩:=hzu _ _ hu'
     have:(q'*ty.k+j - off*ty.k) % ty.k = j:=by
      obtain ⟨p,rfl⟩:∃ p,q' = off+p:=⟨q' - off,by omega⟩
      rw [Nat.add_mul,show off*ty.k+p*ty.k+j - off*ty.k = j+p*ty.k by omega,Nat.add_mul_mod_self_right,Nat.mod_eq_of_lt hj]
     rw [this] at h2
     obtain ⟨d0,hd0,hdd⟩:=hyl.at hd'
     exact (z5 _ _ j d0 u hd0 h2).le hdd
    ·rw [if_neg hc] at hd'
     have hj:j < ty.k:=by rw [← c6 q' hq];exact (List.getElem?_eq_some_iff.1 hd').1
     have hno:¬ (off*ty.k≤q'*ty.k+j∧q'*ty.k+j < off*ty.k+n*ty.k):=by
      rintro ⟨g1,g2⟩
      by_cases h1:off≤q'
      ·have h2:off+n≤q':=by omega
       have:=Nat.mul_le_mul_right ty.k h2
       rw [Nat.add_mul] at this
       omega
      ·have:(q'+1)*ty.k≤off*ty.k:=Nat.mul_le_mul_right _ (by omega)
       rw [Nat.add_mul,Nat.one_mul] at this
       omega
     rw [if_neg hno] at hu'
     exact hd _ _ (c8 q' j d u hq hd' hu')
 unfold qB at h
 split at h
 ·next e hu =>
  split at h
  ·next z hz =>
   split at h
   ·next q k =>
    split at h
    ·next e' ty l hg =>
     split at h
     ·next y hy =>
      cases hs:(Nat.beq e' e&&Nat.beq ty.k k&&Nat.beq k (sz P e)&&Nat.beq z.length k&&Nat.blt 0 k&&gj P e) with
      | false=>simp [hs] at h
      | true =>
       simp only [hs,cond_true,Option.some.injEq] at h
       simp only [Bool.and_eq_true,Nat.beq_eq,Nat.blt_eq] at hs
       obtain ⟨⟨⟨⟨⟨rfl,rfl⟩,hk1⟩,hk2⟩,hk0⟩,hkn⟩:=hs
       subst h
       have hlen:E.len q = l.length:=(hH.at_ _ _ hg).2.1
       generalize hv:ρ x = v at hx
       cases hx with
       | row _ _ a n cp hn hl hc hm h0 =>
        have hnl:n = l.length:=hl.trans hlen
        subst hnl
        exact main e' z q e' ty l _ y 0 l.length a cp hu hz hg hy ⟨rfl,hk1,hk2,hk0⟩ hv hc hn (by omega) (fun h=>by
         rcases h0 with ⟨_,h0,_⟩ | ⟨b,hb,ha,_⟩
         ·omega
         ·exact ⟨b,hb,by rw [ha,Nat.zero_mul]⟩) (by simp) (fun i hi=>by rw [Fz hi,if_pos (by omega)]) rfl rfl rfl
     ·cases h
    ·cases h
   ·next q k off n =>
    split at h
    ·next e' ty l hg =>
     split at h
     ·next y hy =>
      cases hs:(Nat.beq e' e&&Nat.beq ty.k k&&Nat.beq k (sz P e)&&Nat.beq z.length k&&Nat.blt 0 k&&gj P e) with
      | false=>simp [hs] at h
      | true =>
       simp only [hs,cond_true,Option.some.injEq] at h
       simp only [Bool.and_eq_true,Nat.beq_eq,Nat.blt_eq] at hs
       obtain ⟨⟨⟨⟨⟨rfl,rfl⟩,hk1⟩,hk2⟩,hk0⟩,hkn⟩:=hs
       subst h
       have hp1:off+n≤l.length:=hp _ (by simp)
       generalize hv:ρ x = v at hx
       cases hx with
       | sub _ _ _ _ a cp hn hc hm hl ha =>
        exact main e' z q e' ty l _ y off n a cp hu hz hg hy ⟨rfl,hk1,hk2,hk0⟩ hv hc hn hp1 ha (MO hp1) (fun i hi=>N1 hp1 hi) rfl rfl rfl
     ·cases h
    ·cases h
   ·cases h
  ·cases h
 ·cases h
end
end Go.Ax
namespace Go.Ax
open Go.RowKit
def dc (ok:Nat→Prop):av:=⟨fun _=>none,fun _=>0,fun _=>0,fun _=>False,ok⟩
def AG (ok:Nat→Prop) (w w':World) (v:Value):j8→Prop
 | .data d=>ai (dc fun b=>ok b∨(w.heap.size≤b∧b < w'.heap.size)) w' v d
 | .new d=>ai (dc fun b=>w.heap.size≤b∧b < w'.heap.size) w' v d
 | .own fr e t l=>∃ xs,w'.ownsRow w.heap.size e t.k v l.length xs∧(∀ i j u,i < l.length→j < t.k→xs[i*t.k+j]? = some u→u.oneCell' = true) ∧
   ∀ i j d u,i < l.length→(els t l i)[j]? = some d→xs[i*t.k+j]? = some u→aM (fun b=>(fr = false∧ok b)∨(w.heap.size≤b∧b < w'.heap.size∧v.ownBlock≠some b)) w' u d
def fy (P:Program) (f:FuncId) (args:Array Value) (w:World) (R:Value→World→Prop):Prop :=
 ((callFunc f args).run P w = .ok (.enter f args) w∧Calls P f args w fun e w'=>∃ v,e = .returned v∧R v w')∨∃ v w',(callFunc f args).run P w = .ok (.value v) w'∧R v w'
theorem fy.mono {P:Program} {f:FuncId} {args:Array Value} {w:World} {R R':Value→World→Prop} (h:fy P f args w R) (hr:∀ v w',R v w'→R' v w'):fy P f args w R':=by
 rcases h with ⟨h1,h2⟩ | ⟨v,w',h1,h2⟩
 ·refine .inl ⟨h1,h2.mono ?_⟩
  rintro e w' ⟨v,rfl,h⟩
  exact ⟨v,rfl,hr v w' h⟩
 ·exact .inr ⟨v,w',h1,hr v w' h2⟩
def Mc (P:Program) (f:FuncId) (con:LK):Prop :=
 ∀ (ok:Nat→Prop) (w:World) (xs:List Value) (vs:List V) (p:Bool) (out:j8),aJ (dc ok) w xs vs→(∀ b,ok b→b < w.heap.size)→con vs = some (p,out)→p = true →
  fy P f xs.toArray w fun v w'=>Below w.heap.size w w'∧AG ok w w' v out
def bD (P:Program) (f:FuncId):CC→Prop
 | .pure c=>Mc P f c
 | .mut m=>∀ (E:av) (w:World) (H:ae) (nid:Nat) (xs:List Value) (args:List V) (r:aF),az E w H→fR E nid→aJ E w xs args→m (bE (aX H args) H) nid args = some r→(∀ p∈r.pre,p) →
  fy P f xs.toArray w fun v w'=>∃ E',cO E w H nid r E' w' v
section
variable {P:Program} {ρ:Operand→Value} {E:av} {w w':World} {o:Oper} {r:aF} {H:ae} {nid:Nat}
theorem gU (H:ae):∀ vs:List V,(V.views H vs).length = vs.length
 | []=>rfl
 | _ :: r=>by simp [V.views,gU H r]
theorem lw (H:ae):∀ (vs:List V) (i:Nat),(V.views H vs)[i]? = (vs[i]?).map (V.view H)
 | [],i=>by simp [V.views]
 | v :: r,0=>by simp [V.views]
 | v :: r,i+1=>by simp [V.views,lw H r i]
theorem sU {ok':Nat→Prop} (hok:∀ b,E.ok b→ok' b) (hown:∀ q b,E.live q→E.conc q = some b→ok' b) {v:Value} {t:Ty} {l:List t.T} {news:List Value} (h:Km E w v t.k l.length (els t l) news):aM ok' w v (.sl t l):=by
 obtain ⟨a,c,rfl,hc,hm,hcell⟩:=h.form
 have hlt:∀ i j,i < l.length→j < t.k→i*t.k+j < news.length:=by
  intro i j hi hj
  rw [h.len]
  have:(i+1)*t.k≤l.length*t.k:=Nat.mul_le_mul_right _ hi
  rw [Nat.add_mul,Nat.one_mul] at this
  omega
 refine .sl t l a l.length c t.k (els t l) (fun i j=>news.getD (i*t.k+j) undef) rfl rfl (fun _ _=>rfl) hc hm (fun hn=>?_) (fun i j hi hj=>?_) h.els (fun i j d hi hd=>?_)
 ·obtain ⟨ad,rfl,hq⟩:=hcell hn
  refine ⟨ad,rfl, ?_,fun i j hi hj=>hq _ _ ?_⟩
  ·rcases h.blk ad _ c rfl hn with h | ⟨q,h1,h2⟩
   ·exact hok _ h
   ·exact hown q _ h1 h2
  ·rw [List.getD_eq_getElem?_getD,List.getElem?_eq_getElem (hlt i j hi hj)];rfl
 ·refine h.one _ ?_
  show news.getD (i*t.k+j) undef∈news
  rw [List.getD_eq_getElem?_getD,List.getElem?_eq_getElem (hlt i j hi hj)]
  exact List.getElem_mem _
 ·have hj:j < t.k:=by rw [← h.els i hi];exact (List.getElem?_eq_some_iff.1 hd).1
  refine (h.rep i j d (news.getD (i*t.k+j) undef) hi hd ?_).mono hok (fun _ _=>rfl)
  rw [List.getD_eq_getElem?_getD,List.getElem?_eq_getElem (hlt i j hi hj)]
  rfl
theorem l9 (t:Ty) (l:List t.T):lL t t l = some l:=by rw [lL,dif_pos rfl]
theorem Jx {ok':Nat→Prop} (hH:az E w H) (hok:∀ b,E.ok b→ok' b) (hown:∀ q b,E.live q→E.conc q = some b→ok' b) {v:Value} {o' k:Nat} (h:ai E w v (.row o' k)) :
  ∃ d,tr H o' k = .c d∧aM ok' w v d:=by
 unfold tr
 split
 ·next e t l hg =>
  cases hs:Nat.beq t.k k with
  | false=>exact ⟨.unk,rfl, .unk _⟩
  | true =>
   have ha:cC H t (.row o' k) = some l:=by simp [cC,hg,hs,l9]
   obtain ⟨news,hsrc⟩:=o5 hH h ha
   exact ⟨_,rfl,sU hok hown hsrc⟩
 ·exact ⟨.unk,rfl, .unk _⟩
theorem HH {ok':Nat→Prop} (hH:az E w H) (hok:∀ b,E.ok b→ok' b) (hown:∀ q b,E.live q→E.conc q = some b→ok' b) {v:Value} {o' k off n:Nat} (h:ai E w v (.sub o' k off n)) :
  ∃ d,tn H o' k off n = .c d∧aM ok' w v d:=by
 unfold tn
 split
 ·next e t l hg =>
  cases hs:Nat.beq t.k k with
  | false=>exact ⟨.unk,rfl, .unk _⟩
  | true =>
   have ha:cC H t (.sub o' k off n) = some (ak l off n):=by simp [cC,hg,hs,l9]
   obtain ⟨news,hsrc⟩:=o5 hH h ha
   exact ⟨_,rfl,sU hok hown hsrc⟩
 ·exact ⟨.unk,rfl, .unk _⟩
theorem OL {ok':Nat→Prop} (hH:az E w H) (hok:∀ b,E.ok b→ok' b) (hown:∀ q b,E.live q→E.conc q = some b→ok' b) {v:Value} {d:V} (h:ai E w v d):aM ok' w v (qj H d):=by
 unfold qj
 split
 ·cases h with | c _ _ h=>exact h.mono hok fun _ _=>rfl
 ·next o' k =>
  obtain ⟨d,hd,hr⟩:=Jx hH hok hown h
  rw [hd]
  exact hr
 ·next o' k off n =>
  obtain ⟨d,hd,hr⟩:=HH hH hok hown h
  rw [hd]
  exact hr
 ·exact .unk _
theorem CR {ok':Nat→Prop} (hH:az E w H) (hok:∀ b,E.ok b→ok' b) {v:Value} {d:V} (h:ai E w v d) :
    ((∀ q b,E.live q→E.conc q = some b→ok' b)∨d.refs = [])→ai (dc ok') w v (d.view H):=by
  induction h with
  | c v d h =>
    intro _
    exact .c _ _ (h.mono hok fun _ _=>rfl)
  | agg vs ds hl h ih =>
    intro hd
    rw [V.view]
    refine .agg _ _ (by rw [gU,hl]) fun i v d hv hd'=>?_
    rw [lw] at hd'
    cases hx:ds[i]? with
    | none=>rw [hx] at hd'; cases hd'
    | some x =>
      rw [hx] at hd'; cases hd'
      exact ih i v x hv hx (hd.imp id fun hr=>refs_nil hr hx)
  | tup vs ds hl h ih =>
    intro hd
    rw [V.view]
    refine .tup _ _ (by rw [gU,hl]) fun i v d hv hd'=>?_
    rw [lw] at hd'
    cases hx:ds[i]? with
    | none=>rw [hx] at hd'; cases hd'
    | some x =>
      rw [hx] at hd'; cases hd'
      exact ih i v x hv hx (hd.imp id fun hr=>refs_nil hr hx)
  | ptr o' k i j b hn hb hi =>
    intro hd
    have hown:∀ q b,E.live q→E.conc q = some b→ok' b:=hd.resolve_right (by simp [V.refs])
    rw [V.view]
    unfold J6
    split
    · next e ty l hg =>
      cases hs:Nat.beq ty.k k with
      | false=>exact .unk _
      | true =>
        have hkk:ty.k = k:=Nat.eq_of_beq_eq_true hs
        subst hkk
        simp only [cond_true]
        obtain ⟨C,h2,h3,h4,h6,h7,h8⟩:=pX hH hg hb
        obtain ⟨_,hlen,_⟩:=hH.at_ _ _ hg
        have him:i < l.length:=by omega
        have hik:(i+1)*ty.k≤E.cap o'*ty.k:=Nat.mul_le_mul_right _ (by omega)
        rw [Nat.add_mul,Nat.one_mul] at hik
        have hq:∀ q,q < ty.k→C[i*ty.k+q]? = some (C.getD (i*ty.k+q) undef):=by
          intro q hq
          have:i*ty.k+q < C.size:=by omega
          simp [Array.getD,this]
        have:=ai.dptr (E:=dc ok') (w:=w) ty.k (els ty l i) j ⟨b,i*ty.k,none⟩ (fun q=>C.getD (i*ty.k+q) undef) (hown o' b hn hb)
          (fun q hq'=>by rw [du,cell_of_row w b _ C e (0,0) h2];exact hq q hq') (h6 i him)
          (fun q d hd'=>by
            have hqk:q < ty.k:=by rw [← h6 i him];exact (List.getElem?_eq_some_iff.1 hd').1
            exact (h8 i q d _ him hd' (hq q hqk)).mono hok fun _ _=>rfl)
        rwa [du] at this
    · next cs hg =>
      cases hs:Nat.beq cs.length k with
      | false=>exact .unk _
      | true =>
        have hkk:cs.length = k:=Nat.eq_of_beq_eq_true hs
        simp only [cond_true]
        obtain ⟨_,hlen,b',C,te,h1,h2,h3⟩:=hH.at_ _ _ hg
        rw [h1] at hb;cases hb
        have hi0:i = 0:=by omega
        subst hi0
        have hq:∀ q,q < k→C[q]? = some (C.getD q undef):=by
          intro q hq
          have:q < C.size:=by have:=h3.1;simp at this;omega
          simp [Array.getD,this]
        have:=ai.dptr (E:=dc ok') (w:=w) k (cs.map (qj H)) j ⟨b,0,none⟩ (fun q=>C.getD q undef) (hown o' b hn h1)
          (fun q hq'=>by rw [du,Nat.zero_add,cell_of_row w b _ C te (0,0) h2];exact hq q hq') (by simpa using hkk)
          (fun q d hd'=>by
            rw [List.getElem?_map] at hd'
            cases hx:cs[q]? with
            | none=>rw [hx] at hd'; cases hd'
            | some x =>
              rw [hx] at hd'; cases hd'
              have hqk:q < k:=by rw [← hkk];exact (List.getElem?_eq_some_iff.1 hx).1
              exact OL hH hok hown (h3.2 q _ x (by rw [Array.getElem?_toList];exact hq q hqk) hx))
        rw [du,Nat.zero_add] at this
        simpa using this
    · exact .c _ _ (.unk _)
    · exact .c _ _ (.unk _)
    · exact .c _ _ (.unk _)
    · exact .c _ _ (.unk _)
  | row o' k a n c hn hl hc hm h0 =>
    intro hd
    have hown:∀ q b,E.live q→E.conc q = some b→ok' b:=hd.resolve_right (by simp [V.refs])
    rw [V.view]
    obtain ⟨d,hd',hr⟩:=Jx hH hok hown (.row o' k a n c hn hl hc hm h0)
    rw [hd']
    exact .c _ _ hr
  | sub o' k off n a c hn hc hm hl ha =>
    intro hd
    have hown:∀ q b,E.live q→E.conc q = some b→ok' b:=hd.resolve_right (by simp [V.refs])
    rw [V.view]
    obtain ⟨d,hd',hr⟩:=HH hH hok hown (.sub o' k off n a c hn hc hm hl ha)
    rw [hd']
    exact .c _ _ hr
  | dptr k cs j ad u hok' hcell hl hu =>
    intro _
    rw [V.view]
    exact .dptr k cs j ad u (hok _ hok') hcell hl fun i d hd=>(hu i d hd).mono hok fun _ _=>rfl
  | fn f vs ds hl h ih =>
    intro hd
    rw [V.view]
    refine .fn _ _ _ (by rw [gU,hl]) fun i v d hv hd'=>?_
    rw [lw] at hd'
    cases hx:ds[i]? with
    | none=>rw [hx] at hd'; cases hd'
    | some x =>
      rw [hx] at hd'; cases hd'
      exact ih i v x hv hx (hd.imp id fun hr=>refs_nil hr hx)
where
  refs_nil {ds:List V} {i:Nat} {x:V} (h:V.refss ds = []) (hx:ds[i]? = some x):x.refs = []:=by
    cases hr:x.refs with
    | nil=>rfl
    | cons a l =>
      have:a∈V.refss ds:=cK hx (by rw [hr];simp)
      rw [h] at this
      simp at this
theorem II {vs:List V} (h:gE vs = false):V.refss vs = []:=by
 unfold gE at h
 split at h
 ·assumption
 ·cases h
mutual
theorem scalar_rep {ok:Nat→Prop} {w w':World} {E':av}:∀ (d:V) {v:Value},d.scalar = true→ai (dc ok) w v d→ai E' w' v d
 | .c d,v,hs,h=>by
  cases h with
  | c _ _ h =>
   cases h with
   | unk=>exact .unk _
   | nil=>exact .c _ _ .nil
   | lit=>exact .lit _
   | opt=>simp [V.scalar] at hs
   | any v h1=>exact .c _ _ (.any v h1)
   | sl=>simp [V.scalar] at hs
 | .agg ds,v,hs,h=>by
  cases h with
  | agg vs _ hl h=>exact .agg _ _ hl fun i v d hv hd=>scalars_rep ds (by simpa [V.scalar] using hs) i d v hd (h i v d hv hd)
 | .tup ds,v,hs,h=>by
  cases h with
  | tup vs _ hl h=>exact .tup _ _ hl fun i v d hv hd=>scalars_rep ds (by simpa [V.scalar] using hs) i d v hd (h i v d hv hd)
 | .ptr ..,v,hs,h=>by simp [V.scalar] at hs
 | .row ..,v,hs,h=>by simp [V.scalar] at hs
 | .sub ..,v,hs,h=>by simp [V.scalar] at hs
 | .dptr ..,v,hs,h=>by simp [V.scalar] at hs
 | .fn ..,v,hs,h=>by simp [V.scalar] at hs
theorem scalars_rep {ok:Nat→Prop} {w w':World} {E':av}:∀ (ds:List V),V.scalars ds = true→∀ (i:Nat) (d:V) (v:Value),ds[i]? = some d→ai (dc ok) w v d→ai E' w' v d
 | [],hs,i,d,v,hd,h=>by simp at hd
 | x :: r,hs,0,d,v,hd,h=>by
  simp only [V.scalars,Bool.and_eq_true] at hs
  simp at hd;subst hd
  exact scalar_rep x hs.1 h
 | x :: r,hs,i+1,d,v,hd,h=>by
  simp only [V.scalars,Bool.and_eq_true] at hs
  exact scalars_rep r hs.2 i d v (by simpa using hd) h
end
theorem GG {ok:Nat→Prop} {E':av} (hok:∀ b,ok b→E'.ok b) {v:Value} {d:V} (h:ai (dc ok) w v d):ai E' w v d :=
 h.mono (E:=dc ok) (kl:=[]) hok (fun _ _=>rfl) (fun o (ho:False)=>ho.elim) (fun o (ho:False)=>ho.elim) (NS d)
theorem DC (hH:az E w H) (hf:fR E nid) {C:FuncId→Option CC} (hC:∀ f con,C f = some con→bD P f con) {f:FuncId} {args:List V} {xs:List Value} (hx:aJ E w xs args)
  (h:jn C H nid f args = some r) (hp:∀ p∈r.pre,p) :
  fy P f xs.toArray w fun v w'=>∃ E',cO E w H nid r E' w' v:=by
 unfold jn at h
 split at h
 ·cases h
 ·next m hm=>exact hC f (.mut m) hm E w H nid xs args r hH hf hx h hp
 ·next con hcon =>
  have hmeet:Mc P f con:=hC f (.pure con) hcon
  have view:∀ ok':Nat→Prop,(∀ b,E.ok b→ok' b)→((∀ q b,E.live q→E.conc q = some b→ok' b)∨gE args = false)→aJ (dc ok') w xs (V.views H args):=by
   intro ok' h1 h2
   refine ⟨by rw [gU];exact hx.1,fun i v d hv hd=>?_⟩
   rw [lw] at hd
   cases hy:args[i]? with
   | none=>rw [hy] at hd;cases hd
   | some y =>
    rw [hy] at hd;cases hd
    exact CR hH h1 (hx.2 i v y hv hy) (h2.imp id fun h=>CR.refs_nil (II h) hy)
  have dat:∀ (w':World),Below w.heap.size w w'→dH E w [] (E.next nid none 0 0 fun b=>E.ok b∨(w.heap.size≤b∧b < w'.heap.size)) w'∧az (E.next nid none 0 0 fun b=>E.ok b∨(w.heap.size≤b∧b < w'.heap.size)) w' H:=by
   intro w' hb
   refine ⟨cZ hf.one none 0 0 _ hb (by simp) (fun _ h=>.inl h) (fun b h=>h.imp id (·.1)),dw hf.one hH hb (by simp) (fun _ h=>.inl h) (fun b h=>h.imp id (·.1)) fun b h=>?_⟩
   rcases h with h | h
   ·have:=hH.oklt b h;have:=hb.size;omega
   ·exact h.2
  have full:∀ q b,E.live q→E.conc q = some b→(fun b=>E.ok b∨∃ q,E.live q∧E.conc q = some b) b:=fun q b hq hb=>.inr ⟨q,hq,hb⟩
  have fulllt:∀ b,(fun b=>E.ok b∨∃ q,E.live q∧E.conc q = some b) b→b < w.heap.size:=by
   rintro b (h | ⟨q,h1,h2⟩)
   ·exact hH.oklt b h
   ·exact hH.lt q b h1 h2
  split at h
  ·cases h
  ·next p v hcv =>
   cases hs:((!gE args)||v.scalar) with
   | false=>simp [hs] at h
   | true =>
    simp only [hs,cond_true,Option.some.injEq] at h
    subst h
    have hpp:p = true:=hp _ (by simp)
    cases ha:gE args with
    | false =>
     refine (hmeet E.ok w xs _ p _ (view E.ok (fun _ h=>h) (.inr ha)) hH.oklt hcv hpp).mono ?_
     rintro u w' ⟨hb,hout⟩
     obtain ⟨hS,hN⟩:=dat w' hb
     exact ⟨_,hS,hN,GG (fun _ h=>h) hout,bQ⟩
    | true =>
     have hsc:v.scalar = true:=by simpa [ha] using hs
     refine (hmeet _ w xs _ p _ (view _ (fun _ h=>.inl h) (.inl full)) fulllt hcv hpp).mono ?_
     rintro u w' ⟨hb,hout⟩
     obtain ⟨hS,hN⟩:=dat w' hb
     exact ⟨_,hS,hN,scalar_rep v hsc hout,bQ⟩
  ·next p v hcv =>
   cases h
   have hpp:p = true:=hp _ (by simp)
   refine (hmeet _ w xs _ p _ (view _ (fun _ h=>.inl h) (.inl full)) fulllt hcv hpp).mono ?_
   rintro u w' ⟨hb,hout⟩
   obtain ⟨hS,hN⟩:=dat w' hb
   exact ⟨_,hS,hN,GG (E':=E.next nid none 0 0 fun b=>E.ok b∨(w.heap.size≤b∧b < w'.heap.size)) (fun _ h=>Or.inr h) hout,bQ⟩
  ·next p fr e t l hcv =>
   cases hs:((!gE args)||fr) with
   | false=>simp [hs] at h
   | true =>
    simp only [hs,cond_true,Option.some.injEq] at h
    subst h
    have hpp:p = true:=hp _ (by simp)
    have fin:∀ (ok:Nat→Prop) (w':World) (u:Value),(fr = false→∀ b,ok b→E.ok b)→Below w.heap.size w w'→AG ok w w' u (.own fr e t l) →
      ∃ E',cO E w H nid { pre:=[p = true],val:=.row nid t.k,eff:=[(nid,some (.row e t l))] } E' w' u:=by
     rintro ok w' u hfr hb ⟨ys,hown,h7,h8⟩
     have hlt:=hown.lt
     have hown0:w'.ownsRow 0 e t.k u l.length ys:=⟨hown.1,hown.2.imp id fun ⟨g,cap,cur,a,_,c⟩=>⟨g,cap,cur,a,Nat.zero_le _,c⟩⟩
     let ok':Nat→Prop:=fun b=>E.ok b∨(w.heap.size≤b∧b < w'.heap.size∧u.ownBlock≠some b)
     have h1:∀ b,u.ownBlock = some b→w.heap.size≤b∧b < w'.heap.size∧¬ ok' b:=by
      intro b hb'
      obtain ⟨a1,a2⟩:=hlt b hb'
      refine ⟨a1,a2, ?_⟩
      rintro (h | ⟨_,_,h⟩)
      ·have:=hH.oklt b h;omega
      ·exact h hb'
     have h2:∀ b,ok' b→E.ok b∨w.heap.size≤b:=fun b h=>h.imp id (·.1)
     have h3:∀ b,ok' b→b < w'.heap.size:=by
      rintro b (h | h)
      ·have:=hH.oklt b h;have:=hb.size;omega
      ·exact h.2.1
     have hS:dH E w [] (E.next nid u.ownBlock (qm u) l.length ok') w':=cZ hf.one _ _ _ ok' hb (fun b h=>(h1 b h).1) (fun _ h=>.inl h) h2
     have hN:=dw (cap:=qm u) (len:=l.length) hf.one hH hb h1 (fun _ h=>.inl h) h2 h3
     have hob:=xc (E':=E.next nid u.ownBlock (qm u) l.length ok') (q:=nid) hown0 (by simp [av.next]) (by simp [av.next]) (by intro a m c e;simp [av.next,e,qm]) h7
      (fun i j d x hi hd hx=>(h8 i j d x hi hd hx).mono (fun b hb'=>by
       rcases hb' with ⟨h,h'⟩ | h
       ·exact .inl (hfr h b h')
       ·exact .inr h) fun _ _=>rfl)
     exact ⟨_,hS,lj hN (.inl rfl) hob.1,hob.2 (.inl rfl),bQ⟩
    cases ha:gE args with
    | false =>
     refine (hmeet E.ok w xs _ p _ (view E.ok (fun _ h=>h) (.inr ha)) hH.oklt hcv hpp).mono ?_
     rintro u w' ⟨hb,hout⟩
     obtain ⟨E',hP⟩:=fin _ w' u (fun _ _ h=>h) hb hout
     exact ⟨E',hP⟩
    | true =>
     have hfr:fr = true:=by simpa [ha] using hs
     refine (hmeet _ w xs _ p _ (view _ (fun _ h=>.inl h) (.inl full)) fulllt hcv hpp).mono ?_
     rintro u w' ⟨hb,hout⟩
     obtain ⟨E',hP⟩:=fin _ w' u (fun h=>by rw [hfr] at h;cases h) hb hout
     exact ⟨E',hP⟩
theorem aJ.cons_inv {x:Value} {xs:List Value} {ds:List V} (h:aJ E w (x :: xs) ds):∃ d ds',ds = d :: ds'∧ai E w x d∧aJ E w xs ds':=by
 match ds with
 | []=>have:=h.1;simp at this
 | d :: ds'=>exact ⟨d,ds',rfl,h.2 0 _ _ rfl rfl,by have:=h.1;simpa using this,fun i v d a b=>h.2 (i+1) v d a b⟩
theorem aJ.nil_inv {ds:List V} (h:aJ E w [] ds):ds = []:=List.eq_nil_of_length_eq_zero h.1.symm
def av.fz (E:av) (o:Nat):av where
  conc q:=if q = o then none else E.conc q
  cap:=E.cap
  len q:=if q = o then 0 else E.len q
  live:=E.live
  ok b:=E.ok b∨E.conc o = some b
theorem jD (o:Nat) (t:Ty) (l:List t.T):∀ vs:List V,(V.fzs o t l vs).length = vs.length
 | []=>rfl
 | _ :: r=>by simp [V.fzs,jD o t l r]
theorem qa (o:Nat) (t:Ty) (l:List t.T):∀ (vs:List V) (i:Nat),(V.fzs o t l vs)[i]? = (vs[i]?).map (V.fz o t l)
 | [],i=>by simp [V.fzs]
 | v :: r,0=>by simp [V.fzs]
 | v :: r,i+1=>by simp [V.fzs,qa o t l r i]
theorem u4 {q o:Nat} (h:q≠o):(E.fz o).conc q = E.conc q∧(E.fz o).cap q = E.cap q∧(E.fz o).len q = E.len q:=by simp [av.fz,h]
theorem nv {q o b:Nat} (h:(E.fz o).conc q = some b):q≠o∧E.conc q = some b:=by
 by_cases e:q = o
 ·simp [av.fz,e] at h
 ·exact ⟨e,by rwa [(u4 e).1] at h⟩
theorem Ek {o:Nat} (ho:E.live o):dH E w [o] (E.fz o) w :=
 ⟨rfl,rfl,rfl,Nat.le_refl _,fun _ h=>h,fun _ _ _=>rfl,fun _ h=>.inl h,fun b h=>h.elim .inl fun h=>.inr (.inr ⟨o,ho,h⟩),fun q _ hq=>u4 (by simpa using hq),fun q b hq h=>.inl ⟨q,hq,(nv h).2⟩⟩
theorem FD {o:Nat} (hH:az E w H) {e:TypeId} {t:Ty} {l:List t.T} (hg:H.get o = some (.row e t l)):az (E.fz o) w ((o,some (.row e t [])) :: eI [o] H):=by
 have ho:=(hH.at_ o _ hg).1
 have hrv:∀ v d,ai E w v d→ai (E.fz o) w v (d.kill o):=fun v d h=>ai.step (Ek ho) hH.sep hH.oklt h
 have hrd:∀ v d,aM E.ok w v d→aM (E.fz o).ok w v d:=fun v d h=>h.mono (fun _ h=>.inl h) fun _ _=>rfl
 refine ⟨fun q ob hq=>?_,fun q q' b hq hq' h h'=>hH.inj q q' b hq hq' (nv h).2 (nv h').2,fun q b hq h=>?_,fun q b hq h=>hH.lt q b hq (nv h).2,fun b h=>h.elim (hH.oklt b) (hH.lt o b ho)⟩
 ·rw [ae.get_cons] at hq
  split at hq
  ·next e1 =>
   subst e1;cases hq
   exact ⟨ho,by simp [av.fz], .inl ⟨by simp [av.fz],rfl⟩⟩
  ·next hne =>
   rw [fh] at hq
   obtain ⟨y,hy,hky⟩:=Bz hq
   obtain ⟨h1,h2⟩:=hH.at_ q y hy
   refine ⟨h1, ?_⟩
   obtain ⟨c1,c2,c3⟩:=u4 (E:=E) (fun e=>hne e.symm:q≠o)
   cases y with
   | box cs =>
    cases hky
    obtain ⟨hl,b,C,te,g1,g2,g3⟩:=h2
    refine ⟨c3.trans hl,b,C,te,c1.trans g1,g2,by rw [jk];exact g3.1,fun i v d hv hd=>?_⟩
    rw [nL] at hd
    cases hx':cs[i]? with
    | none=>rw [hx'] at hd;cases hd
    | some y=>rw [hx'] at hd;cases hd;exact hrv _ _ (g3.2 i v y hv hx')
   | raw x =>
    cases hky
    obtain ⟨hl,b,g1,g2⟩:=h2
    exact ⟨c3.trans hl,b,c1.trans g1,g2⟩
   | map t kt vt ks vs =>
    cases hky
    exact qn.mp h2 c1 c3 (fun _ _=>rfl) hrd
   | iter m s0 l0 =>
    cases hky
    obtain ⟨hl,b,bm,s,seen,c,g1,g2,g3,g4⟩:=h2
    exact ⟨c3.trans hl,b,bm,s,seen,c,c1.trans g1,g2,g3,hrv _ _ g4⟩
   | row te tt ll =>
    cases hky
    obtain ⟨hl,hh⟩:=h2
    refine ⟨c3.trans hl, ?_⟩
    rcases hh with ⟨g1,g2⟩ | ⟨b,C,g1,g2,g3,g4,g5,g6,g7,g8⟩
    ·exact .inl ⟨c1.trans g1,g2⟩
    ·exact .inr ⟨b,C,c1.trans g1,g2,by rw [c2];exact g3,by rw [c2];exact g4,by rw [c2];exact g5,g6,g7,fun i j d u a b c=>hrd _ _ (g8 i j d u a b c)⟩
 ·obtain ⟨h1,h2⟩:=nv h
  rintro (h3 | h3)
  ·exact hH.sep q b hq h2 h3
  ·exact h1 (hH.inj q o b hq ho h2 h3)
theorem Aq {o:Nat} (hH:az E w H) {e:TypeId} {t:Ty} {l:List t.T} (hg:H.get o = some (.row e t l)) {v:Value} {d:V} (h:ai E w v d):ai (E.fz o) w v (d.fz o t l):=by
 induction h with
 | c v d h=>exact .c v d (h.mono (fun _ h=>.inl h) fun _ _=>rfl)
 | agg vs ds hl h ih =>
  rw [V.fz]
  refine .agg _ _ (by rw [jD,hl]) fun i v d hv hd=>?_
  rw [qa] at hd
  cases hx:ds[i]? with
  | none=>rw [hx] at hd;cases hd
  | some x=>rw [hx] at hd;cases hd;exact ih i v x hv hx
 | tup vs ds hl h ih =>
  rw [V.fz]
  refine .tup _ _ (by rw [jD,hl]) fun i v d hv hd=>?_
  rw [qa] at hd
  cases hx:ds[i]? with
  | none=>rw [hx] at hd;cases hd
  | some x=>rw [hx] at hd;cases hd;exact ih i v x hv hx
 | ptr o' k i j b hn hb hi =>
  rw [V.fz]
  cases hq:Nat.beq o' o
  ·have hne:o'≠o:=fun e=>by subst e;simp at hq
   obtain ⟨c1,c2,c3⟩:=u4 (E:=E) hne
   exact .ptr o' k i j b hn (c1.trans hb) (by rw [c3];exact hi)
  ·exact .c _ _ (.unk _)
 | row o' k' a n' c hn hl hc hm h0 =>
  rw [V.fz]
  cases hq:Nat.beq o' o
  ·have hne:o'≠o:=fun e=>by subst e;simp at hq
   obtain ⟨c1,c2,c3⟩:=u4 (E:=E) hne
   exact .row o' k' a n' c hn (by rw [c3];exact hl) hc hm (by rw [c1,c2];exact h0)
  ·have:=Nat.eq_of_beq_eq_true hq
   subst this
   rw [cond_true]
   cases hk:Nat.beq t.k k' with
   | false=>exact .c _ _ (.unk _)
   | true =>
    rw [cond_true]
    have hr:=ai.row o' k' a n' c hn hl hc hm h0 (w:=w)
    obtain ⟨news,hsrc⟩:=o5 hH hr (show cC H t (.row o' k') = some l by simp [cC,hg,hk,l9])
    have hsrc':Km { E with live:=fun q=>q = o' } w (.slice a n' c) t.k l.length (els t l) news :=
     ⟨hsrc.form,fun ad n2 c2 he hn2=>by
      cases he
      rcases h0 with ⟨h0,_⟩ | ⟨b,hb,hab,_⟩
      ·cases h0
      ·cases hab
       exact .inr ⟨o',rfl,hb⟩,hsrc.len,hsrc.one,hsrc.els,hsrc.rep⟩
    exact .c _ _ (sU (E:={ E with live:=fun q=>q = o' }) (ok':=(E.fz o').ok) (fun _ h=>.inl h) (fun q b hq hb=>by
     have e1:q = o':=hq
     subst e1;exact .inr hb) hsrc')
 | sub o' k' off n' a c hn hc hm hl ha =>
  rw [V.fz]
  cases hq:Nat.beq o' o
  ·have hne:o'≠o:=fun e=>by subst e;simp at hq
   obtain ⟨c1,c2,c3⟩:=u4 (E:=E) hne
   exact .sub o' k' off n' a c hn hc hm (by rw [c3];exact hl) (by rw [c1];exact ha)
  ·have:=Nat.eq_of_beq_eq_true hq
   subst this
   rw [cond_true]
   cases hk:Nat.beq t.k k' with
   | false=>exact .c _ _ (.unk _)
   | true =>
    rw [cond_true]
    have hr:=ai.sub o' k' off n' a c hn hc hm hl ha (w:=w)
    have hlen:E.len o' = l.length:=(hH.at_ _ _ hg).2.1
    obtain ⟨news,hsrc⟩:=o5 hH hr (show cC H t (.sub o' k' off n') = some (ak l off n') by simp [cC,hg,hk,l9])
    have hsl:(ak l off n').length = n':=CU (by omega)
    have hsrc':Km { E with live:=fun q=>q = o' } w (.slice a n' c) t.k (ak l off n').length (els t (ak l off n')) news :=
     ⟨hsrc.form,fun ad n2 c2 he hn2=>by
      cases he
      obtain ⟨b,hb,hab⟩:=ha (by rw [hsl] at hn2;exact hn2)
      cases hab
      exact .inr ⟨o',rfl,hb⟩,hsrc.len,hsrc.one,hsrc.els,hsrc.rep⟩
    exact .c _ _ (sU (E:={ E with live:=fun q=>q = o' }) (ok':=(E.fz o').ok) (fun _ h=>.inl h) (fun q b hq hb=>by
     have e1:q = o':=hq
     subst e1;exact .inr hb) hsrc')
 | dptr k' cs j ad u hok hcell hl hu=>exact .dptr k' cs j ad u (.inl hok) hcell hl fun i d hd=>(hu i d hd).mono (fun _ h=>.inl h) fun _ _=>rfl
 | fn f vs ds hl h ih =>
  rw [V.fz]
  refine .fn _ _ _ (by rw [jD,hl]) fun i v d hv hd=>?_
  rw [qa] at hd
  cases hx:ds[i]? with
  | none=>rw [hx] at hd;cases hd
  | some x=>rw [hx] at hd;cases hd;exact ih i v x hv hx
theorem dH.trans1 {E1 E2:av} {o:Nat} {kl:List Nat} {w1:World} (h:dH E w [o] E1 w) (h':dH E1 w kl E2 w1) (hl:∀ q,E1.live q→E.live q) (hc:∀ q b,E1.conc q = some b→E.conc q = some b):dH E w (o :: kl) E2 w1 :=
 ⟨h'.os,h'.tape,h'.output,h'.size,fun q hq=>h'.live q (h.live q hq),fun b hb hn=>h'.blk b hb fun q hq hcq=>hn q (hl q hq) (hc q b hcq),fun b hb=>h'.ok b (h.ok b hb),fun b hb=>by
  rcases h'.okold b hb with g | g | ⟨q,g1,g2⟩
  ·exact h.okold b g
  ·exact .inr (.inl g)
  ·exact .inr (.inr ⟨q,hl q g1,hc q b g2⟩),fun q hq hn=>by
  have a1:=h.conc q hq (by simp at hn;simp [hn.1])
  have a2:=h'.conc q (h.live q hq) (by simp at hn;exact hn.2)
  exact ⟨a2.1.trans a1.1,a2.2.1.trans a1.2.1,a2.2.2.trans a1.2.2⟩,fun q b hq hb=>by
  rcases h'.concnew q b hq hb with ⟨q',g1,g2⟩ | g
  ·exact .inl ⟨q',hl q' g1,hc q' b g2⟩
  ·exact .inr g⟩
theorem wx (kl:List Nat) (o:Nat) (e:TypeId) (t:Ty) (l:List t.T):∀ H:ae,eI kl ((o,some (.row e t l)) :: H) = (o,some (.row e t l)) :: eI kl H:=by
 induction kl with
 | nil=>intro H;rfl
 | cons x r ih=>intro H;rw [eI,List.map_cons,eI];exact ih _
theorem yd {ws:List Value} {f:ae→List V→Option aF} {nid:Nat} {R:World→Value→Prop}
  (hf0:∀ (E:av) (H:ae) (vs:List V) (r:aF),az E w H→fR E nid→aJ E w ws vs→f H vs = some r→(∀ p∈r.pre,p)→∃ E' w' v',R w' v'∧cO E w H nid r E' w' v'):∀ (fl:List Nat) (E:av) (H:ae) (vs:List V) (r:aF),az E w H→fR E nid→aJ E w ws vs →
  j5 f fl H vs = some r→(∀ p∈r.pre,p)→∃ E' w' v',R w' v'∧cO E w H nid r E' w' v'
 | [],E,H,vs,r,hH,hf,hv,h,hp=>hf0 E H vs r hH hf hv h hp
 | q :: fl,E,H,vs,r,hH,hf,hv,h,hp=>by
  rw [j5] at h
  split at h
  ·next e t l hg =>
   have hq:=(hH.at_ q _ hg).1
   cases hb:j5 f fl ((q,some (.row e t [])) :: eI [q] H) (V.fzs q t l vs) with
   | none=>rw [hb] at h;cases h
   | some r0 =>
    rw [hb] at h;cases h
    obtain ⟨E',w',v',h1,h2⟩:=yd hf0 fl (E.fz q) _ _ r0 (FD hH hg) hf ⟨by rw [jD];exact hv.1,fun i v d hi hd=>by
     rw [qa] at hd
     cases hx:vs[i]? with
     | none=>rw [hx] at hd;cases hd
     | some x=>rw [hx] at hd;cases hd;exact Aq hH hg (hv.2 i v x hi hx)⟩ hb hp
    refine ⟨E',w',v',h1,(Ek hq).trans1 h2.st (fun _ h=>h) (fun _ _ h=>(nv h).2), ?_,h2.val,h2.live⟩
    have:=h2.heap
    rw [wx] at this
    rw [List.append_assoc]
    exact this
  ·cases h
theorem Mj {C:FuncId→Option CC} {f:FuncId} {args:List V} (h:rX C f nid H args = some r):jn C H nid f args = some r:=by
 unfold rX at h
 cases hb:V.noPs args with
 | false=>rw [hb] at h;cases h
 | true =>
  rw [hb,cond_true] at h
  split at h
  ·exact h
  ·cases h
theorem Il {ws:List Value} {f:ae→List V→Option aF} {nid:Nat} {g:FuncId}
  (hf0:∀ (E:av) (H:ae) (vs:List V) (r:aF),az E w H→fR E nid→aJ E w ws vs→f H vs = some r→(∀ p∈r.pre,p)→fy P g ws.toArray w fun v w'=>∃ E',cO E w H nid r E' w' v):∀ (fl:List Nat) (E:av) (H:ae) (vs:List V) (r:aF),az E w H→fR E nid→aJ E w ws vs →
  j5 f fl H vs = some r→(∀ p∈r.pre,p)→fy P g ws.toArray w fun v w'=>∃ E',cO E w H nid r E' w' v
 | [],E,H,vs,r,hH,hf,hv,h,hp=>hf0 E H vs r hH hf hv h hp
 | q :: fl,E,H,vs,r,hH,hf,hv,h,hp=>by
  rw [j5] at h
  split at h
  ·next e t l hg =>
   have hq:=(hH.at_ q _ hg).1
   cases hb:j5 f fl ((q,some (.row e t [])) :: eI [q] H) (V.fzs q t l vs) with
   | none=>rw [hb] at h;cases h
   | some r0 =>
    rw [hb] at h;cases h
    refine (Il hf0 fl (E.fz q) _ _ r0 (FD hH hg) hf ⟨by rw [jD];exact hv.1,fun i v d hi hd=>by
     rw [qa] at hd
     cases hx:vs[i]? with
     | none=>rw [hx] at hd;cases hd
     | some x=>rw [hx] at hd;cases hd;exact Aq hH hg (hv.2 i v x hi hx)⟩ hb hp).mono ?_
    rintro v' w' ⟨E',h2⟩
    refine ⟨E',(Ek hq).trans1 h2.st (fun _ h=>h) (fun _ _ h=>(nv h).2), ?_,h2.val,h2.live⟩
    have:=h2.heap
    rw [wx] at this
    rw [List.append_assoc]
    exact this
  ·cases h
theorem Oe (hH:az E w H) (hf:fR E nid) {C:FuncId→Option CC} (hC:∀ f con,C f = some con→bD P f con) {f:FuncId} {args:List V} {xs:List Value} (hx:aJ E w xs args)
  (h:qg C H nid f args = some r) (hp:∀ p∈r.pre,p) :
  fy P f xs.toArray w fun v w'=>∃ E',cO E w H nid r E' w' v:=by
 unfold qg at h
 split at h
 ·next r' hr=>cases h;exact DC hH hf hC hx hr hp
 ·exact Il (fun E H vs r hH hf hv h hp=>DC hH hf hC hv (Mj h) hp) _ E H args r hH hf hx h hp
theorem KQ {o:Oper} {nid:Nat} {t:TypeId} {len:Nat} {parts:Array (Nat × Operand)} {ρ:Operand→Value} (ho:o.op = .buildSlice t len parts) (hH:az E w H) (hf:fR E nid) {vs:List V} {r:aF} (hv:aJ E w (parts.toList.map fun p=>ρ p.2) vs)
  (h:Ol P nid t len (parts.toList.map (·.1)) H vs = some r) (hp:∀ p∈r.pre,p):∃ E' w' v',(execOp ρ o).run P w = .ok (.value v') w'∧cO E w H nid r E' w' v' :=
 yd (R:=fun w' v'=>(execOp ρ o).run P w = .ok (.value v') w') (fun E H vs r hH hf hv h _=>DH hH hf.one ho hv h) _ E H vs r hH hf hv h hp
theorem KN {o:Oper} {nid:Nat} {ρ:Operand→Value} (hH:az E w H) (hf:fR E nid) {t:TypeId} {a x:Operand} (ho:o.op = .store t a x) {va vx:V} {r:aF} (ha:ai E w (ρ a) va) (hx:ai E w (ρ x) vx) (h:wI P H t va vx = some r) (hp:∀ p∈r.pre,p) :
  ∃ E' w',(execOp ρ o).run P w = .ok .skip w'∧cO E w H nid r E' w' undef:=by
 unfold wI at h
 split at h
 ·split at h
  ·obtain ⟨E',w',v',⟨rfl,h1⟩,h2⟩:=yd (ws:=[ρ a,ρ x]) (R:=fun w' v'=>v' = undef∧(execOp ρ o).run P w = .ok .skip w') (fun E H vs r hH hf hv h hp=>by
    unfold wA at h
    split at h
    ·next a' x' =>
     obtain ⟨E',w',h1,h2⟩:=xm hH hf.one ho (hv.2 0 _ _ rfl rfl) (hv.2 1 _ _ rfl rfl) h hp
     exact ⟨E',w',undef,⟨rfl,h1⟩,h2⟩
    ·cases h) _ E H _ r hH hf ⟨rfl,fun i v d h1 h2=>by
     match i with
     | 0=>simp at h1 h2;subst h1 h2;exact ha
     | 1=>simp at h1 h2;subst h1 h2;exact hx
     | i+2=>simp at h1⟩ h hp
   exact ⟨E',w',h1,h2⟩
  ·exact xm hH hf.one ho ha hx h hp
 ·exact xm hH hf.one ho ha hx h hp
theorem PL (hH:az E w H) (hf:fR E nid) {C:FuncId→Option CC} (hC:∀ f con,C f = some con→bD P f con) {a:Act} {vs:List V} (hv:aJ E w ((dK o.op).map a.eval) vs)
  (h:rU P C H nid o vs = some r) (hp:∀ p∈r.pre,p) {K:Act→World→Prop} {Q:Exit→Act→World→Prop} (hK:∀ E' w' v',cO E w H nid r E' w' v'→K (a.put o.dst v') w'):o.wp P a w K Q:=by
 have fin:(∃ E' w' v',(execOp a.eval o).run P w = .ok (.value v') w'∧cO E w H nid r E' w' v')→o.wp P a w K Q:=by
  rintro ⟨E',w',v',h1,h2⟩
  unfold Oper.wp
  rw [h1]
  exact hK E' w' v' h2
 have finq:jj P a.eval o E w r→o.wp P a w K Q:=fun hq=>by
  obtain ⟨v',h1,h2⟩:=Mz hH hf.one hq
  exact fin ⟨_,w,v',h1,h2⟩
 unfold rU at h
 split at h
 ·next x d ho =>
  rw [ho] at hv
  cases h
  exact finq ⟨rfl,rfl,Mb ho (hv.2 0 _ _ rfl rfl)⟩
 ·next x d ho =>
  rw [ho] at hv
  cases h
  exact finq ⟨rfl,rfl,JP ho (hv.2 0 _ _ rfl rfl)⟩
 ·next t ho =>
  split at h
  ·next z hz=>exact fin (L9 hH hf.one ho hz h)
  ·cases h
 ·next t x d ho =>
  rw [ho] at hv
  exact fin (PK hH hf.one ho (hv.2 0 _ _ rfl rfl) h)
 ·next t parts vs ho =>
  rw [ho] at hv
  exact finq (Kt ho (by simpa [dK,Op.operands,List.map_map,Function.comp_def] using hv) h)
 ·next t len parts vs ho =>
  rw [ho] at hv
  exact fin (KQ ho hH hf (by simpa [dK,Op.operands,List.map_map,Function.comp_def] using hv) h hp)
 ·next t x d ho =>
  rw [ho] at hv
  exact finq (D0 hH ho (hv.2 0 _ _ rfl rfl) h hp)
 ·next t x y d e ho =>
  rw [ho] at hv
  obtain ⟨E',w',h1,h2⟩:=KN hH hf ho (hv.2 0 _ _ rfl rfl) (hv.2 1 _ _ rfl rfl) h hp
  unfold Oper.wp
  rw [h1]
  exact hK E' w' undef h2
 ·next x d ho =>
  rw [ho] at hv
  exact finq (Es ho (hv.2 0 _ _ rfl rfl) h)
 ·next op t x y ty d e ho =>
  rw [ho] at hv
  exact finq (N8 ho (hv.2 0 _ _ rfl rfl) (hv.2 1 _ _ rfl rfl) h hp)
 ·next op t x d ho =>
  rw [ho] at hv
  exact finq (PT ho (hv.2 0 _ _ rfl rfl) h)
 ·next s t x d ho =>
  rw [ho] at hv
  split at h
  ·next e hs hd =>
   split at h
   ·next he=>exact finq (Kz hH hs hd he ho (hv.2 0 _ _ rfl rfl) h)
   ·cases h
  ·exact finq (MK ho (hv.2 0 _ _ rfl rfl) h)
 ·next t x f d ho =>
  rw [ho] at hv
  exact finq (DL ho (hv.2 0 _ _ rfl rfl) h)
 ·next t x f d ho =>
  rw [ho] at hv
  exact finq (KG ho (hv.2 0 _ _ rfl rfl) h)
 ·next t x y d e ho =>
  rw [ho] at hv
  exact finq (D8 hH ho (hv.2 0 _ _ rfl rfl) (hv.2 1 _ _ rfl rfl) h hp)
 ·next t x y d e ho =>
  rw [ho] at hv
  exact finq (KI ho (hv.2 0 _ _ rfl rfl) (hv.2 1 _ _ rfl rfl) h hp)
 ·next t x d ho =>
  rw [ho] at hv
  exact finq (qr hH (dlo:=none) (dhi:=none) ho (hv.2 0 _ _ rfl rfl) (by simp) (by simp) (by simp) (by simp) h hp)
 ·next t x l d e ho =>
  rw [ho] at hv
  exact finq (qr hH (dlo:=some e) (dhi:=none) ho (hv.2 0 _ _ rfl rfl) (fun y hy=>by cases hy;exact ⟨_,rfl,hv.2 1 _ _ rfl rfl⟩) (by simp) (by simp) (by simp) h hp)
 ·next t x l d e ho =>
  rw [ho] at hv
  exact finq (qr hH (dlo:=none) (dhi:=some e) ho (hv.2 0 _ _ rfl rfl) (by simp) (by simp) (fun y hy=>by cases hy;exact ⟨_,rfl,hv.2 1 _ _ rfl rfl⟩) (by simp) h hp)
 ·next t x l hh d e g ho =>
  rw [ho] at hv
  exact finq (qr hH (dlo:=some e) (dhi:=some g) ho (hv.2 0 _ _ rfl rfl) (fun y hy=>by cases hy;exact ⟨_,rfl,hv.2 1 _ _ rfl rfl⟩) (by simp) (fun y hy=>by cases hy;exact ⟨_,rfl,hv.2 2 _ _ rfl rfl⟩) (by simp) h hp)
 ·next t l c d e ho =>
  rw [ho] at hv
  exact fin (Ep hH hf.one ho (hv.2 0 _ _ rfl rfl) (hv.2 1 _ _ rfl rfl) h hp)
 ·next vs f first caps ho =>
  rw [ho] at hv
  cases hf:(first.isEmpty&&Nat.blt f 1000000000) with
  | false=>rw [hf] at h;cases h
  | true =>
   rw [hf] at h
   simp only [cond_true,Option.some.injEq] at h
   subst h
   rw [Bool.and_eq_true] at hf
   have h0:first = #[]:=by simpa using hf.1
   subst h0
   exact finq ⟨rfl,rfl,E3 ho rfl hf.2 (by simpa [dK,Op.operands] using hv)⟩
 ·next t ho=>exact fin (Iy hH hf.one ho h)
 ·next t x y ok m k ho =>
  rw [ho] at hv
  exact finq (HJ hH ho (hv.2 0 _ _ rfl rfl) (hv.2 1 _ _ rfl rfl) h)
 ·next t x y z m k v ho =>
  rw [ho] at hv
  obtain ⟨E',w',v',⟨rfl,h1⟩,h2⟩:=yd (ws:=[a.eval x,a.eval y,a.eval z]) (R:=fun w' v'=>v' = undef∧(execOp a.eval o).run P w = .ok .skip w') (fun E H vs r hH hf hv h hp=>by
   obtain ⟨E',w',h1,h2⟩:=ME hH hf.one ho hv h
   exact ⟨E',w',undef,⟨rfl,h1⟩,h2⟩) _ E H _ r hH hf (by simpa [dK,Op.operands] using hv) h hp
  unfold Oper.wp
  rw [h1]
  exact hK E' w' undef h2
 ·next t x d ho =>
  rw [ho] at hv
  split at h
  ·next e hu =>
   cases hc:(V.isCell d&&Nat.blt t 1000000000) with
   | false=>rw [hc] at h;cases h
   | true =>
    rw [hc] at h
    simp only [cond_true,Option.some.injEq] at h
    subst h
    rw [Bool.and_eq_true] at hc
    have hlt:=hc.2
    exact finq ⟨rfl,rfl,yY hlt ho hu (hv.2 0 _ _ rfl rfl)⟩
  ·cases h
 ·next x ix d ho =>
  rw [ho] at hv
  exact finq (Ht ho (hv.2 0 _ _ rfl rfl) h hp)
 ·next t x d ho =>
  rw [ho] at hv
  split at h
  ·next r' hr'=>cases h;exact fin (Mk hH hf.one ho (hv.2 0 _ _ rfl rfl) hr')
  ·exact fin (K0 hH hf.one ho (hv.2 0 _ _ rfl rfl) h)
 ·next x d ho =>
  rw [ho] at hv
  exact fin (N6 hH hf.one ho (hv.2 0 _ _ rfl rfl) h)
 ·next x d ho =>
  rw [ho] at hv
  exact finq (J8 hH ho (hv.2 0 _ _ rfl rfl) h hp)
 ·next args argTypes d ho =>
  rw [ho] at hv
  obtain ⟨x,hx⟩:∃ x,args.toList = [x]:=by
   have h2:args.toList.length = 1:=by have:=hv.1;simpa [dK] using this
   match hl:args.toList,h2 with
   | [p],_=>exact ⟨p,rfl⟩
  have hargs:args = #[x]:=by rw [← Array.toArray_toList (xs:=args),hx]
  subst hargs
  split at h
  ·next t ht =>
   cases hu:P.underlying t with
   | none=>simp [wZ,hu] at h
   | some dd=>exact finq (NN hH ho rfl rfl ht hu (hv.2 0 _ _ rfl rfl) h)
  ·cases h
 ·next args argTypes d ho =>
  rw [ho] at hv
  obtain ⟨x,hx⟩:∃ x,args.toList = [x]:=by
   have h2:args.toList.length = 1:=by have:=hv.1;simpa [dK] using this
   match hl:args.toList,h2 with
   | [p],_=>exact ⟨p,rfl⟩
  have hargs:args = #[x]:=by rw [← Array.toArray_toList (xs:=args),hx]
  subst hargs
  split at h
  ·next t ht=>exact fin (Mg hH hf.one ho rfl rfl ht (hv.2 0 _ _ rfl rfl) h hp)
  ·cases h
 ·next vs _ _ args argTypes ho =>
  rw [ho] at hv
  cases hm:MZ vs with
  | none=>simp [hm] at h
  | some m =>
   simp only [hm,Option.map_some,Option.some.injEq] at h
   subst h
   exact finq ⟨rfl,rfl,Oa ho rfl (by simpa [dK] using hv) hm⟩
 ·next vs _ _ args argTypes ho =>
  rw [ho] at hv
  cases hm:LZ vs with
  | none=>simp [hm] at h
  | some m =>
   simp only [hm,Option.map_some,Option.some.injEq] at h
   subst h
   exact finq ⟨rfl,rfl,Oi ho rfl (by simpa [dK] using hv) hm⟩
 ·next args argTypes s x ho =>
  rw [ho] at hv
  obtain ⟨s',x',hsx⟩:∃ s' x',args.toList = [s',x']:=by
   have h2:args.toList.length = 2:=by have:=hv.1;simpa [dK] using this
   match hl:args.toList,h2 with
   | [p,q],_=>exact ⟨p,q,rfl⟩
  have hargs:args = #[s',x']:=by rw [← Array.toArray_toList (xs:=args),hsx]
  subst hargs
  split at h
  ·next t t' ht =>
   cases hb:Nat.beq t t' with
   | false=>simp [hb] at h
   | true =>
    have htt:t = t':=Nat.eq_of_beq_eq_true hb
    subst htt
    simp only [hb,cond_true] at h
    have hat:argTypes = #[t,t]:=by rw [← Array.toArray_toList (xs:=argTypes),ht]
    exact fin (Kx hH hf.one ho rfl rfl hat (hv.2 0 _ _ rfl rfl) (hv.2 1 _ _ rfl rfl) h hp)
  ·cases h
 ·next f args argTypes g caps ds ho =>
  rw [ho] at hv
  obtain ⟨_,_,e,hf,ha⟩:=aJ.cons_inv hv
  cases e
  generalize hfv:a.eval f = fv at hf
  cases hglt:Nat.blt g 1000000000 with
  | false=>rw [hglt] at h;cases h
  | true =>
  rw [hglt] at h
  simp only [cond_true] at h
  cases hf with
  | fn _ cs _ hcl hch =>
   rw [pM hglt] at hfv
   have hall:aJ E w (args.toList.map a.eval++cs) (ds++caps):=by
    refine ⟨by rw [List.length_append,List.length_append,ha.1,hcl],fun i v d hv' hd'=>?_⟩
    rw [List.getElem?_append] at hv' hd'
    rw [← ha.1] at hd'
    split at hv'
    ·next hlt=>rw [if_pos hlt] at hd'; exact ha.2 i v d hv' hd'
    ·next hge=>rw [if_neg hge] at hd'; exact hch _ v d hv' hd'
   have hcalls:=Oe hH hf hC hall h hp
   have hargs:args.map a.eval++cs.toArray = (args.toList.map a.eval++cs).toArray:=by
    rw [← Array.toArray_toList (xs:=args.map a.eval++cs.toArray)]
    simp
   have hrun:(execOp a.eval o).run P w = (callFunc g (args.toList.map a.eval++cs).toArray).run P w:=by
    simp only [execOp,ho,resolve,hfv,Deferred.ofValue,invoke,Sem.run_bind,Sem.run_pure,Result.andThen_ok,Array.empty_append,hargs]
   unfold Oper.wp
   rw [hrun]
   rcases hcalls with ⟨h1,h2⟩ | ⟨v,w',h1,E',hP⟩
   ·rw [h1]
    refine Calls.mono h2 ?_
    rintro e w' ⟨v,rfl,E',hP⟩
    exact hK E' w' v hP
   ·rw [h1]
    exact hK E' w' v hP
 ·cases h
end
end Go.Ax
namespace Go.Ax
open Go.RowKit
def kV (tm:List (Nat × aD)) (E:av) (w:World) (v:Value) (s:aD):Prop :=
 (holds tm s.ch = true→ai E w v s.v)∧(s.ch.all (fun x=>dI tm x.1) = true→holds tm s.ch = false→v = undef)
structure ga where
  W:World
  ok:Nat→Prop
  mb:Nat→Prop
  gh:Nat→Value:=fun _=>undef
def eE (B:ga) (a:Act) (t:Nat):Value:=if t < 1000000 then a.tmps.getD t undef else B.gh t
theorem vn {B:ga} {a:Act} {t:Nat} (h:t < 1000000):eE B a t = a.tmps.getD t undef:=if_pos h
structure wO (M:Nat→Prop) (n:Nat) (w w':World):Prop where
  os:w'.os = w.os
  tape:w'.tape = w.tape
  output:w'.output = w.output
  size:w.heap.size≤w'.heap.size
  block:∀ k,k < n→¬ M k→w'.heap[k]? = w.heap[k]?
theorem wO.refl (M:Nat→Prop) (n:Nat) (w:World):wO M n w w:=⟨rfl,rfl,rfl,Nat.le_refl _,fun _ _ _=>rfl⟩
theorem wO.below {n:Nat} {w w':World} (h:wO (fun _=>False) n w w'):Below n w w':=⟨h.os,h.tape,h.output,h.size,fun k hk=>h.block k hk (fun h=>h)⟩
structure bt (N:Nat) (B:ga) (σ:St) (E:av) (a:Act) (w:World):Prop where
  size:a.tmps.size = N
  small:N≤1000000
  defers:a.defers = []
  live:∀ q,σ.nx≤q→¬ E.live q
  heap:az E w σ.hp
  slots:∀ t s,ax σ.tm t = some s→kV σ.tm E w (eE B a t) s
  base:wO B.mb B.W.heap.size B.W w
  own:∀ o b,E.live o→E.conc o = some b→B.W.heap.size≤b∨B.mb b
  okold:∀ b,E.ok b→B.ok b∨B.W.heap.size≤b∨B.mb b
section
variable {P:Program} {N:Nat} {B:ga} {σ:St} {E:av} {a:Act} {w:World}
theorem Du {a b:Nat} (h:a≠b):Nat.beq a b = false:=by
 cases hb:Nat.beq a b
 ·rfl
 ·exact (h (Nat.eq_of_beq_eq_true hb)).elim
theorem bw (t':Nat) (s:aD) (r:List (Nat × aD)) (t:Nat):ax ((t',s) :: r) t = if t' = t then some s else ax r t:=by
 rw [ax]
 by_cases h:t' = t
 ·subst h;simp
 ·rw [Du h];simp [h]
theorem lF:∀ (tm:List (Nat × aD)) (t:Nat) (s:aD) (t':Nat),ax (gV tm t s) t' = if t = t' then some s else ax tm t'
 | [],t,s,t'=>by rw [gV,bw]
 | (q,x) :: r,t,s,t'=>by
  rw [gV]
  by_cases h:q = t
  ·subst h
   rw [show Nat.beq q q = true by simp,cond_true,bw,bw]
   split <;> rfl
  ·rw [Du h,cond_false]
   cases Nat.blt t q
   ·rw [cond_false,bw,lF r,bw]
    by_cases h1:q = t'
    ·rw [if_pos h1,if_pos h1,if_neg (by omega)]
    ·rw [if_neg h1,if_neg h1]
   ·rw [cond_true,bw]
theorem xY (f:aD→aD):∀ (tm:List (Nat × aD)) (t:Nat),ax (tm.map fun x=>(x.1,f x.2)) t = (ax tm t).map f
 | [],t=>rfl
 | (q,x) :: r,t=>by
  rw [List.map_cons,bw,bw,xY f r]
  split <;> rfl
theorem l5:∀ (kl:List Nat) (tm:List (Nat × aD)) (t:Nat),ax (rY kl tm) t = (ax tm t).map fun s=>{ ch:=s.ch,v:=s.v.killAll kl }
 | [],tm,t=>by simp [rY,V.killAll]
 | o :: r,tm,t=>by
  rw [rY,l5 r,xY (fun s=>{ ch:=s.ch,v:=s.v.kill o })]
  cases ax tm t <;> simp [V.killAll]
def bq:Option aD→Option Bool
 | some { v:=.c (.lit (.bool b)), .. }=>some b
 | _=>none
theorem mu {s:Option aD} {b:Bool} (h:bq s = some b):∃ ch,s = some { ch,v:=.c (.lit (.bool b)) }:=by
 unfold bq at h
 split at h
 ·next ch b'=>cases h;exact ⟨ch,rfl⟩
 ·cases h
theorem fe (tm:List (Nat × aD)) (t:Nat) (w:Bool) (r:aP):holds tm ((t,w) :: r) = ((match bq (ax tm t) with | some b=>(b == w) | none=>false)&&holds tm r):=by
 rw [holds]
 congr 1
 cases hb:bq (ax tm t) with
 | some b =>
  obtain ⟨ch,e⟩:=mu hb
  rw [e]
  cases w <;> cases b <;> rfl
 | none =>
  split
  ·next h=>rw [h] at hb;simp [bq] at hb
  ·rfl
theorem iK {tm tm':List (Nat × aD)}:∀ (ch:aP),(∀ x∈ch,bq (ax tm' x.1) = bq (ax tm x.1))→holds tm' ch = holds tm ch
 | [],_=>rfl
 | (t,w) :: r,h=>by
  rw [fe,fe,h (t,w) (by simp),iK r fun x hx=>h x (by simp [hx])]
theorem z6:∀ (kl:List Nat) (b:Bool),(V.c (.lit (.bool b))).killAll kl = .c (.lit (.bool b))
 | [],_=>rfl
 | o :: r,b=>by rw [V.killAll,V.kill,z6 r]
theorem Hu (o:Nat) (v:V) (b:Bool) (h:v.kill o = .c (.lit (.bool b))):v = .c (.lit (.bool b)):=by
 cases v with
 | c d=>simpa [V.kill] using h
 | agg vs=>simp [V.kill] at h
 | tup vs=>simp [V.kill] at h
 | ptr o' k i j=>rw [V.kill] at h;cases hb:Nat.beq o' o <;> simp [hb] at h
 | row o' k=>rw [V.kill] at h;cases hb:Nat.beq o' o <;> simp [hb] at h
 | sub o' k i j=>rw [V.kill] at h;cases hb:Nat.beq o' o <;> simp [hb] at h
 | dptr k cs j=>simp [V.kill] at h
 | fn f vs=>simp [V.kill] at h
theorem tD:∀ (kl:List Nat) (v:V) (b:Bool),v.killAll kl = .c (.lit (.bool b))→v = .c (.lit (.bool b))
 | [],v,b,h=>h
 | o :: r,v,b,h=>Hu o v b (tD r _ b h)
theorem Bv (kl:List Nat) (s:Option aD):bq (s.map fun s=>{ ch:=s.ch,v:=s.v.killAll kl }) = bq s:=by
 cases s with
 | none=>rfl
 | some s =>
  obtain ⟨ch,v⟩:=s
  by_cases h:∃ b,v = .c (.lit (.bool b))
  ·obtain ⟨b,rfl⟩:=h
   simp [bq,z6]
  ·have h2:bq (some { ch,v }) = none:=by
    cases hb:bq (some { ch,v }) with
    | none=>rfl
    | some b=>obtain ⟨ch',e⟩:=mu hb;cases e;exact (h ⟨b,rfl⟩).elim
   rw [h2]
   cases hb:bq (Option.map (fun s:aD=>{ ch:=s.ch,v:=s.v.killAll kl }) (some { ch,v })) with
   | none=>rfl
   | some b =>
    obtain ⟨ch',e⟩:=mu hb
    simp only [Option.map_some,Option.some.injEq,aD.mk.injEq] at e
    exact (h ⟨b,tD kl v b e.2⟩).elim
theorem KB (kl:List Nat) (tm:List (Nat × aD)) (ch:aP):holds (rY kl tm) ch = holds tm ch :=
 iK ch fun x _=>by rw [l5,Bv]
theorem Gg {tm:List (Nat × aD)} {ch':aP} (h':holds tm ch' = true):∀ (ch:aP),qv ch ch' = true→holds tm ch = true
 | [],_=>rfl
 | (t,w) :: r,h=>by
  simp only [qv,List.all_cons,Bool.and_eq_true] at h
  obtain ⟨h1,h2⟩:=h
  rw [fe,Bool.and_eq_true]
  refine ⟨?_,Gg h' r h2⟩
  unfold O5 at h1
  obtain ⟨y,hy,hyt⟩:=List.any_eq_true.1 h1
  simp only [Bool.and_eq_true,Nat.beq_eq,beq_iff_eq] at hyt
  obtain ⟨e1,e2⟩:=hyt
  have key:∀ (ch':aP),y∈ch'→holds tm ch' = true→(match bq (ax tm y.1) with | some b=>(b == y.2) | none=>false) = true:=by
   intro ch'
   induction ch' with
   | nil=>intro hy;simp at hy
   | cons z l ih =>
    intro hy hh
    obtain ⟨zt,zw⟩:=z
    rw [fe,Bool.and_eq_true] at hh
    rcases List.mem_cons.1 hy with rfl | hy
    ·exact hh.1
    ·exact ih hy hh.2
  have:=key ch' hy h'
  rw [← e1, ← e2] at this
  exact this
theorem Py (f:FuncId) (hlt:Nat.blt f 1000000000 = true):ai E w (.func (.func f) #[] #[]) (.fn f []):=by
 have e:nU f [] = .func (.func f) #[] #[]:=pM hlt []
 rw [← e]
 exact .fn f [] [] rfl fun i v d h=>by simp at h
theorem cL (hs:bt N B σ E a w) {ch:aP} (hh:holds σ.tm ch = true) {x:Operand} {v:V} (h:bW σ ch x = some v):ai E w (a.eval x) v:=by
 unfold bW at h
 split at h
 ·next t =>
  cases hlow:Nat.blt t 1000000 with
  | false=>simp [hlow] at h
  | true =>
  rw [hlow,cond_true] at h
  split at h
  ·next s hg =>
   cases hc:qv s.ch ch with
   | false=>simp [hc] at h
   | true =>
    simp only [hc,cond_true,Option.some.injEq] at h
    subst h
    have:=(hs.slots t s hg).1 (Gg hh _ hc)
    rw [vn (by simpa using hlow)] at this
    exact this
  ·cases h
 ·cases h;exact wc _
 ·next f =>
  cases hlt:Nat.blt f 1000000000 with
  | false=>rw [hlt] at h;cases h
  | true=>rw [hlt] at h;cases h;exact Py _ hlt
 ·cases h
theorem Bm (hs:bt N B σ E a w) {ch:aP} (hh:holds σ.tm ch = true):∀ {xs:List Operand} {vs:List V},k7 σ ch xs = some vs→aJ E w (xs.map a.eval) vs
 | [],vs,h=>by simp [k7] at h;subst h;exact .nil
 | x :: xs,vs,h=>by
  unfold k7 at h
  rw [List.mapM_cons] at h
  simp only [Option.bind_eq_bind,Option.pure_def,Option.bind_eq_some_iff,Option.some.injEq] at h
  obtain ⟨d,hd,ds,hds,rfl⟩:=h
  have ih:=Bm hs hh (xs:=xs) hds
  refine ⟨by simp [ih.1],fun i v d' hv hd'=>?_⟩
  match i with
  | 0=>simp at hv hd'; subst hv;subst hd'; exact cL hs hh hd
  | i+1=>exact ih.2 i v d' (by simpa using hv) (by simpa using hd')
theorem mw {ops:Array Oper} (hs:bt N B σ E a w) {o:Oper} {ch:aP} (h:cU ops.toList σ.tm o.guard = some ch) (hb:ch.all (fun x=>dI σ.tm x.1) = true):Region.wanted o (yielded ops a.tmps) = holds σ.tm ch:=by
 unfold cU at h
 split at h
 ·next hg=>cases h;simp [Region.wanted,hg,holds]
 ·next j wt hg =>
  split at h
  ·next oj hj =>
   split at h
   ·next t ht =>
    cases hlow:Nat.blt t 1000000 with
    | false=>simp [hlow] at h
    | true =>
    rw [hlow,cond_true] at h
    split at h
    ·next ch' b hgt =>
     cases h
     have hj':ops[j]? = some oj:=by rw [← Array.getElem?_toList];exact hj
     rw [fe,hgt]
     simp only [bq,Region.wanted,hg,yielded,hj',Option.bind_some,ht]
     have hsl:=hs.slots t _ hgt
     rw [vn (by simpa using hlow)] at hsl
     cases hh:holds σ.tm ch' with
     | true =>
      have hr:=(hsl.1 hh).lit_inv
      have:a.tmps[t]? = some (.bool b):=by
       rw [Array.getD_eq_getD_getElem?] at hr
       cases hx:a.tmps[t]? with
       | none=>rw [hx] at hr;simp [undef] at hr
       | some x=>rw [hx] at hr;simpa using hr
      rw [this]
      cases b <;> cases wt <;> rfl
     | false =>
      have hr:=hsl.2 (by simp only [List.all_cons,Bool.and_eq_true] at hb;exact hb.2) hh
      rw [Bool.and_false]
      rw [Array.getD_eq_getD_getElem?] at hr
      cases hx:a.tmps[t]? with
      | none=>rfl
      | some x=>rw [hx] at hr;simp at hr;subst hr;rfl
    ·cases h
   ·cases h
  ·cases h
theorem KJ (hs:bt N B σ E a w) {ch:aP} (hh:holds σ.tm ch = true) {c x y:Operand} {v:V} (h:uQ σ ch c x y = some v) :
  ∃ b:Bool,a.eval c = .bool b∧ai E w (if b then a.eval x else a.eval y) v:=by
 unfold uQ at h
 split at h
 ·next b hc =>
  have hcb:=(cL hs hh hc).lit_inv
  refine ⟨b,hcb, ?_⟩
  have key:∀ (want:Bool),b = want→∀ (z:Operand) (u:V),bW σ (qf c want ch) z = some u→ai E w (a.eval z) u:=by
   intro want hw z u hz
   cases c with
   | tmp t =>
    have:holds σ.tm ((t,want) :: ch) = true:=by
     rw [fe,hh,Bool.and_true]
     cases hg:ax σ.tm t with
     | none=>simp [bW,hg] at hc
     | some s =>
      cases hsc:qv s.ch ch with
      | false=>simp [bW,hg,hsc] at hc
      | true =>
       have hl:Nat.blt t 1000000 = true:=by
        cases hl:Nat.blt t 1000000 with
        | true=>rfl
        | false=>simp [bW,hl] at hc
       simp only [bW,hg,hsc,hl,cond_true,Option.some.injEq] at hc
       have:bq (some s) = some b:=by obtain ⟨sc,sv⟩:=s;simp only at hc;subst hc;rfl
       rw [this,hw]
       cases want <;> rfl
    exact cL hs this hz
   | const _=>exact cL hs hh hz
   | global _=>exact cL hs hh hz
   | func _=>exact cL hs hh hz
  have bv:∀ {o:Option V} {v:V},Hx o = some v→o = some v:=by
   intro o v h
   unfold Hx at h
   split at h
   ·cases h;rfl
   ·cases h
  cases b with
  | true=>rw [cond_true] at h;exact key true rfl _ _ (bv h)
  | false=>rw [cond_false] at h;exact key false rfl _ _ (bv h)
 ·cases h
theorem Ma (hs:bt N B σ E a w) {ch:aP} (hh:holds σ.tm ch = true) {c x y:Operand} {v:V} (h:qq σ ch c x y = some v) :
  ∃ b:Bool,a.eval c = .bool b∧ai E w (if b then a.eval x else a.eval y) v:=by
 unfold qq at h
 split at h
 ·next b hc =>
  have hcb:=(cL hs hh hc).lit_inv
  refine ⟨b,hcb, ?_⟩
  split at h
  ·next p q hx hy =>
   cases h
   have key:∀ (want:Bool),b = want→∀ (z:Operand) (u:V),bW σ (qf c want ch) z = some u→ai E w (a.eval z) u:=by
    intro want hw z u hz
    cases c with
    | tmp t =>
     have:holds σ.tm ((t,want) :: ch) = true:=by
      rw [fe,hh,Bool.and_true]
      cases hg:ax σ.tm t with
      | none=>simp [bW,hg] at hc
      | some s =>
       cases hsc:qv s.ch ch with
       | false=>simp [bW,hg,hsc] at hc
       | true =>
        have hl:Nat.blt t 1000000 = true:=by
         cases hl:Nat.blt t 1000000 with
         | true=>rfl
         | false=>simp [bW,hl] at hc
        simp only [bW,hg,hsc,hl,cond_true,Option.some.injEq] at hc
        have:bq (some s) = some b:=by obtain ⟨sc,sv⟩:=s;simp only at hc;subst hc;rfl
        rw [this,hw]
        cases want <;> rfl
     exact cL hs this hz
    | const _=>exact cL hs hh hz
    | global _=>exact cL hs hh hz
    | func _=>exact cL hs hh hz
   cases hb:b with
   | true =>
    subst hb
    have:=key true rfl x _ hx
    simpa using this
   | false =>
    subst hb
    have:=key false rfl y _ hy
    simpa using this
  ·cases h
 ·cases h
theorem O4 {t t':Nat} {v:Value} (ht:t < a.tmps.size):(a.put (some t) v).tmps.getD t' undef = if t = t' then v else a.tmps.getD t' undef:=by
 simp only [Act.put,Array.getD_eq_getD_getElem?,Array.getElem?_setIfInBounds]
 by_cases h:t = t'
 ·subst h;simp [ht]
 ·simp [h]
theorem OF {t t':Nat} {v:Value} (ht:t < a.tmps.size) (hl:t < 1000000):eE B (a.put (some t) v) t' = if t = t' then v else eE B a t':=by
 unfold eE
 rw [O4 ht]
 by_cases h:t = t'
 ·subst h;rw [if_pos hl,if_pos rfl,if_pos rfl]
 ·simp only [if_neg h]
theorem s9 (d:Nat) (tm:List (Nat × aD)) (t:Nat):ax (nG d tm) t = (ax tm t).map fun s=>bif s.ch.any (fun y=>Nat.beq y.1 d) then ⟨[], .c .unk⟩ else s :=
 xY (fun s=>bif s.ch.any (fun y=>Nat.beq y.1 d) then ⟨[], .c .unk⟩ else s) tm t
theorem QE {d:Nat} {ch:aP} (h:ch.any (fun y=>Nat.beq y.1 d) = false):∀ x∈ch,x.1≠d:=by
 intro x hx e
 have:=List.any_eq_false.1 h x hx
 rw [e] at this
 simp at this
theorem Kb {d:Nat} {ch:aP} (h:ik (some d) ch = true):∀ x∈ch,x.1≠d:=by
 intro x hx e
 have:=List.all_eq_true.1 h x hx
 rw [e] at this
 simp at this
theorem kh {tm:List (Nat × aD)} {t:Nat}:dI tm t = (bq (ax tm t)).isSome:=by
 unfold dI
 cases h:ax tm t with
 | none=>rfl
 | some s =>
  obtain ⟨ch,v⟩:=s
  simp only
  unfold V.isBool bq
  split <;> simp_all
theorem BC {tm:List (Nat × aD)}:∀ (ch:aP),holds tm ch = true→ch.all (fun x=>dI tm x.1) = true
 | [],_=>rfl
 | (t,w) :: r,h=>by
  rw [fe,Bool.and_eq_true] at h
  simp only [List.all_cons,Bool.and_eq_true]
  refine ⟨?_,BC r h.2⟩
  rw [kh]
  cases hb:bq (ax tm t) with
  | none=>rw [hb] at h;simp at h
  | some b=>rfl
theorem gA {tm tm':List (Nat × aD)} {E':av} {w':World} {v:Value} {s:aD} (h:kV tm E' w' v s) (hb:∀ x∈s.ch,dI tm' x.1 = true→bq (ax tm' x.1) = bq (ax tm x.1)):kV tm' E' w' v s:=by
 have key:s.ch.all (fun x=>dI tm' x.1) = true→holds tm' s.ch = holds tm s.ch∧s.ch.all (fun x=>dI tm x.1) = true:=by
  intro ha
  have h1:∀ x∈s.ch,bq (ax tm' x.1) = bq (ax tm x.1):=fun x hx=>hb x hx (List.all_eq_true.1 ha x hx)
  refine ⟨iK _ h1,List.all_eq_true.2 fun x hx=>?_⟩
  have:=List.all_eq_true.1 ha x hx
  rw [kh] at this ⊢
  rw [← h1 x hx];exact this
 refine ⟨fun hh=>?_,fun ha hh=>?_⟩
 ·have:=key (BC _ hh)
  exact h.1 (by rw [← this.1];exact hh)
 ·have:=key ha
  exact h.2 this.2 (by rw [← this.1];exact hh)
theorem It {d:Nat} {tm:List (Nat × aD)} {t:Nat} (h:dI (nG d tm) t = true):bq (ax (nG d tm) t) = bq (ax tm t):=by
 rw [kh] at h
 rw [s9] at h ⊢
 cases hx:ax tm t with
 | none=>rfl
 | some s =>
  rw [hx] at h
  simp only [Option.map_some] at h ⊢
  cases hc:s.ch.any (fun y=>Nat.beq y.1 d) with
  | false=>rfl
  | true=>rw [hc] at h;simp [bq] at h
theorem Gz {tm:List (Nat × aD)} {E':av} {w':World} {ch:aP} {d:Nat} {v:V} {v':Value} (hlt:d < a.tmps.size) (hlow:d < 1000000) (hsl:∀ t s,ax tm t = some s→kV tm E' w' (eE B a t) s)
  (hcd:∀ x∈ch,x.1≠d) (hv:kV tm E' w' v' { ch,v }):∀ t s,ax (gV (nG d tm) d { ch,v }) t = some s→kV (gV (nG d tm) d { ch,v }) E' w' (eE B (a.put (some d) v') t) s:=by
 have hb:∀ c:aP,(∀ x∈c,x.1≠d)→∀ x∈c,dI (gV (nG d tm) d { ch,v }) x.1 = true→bq (ax (gV (nG d tm) d { ch,v }) x.1) = bq (ax tm x.1):=by
  intro c hc x hx h
  rw [kh,lF,if_neg (fun e=>hc x hx e.symm)] at h
  rw [lF,if_neg (fun e=>hc x hx e.symm)]
  exact It (by rw [kh];exact h)
 intro t s hg
 rw [lF] at hg
 rw [OF hlt hlow]
 split at hg
 ·next e =>
  subst e;cases hg
  rw [if_pos rfl]
  exact gA hv (hb ch hcd)
 ·next e =>
  rw [if_neg e]
  rw [s9] at hg
  cases hx:ax tm t with
  | none=>rw [hx] at hg;cases hg
  | some y =>
   rw [hx] at hg
   simp only [Option.map_some,Option.some.injEq] at hg
   cases hc:y.ch.any (fun y=>Nat.beq y.1 d) with
   | true =>
    rw [hc,cond_true] at hg;subst hg
    exact ⟨fun _=>.unk _,fun _ h=>by simp [holds] at h⟩
   | false =>
    rw [hc,cond_false] at hg;subst hg
    exact gA (hsl t _ hx) (hb _ (QE hc))
theorem Mn {kl:List Nat} {tm:List (Nat × aD)} {E':av} {w':World} (hr:∀ v d,ai E w v d→ai E' w' v (d.killAll kl)) (hsl:∀ t s,ax tm t = some s→kV tm E w (eE B a t) s) :
  ∀ t s,ax (rY kl tm) t = some s→kV (rY kl tm) E' w' (eE B a t) s:=by
 intro t s hg
 rw [l5] at hg
 cases hx:ax tm t with
 | none=>rw [hx] at hg;cases hg
 | some y =>
  rw [hx] at hg;cases hg
  refine gA (tm:=tm) ⟨fun h=>hr _ _ ((hsl t y hx).1 h),(hsl t y hx).2⟩ fun x _ _=>?_
  rw [l5,Bv]
theorem ve (hs:bt N B σ E a w) {rc:bI} {E':av} {w':World} {v':Value} {M:Nat} (hM:σ.nx≤M) (hnid:rc.nid+8≤M) (hP:cO E w σ.hp rc.nid rc.res E' w' v') (hh:holds σ.tm rc.ch = true)
  (hd:ij N rc.dst = true) (hn:rc.ch.isEmpty = true∨ik rc.dst rc.ch = true):bt N B { after σ rc with nx:=M } E' (a.put rc.dst v') w':=by
 have hlive:∀ q,M≤q→¬ E'.live q:=by
  intro q hq h
  rcases hP.live q h with h | h
  ·exact hs.live q (by omega) h
  ·omega
 have hown:∀ o b,E'.live o→E'.conc o = some b→B.W.heap.size≤b∨B.mb b:=by
  intro o b ho h
  rcases hP.st.concnew o b ho h with ⟨o,h1,h2⟩ | h
  ·exact hs.own o b h1 h2
  ·have:=hs.base.size;exact .inl (by omega)
 have hold:∀ b,E'.ok b→B.ok b∨B.W.heap.size≤b∨B.mb b:=by
  intro b hb
  rcases hP.st.okold b hb with h | h | ⟨o,h1,h2⟩
  ·exact hs.okold b h
  ·have:=hs.base.size;exact .inr (.inl (by omega))
  ·exact .inr (hs.own o b h1 h2)
 have hbase:wO B.mb B.W.heap.size B.W w':=by
  refine ⟨hP.st.os.trans hs.base.os,hP.st.tape.trans hs.base.tape,hP.st.output.trans hs.base.output,Nat.le_trans hs.base.size hP.st.size,fun k hk hm=>?_⟩
  rw [hP.st.blk k (by have:=hs.base.size;omega) fun o ho h=>by
   rcases hs.own o k ho h with h | h
   ·omega
   ·exact hm h]
  exact hs.base.block k hk hm
 have hkill:=Mn (kl:=rc.res.kill) (E':=E') (w':=w') (fun v d h=>h.step hP.st hs.heap.sep hs.heap.oklt) hs.slots
 cases hdst:rc.dst with
 | none =>
  refine ⟨hs.size,hs.small,hs.defers,hlive,hP.heap,fun t s hg=>?_,hbase,hown,hold⟩
  simp only [after,hdst] at hg ⊢
  exact hkill t s hg
 | some d =>
  rw [hdst] at hd hn
  simp only [ij,Nat.blt_eq] at hd
  have hlt:d < a.tmps.size:=by rw [hs.size];exact hd
  have hcd:∀ x∈rc.ch,x.1≠d:=by
   rcases hn with hn | hn
   ·intro x hx;rw [List.isEmpty_iff.1 hn] at hx;simp at hx
   ·exact Kb hn
  refine ⟨by simp [Act.put,hs.size],hs.small,hs.defers,hlive,hP.heap, ?_,hbase,hown,hold⟩
  simp only [after,hdst]
  refine Gz hlt (by have:=hs.small;omega) hkill hcd ⟨fun _=>hP.val,fun _ h=>?_⟩
  rw [KB,hh] at h
  cases h
end
end Go.Ax
namespace Go.Ax
open Go.RowKit
section
variable {P:Program} {N:Nat} {B:ga} {σ σ':St} {E:av} {a:Act} {w:World} {C:FuncId→Option CC}
theorem BV (hs:bt N B σ E a w) {rc:bI} {M:Nat} (hf:¬ E.live rc.nid) (hM:σ.nx≤M) (hnid:rc.nid+8≤M) (hh:holds σ.tm rc.ch = false) (he:rc.res.eff = []) (hk:rc.res.kill = []) (hn:ik rc.dst rc.ch = true)
  (hd:ij N rc.dst = true):bt N B { after σ rc with nx:=M } (E.next rc.nid none 0 0 E.ok) (a.put rc.dst undef) w:=by
 have hS:dH E w [] (E.next rc.nid none 0 0 E.ok) w:=cZ hf none 0 0 E.ok (.refl _ _) (by simp) (fun _ h=>h) (fun _ h=>.inl h)
 have hN:az (E.next rc.nid none 0 0 E.ok) w σ.hp:=dw hf hs.heap (.refl _ _) (by simp) (fun _ h=>h) (fun _ h=>.inl h) hs.heap.oklt
 have hown:∀ o b,(E.next rc.nid none 0 0 E.ok).live o→(E.next rc.nid none 0 0 E.ok).conc o = some b→B.W.heap.size≤b∨B.mb b:=by
  intro o b ho h
  rcases hS.concnew o b ho h with ⟨o,h1,h2⟩ | h
  ·exact hs.own o b h1 h2
  ·have:=hs.base.size;exact .inl (by omega)
 have hlive:∀ q,M≤q→¬ (E.next rc.nid none 0 0 E.ok).live q:=by
  rintro q hq (h | h)
  ·omega
  ·exact hs.live q (by omega) h
 have hslot:∀ t s,ax σ.tm t = some s→kV σ.tm (E.next rc.nid none 0 0 E.ok) w (eE B a t) s:=fun t s hg =>
  ⟨fun h=>gR hs.heap hS ((hs.slots t s hg).1 h),(hs.slots t s hg).2⟩
 have hkT:rY rc.res.kill σ.tm = σ.tm:=by rw [hk];rfl
 have hkH:rc.res.eff++eI rc.res.kill σ.hp = σ.hp:=by rw [he,hk];rfl
 cases hdst:rc.dst with
 | none =>
  refine ⟨hs.size,hs.small,hs.defers,hlive,by simp only [after];rw [hkH];exact hN,fun t s hg=>?_,hs.base,hown,hs.okold⟩
  simp only [after,hdst] at hg ⊢
  rw [hkT] at hg ⊢
  exact hslot t s hg
 | some d =>
  rw [hdst] at hd hn
  simp only [ij,Nat.blt_eq] at hd
  have hlt:d < a.tmps.size:=by rw [hs.size];exact hd
  refine ⟨by simp [Act.put,hs.size],hs.small,hs.defers,hlive,by simp only [after];rw [hkH];exact hN, ?_,hs.base,hown,hs.okold⟩
  simp only [after,hdst]
  rw [hkT]
  refine Gz hlt (by have:=hs.small;omega) hslot (Kb hn) ⟨fun h=>?_,fun _ _=>rfl⟩
  have h':holds σ.tm rc.ch = true:=h
  rw [hh] at h'
  cases h'
theorem PZ {tm:List (Nat × aD)} {ch:aP} {ps:List Prop} (h:∀ p∈mZ tm ch ps,p) (hh:holds tm ch = true):∀ p∈ps,p:=by
 intro p hp
 cases ch with
 | nil=>exact h p hp
 | cons x l=>exact h _ (List.mem_map.2 ⟨p,hp,rfl⟩) hh
theorem rK {tm:List (Nat × aD)} {c ch:aP} (h:ch.all (fun x=>dR tm c x.1) = true):ch.all (fun x=>dI tm x.1) = true:=by
 refine List.all_eq_true.2 fun x hx=>?_
 have:=List.all_eq_true.1 h x hx
 unfold dR at this
 unfold dI
 split at this
 ·simp only [Bool.and_eq_true] at this;exact this.1
 ·cases this
theorem nE {ops:List Oper} {nid:Nat} {o:Oper} {rc:bI} (h:tR P C N ops σ nid o = some rc) :
  ij N o.dst = true∧cU ops σ.tm o.guard = some rc.ch∧rc.ch.all (fun x=>dR σ.tm rc.ch x.1) = true∧lB P C σ nid rc.ch o = some (rc.vs,rc.res) ∧
   (rc.ch.isEmpty||ik o.dst rc.ch) = true∧rc.dst = o.dst∧rc.nid = nid∧rc.rds = lv (dK o.op)++rc.ch.map (·.1)∧rc.reach = aX σ.hp (lk o rc.vs)∧rc.rws = nw σ.hp (lk o rc.vs):=by
 unfold tR at h
 cases hd:ij N o.dst with
 | false=>simp [hd] at h
 | true =>
  simp only [hd,cond_true] at h
  split at h
  ·next ch hch =>
   cases hb:ch.all (fun x=>dR σ.tm ch x.1) with
   | false=>simp [hb] at h
   | true =>
    simp only [hb,cond_true] at h
    split at h
    ·next vs r hr =>
     cases hc:(ch.isEmpty||ik o.dst ch) with
     | false=>simp [hc] at h
     | true =>
      simp only [hc,cond_true,Option.some.injEq] at h
      subst h
      exact ⟨rfl,hch,hb,hr,hc,rfl,rfl,rfl,rfl,rfl⟩
    ·cases h
  ·cases h
theorem Fp {ops:List Oper} {nid:Nat} {o:Oper} {rc:bI} (h:nT P C N ops σ nid o = some rc):tR P C N ops σ nid o = some rc∧AY rc = true:=by
 unfold nT at h
 split at h
 ·next r hr =>
  cases hn:AY r with
  | false=>rw [hn] at h;cases h
  | true=>rw [hn] at h;cases h;exact ⟨hr,hn⟩
 ·cases h
def fG (P:Program) (C:FuncId→Option CC) (N:Nat) (ops:List Oper) (σ:St) (nid:Nat) (o:Oper) (rc:bI):Prop :=
 (tR P C N ops σ nid o = some rc∧(holds σ.tm rc.ch = true∨AY rc = true)) ∨
 (rc = P9 P o rc.ch nid∧ij N o.dst = true∧cU ops σ.tm o.guard = some rc.ch∧rc.ch.all (fun x=>dR σ.tm rc.ch x.1) = true∧ik o.dst rc.ch = true∧holds σ.tm rc.ch = false)
theorem fG.of {ops:List Oper} {nid:Nat} {o:Oper} {rc:bI} (h:nT P C N ops σ nid o = some rc):fG P C N ops σ nid o rc:=.inl ⟨(Fp h).1, .inr (Fp h).2⟩
theorem PC {H:ae} {nid:Nat} {ch:aP} {o:Oper} {vs:List V} {r:aF} (h:zl P C H nid ch o vs = some r) (hp:∀ p∈r.pre,p):rU P C H nid o vs = some r:=by
 unfold zl at h
 split at h
 ·next r' hr=>cases h;exact hr
 ·cases hc:ch.isEmpty with
  | true=>rw [hc] at h;cases h
  | false =>
   rw [hc] at h;cases h
   have:=hp (false = true) (by simp)
   cases this
theorem EG (hC:∀ f con,C f = some con→bD P f con) (hs:bt N B σ E a w) {ops:Array Oper} {i:Nat} {o:Oper} (hi:ops[i]? = some o) {nid M:Nat} (hf:fR E nid) (hM:σ.nx≤M) (hnid:nid+8≤M)
  {rc:bI} (h0:fG P C N ops.toList σ nid o rc) (hp:∀ p∈mZ σ.tm rc.ch rc.res.pre,p) {K:Act→World→Prop} {Q:Exit→Act→World→Prop}
  (hK:∀ E' a' w',bt N B { after σ rc with nx:=M } E' a' w'→(∀ q,E'.live q→E.live q∨nid≤q∧q < nid+8)→K a' w'):wpOp P ops Q i K a w:=by
 rcases h0 with ⟨h,hne0⟩ | ⟨e,hd,hch,hb,hn,hh⟩
 rotate_left
 ·have e1:rc.dst = o.dst:=by rw [e];rfl
  have e2:rc.nid = nid:=by rw [e];rfl
  rw [← e1] at hd hn
  rw [← e2] at hnid hf hK
  unfold wpOp
  rw [hi]
  simp only
  rw [mw hs hch (rK hb), ← e1,hh,if_neg (by simp)]
  exact hK _ _ _ (BV hs hf.one hM hnid hh (by rw [e];rfl) (by rw [e];rfl) hn hd) bQ
 obtain ⟨hd,hch,hb,hr,hc,e1,e2,_,_⟩:=nE h
 rw [← e1] at hd hc
 rw [← e2] at hnid hf hK
 unfold wpOp
 rw [hi]
 simp only
 rw [mw hs hch (rK hb), ← e1]
 cases hh:holds σ.tm rc.ch with
 | false =>
  rw [if_neg (by simp)]
  have hne:rc.ch.isEmpty = false:=by
   cases hx:rc.ch with
   | nil=>rw [hx] at hh;simp [holds] at hh
   | cons=>rfl
  rw [hne,Bool.false_or] at hc
  have hno:=hne0.resolve_left (by rw [hh];simp)
  unfold AY at hno
  rw [hne,Bool.false_or] at hno
  simp only [Bool.and_eq_true,List.isEmpty_iff] at hno
  exact hK _ _ _ (BV hs hf.one hM hnid hh hno.1 hno.2 hc hd) bQ
 | true =>
  rw [if_pos rfl]
  left
  have hpp:=PZ hp hh
  have hn:rc.ch.isEmpty = true∨ik rc.dst rc.ch = true:=by
   simpa only [Bool.or_eq_true] using hc
  unfold lB at hr
  split at hr
  ·next c x y ho =>
   have hpk:∃ v,rc.res = { val:=v }∧∃ b:Bool,a.eval c = .bool b∧ai E w (if b then a.eval x else a.eval y) v:=by
    cases hv:qq σ rc.ch c x y with
    | some v =>
     simp only [hv,Option.some.injEq,Prod.mk.injEq] at hr
     exact ⟨v,hr.2.symm,Ma hs hh hv⟩
    | none =>
     simp only [hv] at hr
     cases hv2:uQ σ rc.ch c x y with
     | none=>simp [hv2] at hr
     | some v =>
      simp only [hv2,Option.map_some,Option.some.injEq,Prod.mk.injEq] at hr
      exact ⟨v,hr.2.symm,KJ hs hh hv2⟩
   obtain ⟨v,hrv,b,hb,hrep⟩:=hpk
   have hr:([]:List V) = []∧({ val:=v }:aF) = rc.res:=⟨rfl,hrv.symm⟩
   ·unfold Oper.wp
    have hrun:(execOp a.eval o).run P w = .ok (.value (if b then a.eval x else a.eval y)) w:=by
     simp [execOp,ho,hb,asBool]
    rw [hrun]
    have hP:cO E w σ.hp rc.nid rc.res (E.next rc.nid none 0 0 E.ok) w (if b then a.eval x else a.eval y):=by
     have hS:dH E w [] (E.next rc.nid none 0 0 E.ok) w:=cZ hf.one none 0 0 E.ok (.refl _ _) (by simp) (fun _ h=>h) (fun _ h=>.inl h)
     rw [← hr.2]
     exact ⟨hS,dw hf.one hs.heap (.refl _ _) (by simp) (fun _ h=>h) (fun _ h=>.inl h) hs.heap.oklt,gR hs.heap hS hrep,bQ⟩
    have hfin:=hK _ _ _ (ve hs hM hnid hP hh hd hn) hP.live
    rw [e1] at hfin
    exact hfin
  ·next op hnp =>
   split at hr
   ·next vs hvs =>
    cases hov0:zl P C σ.hp nid rc.ch o vs with
    | none=>simp [hov0] at hr
    | some r =>
     simp only [hov0,Option.map_some,Option.some.injEq,Prod.mk.injEq] at hr
     obtain ⟨rfl,rfl⟩:=hr
     have hov:=PC hov0 hpp
     rw [← e2] at hov
     refine PL hs.heap hf hC (Bm hs hh hvs) hov hpp fun E' w' v' hP=>?_
     have hfin:=hK _ _ _ (ve hs hM hnid hP hh hd hn) hP.live
     rw [e1] at hfin
     exact hfin
   ·cases hr
theorem KU (tm:List (Nat × aD)) (t:Nat):ax (nZ tm) t = (ax tm t).map fun s=>bif s.ch.isEmpty then s else ⟨[], .c .unk⟩ :=
 xY (fun s=>bif s.ch.isEmpty then s else ⟨[], .c .unk⟩) tm t
theorem CM (hs:bt N B σ E a w):bt N B { σ with tm:=nZ σ.tm } E a w:=by
 refine ⟨hs.size,hs.small,hs.defers,hs.live,hs.heap,fun t s hg=>?_,hs.base,hs.own,hs.okold⟩
 simp only at hg ⊢
 rw [KU] at hg
 cases hx:ax σ.tm t with
 | none=>rw [hx] at hg;cases hg
 | some y =>
  rw [hx] at hg
  simp only [Option.map_some,Option.some.injEq] at hg
  cases hc:y.ch.isEmpty with
  | false =>
   rw [hc,cond_false] at hg;subst hg
   exact ⟨fun _=>.unk _,fun _ h=>by simp [holds] at h⟩
  | true =>
   rw [hc,cond_true] at hg;subst hg
   have hch:y.ch = []:=List.isEmpty_iff.1 hc
   have:=hs.slots t y hx
   exact ⟨fun _=>this.1 (by rw [hch];rfl),fun _ h=>by rw [hch] at h;simp [holds] at h⟩
inductive AA (P:Program) (C:FuncId→Option CC) (N:Nat) (all:List Oper):List Oper→St→St→Prop
  | nil (σ:St):AA P C N all [] σ { σ with tm:=nZ σ.tm }
  | cons (o:Oper) (r:List Oper) (σ σ':St) (rc:bI) (h:fG P C N all σ σ.nx o rc) (hp:∀ p∈mZ σ.tm rc.ch rc.res.pre,p) (hr:AA P C N all r { after σ rc with nx:=σ.nx+8 } σ'):AA P C N all (o :: r) σ σ'
theorem Cj (hC:∀ f con,C f = some con→bD P f con) {ops:Array Oper} {Q:Exit→Act→World→Prop}:∀ (rest:List Oper) (i:Nat) (σ σ':St) (E:av) (a:Act) (w:World),
  ops.toList.drop i = rest→AA P C N ops.toList rest σ σ'→bt N B σ E a w→(∀ E' a' w',bt N B σ' E' a' w'→Q .normal a' w')→wpOps P ops Q (List.range' i rest.length) a w
 | [],i,σ,σ',E,a,w,hd,hg,hs,hQ=>by
  cases hg
  exact hQ _ _ _ (CM hs)
 | o :: rest,i,σ,σ',E,a,w,hd,hg,hs,hQ=>by
  cases hg with
  | cons _ _ _ _ rc h1 hp hr =>
   have hi:ops[i]? = some o:=by
    have:=congrArg (·[0]?) hd
    simpa using this
   rw [List.length_cons,List.range'_succ,wpOps_cons]
   refine EG (M:=σ.nx+8) hC hs hi (.of hs.live (Nat.le_refl _)) (Nat.le_add_right _ _) (Nat.le_refl _) h1 hp fun E' a' w' hs' _=>?_
   refine Cj hC rest (i+1) { after σ rc with nx:=σ.nx+8 } _ E' a' w' ?_ hr hs' hQ
   rw [← List.drop_drop,hd]
   rfl
theorem N3 (hC:∀ f con,C f = some con→bD P f con) {id:Nat} {ops:Array Oper} {Q:Exit→Act→World→Prop} (hg:AA P C N ops.toList ops.toList σ σ')
  (hs:bt N B σ E a w) (hQ:∀ E' a' w',bt N B σ' E' a' w'→Q .normal a' w'):(Code.region id ops false).wp P Q a w:=by
 refine wp_region ?_
 have:=Cj hC (Q:=Q) ops.toList 0 σ σ' E a w rfl hg hs hQ
 rw [List.range_eq_range']
 simpa using this
end
end Go.Ax
namespace Go.Ax
open Go.RowKit
section
variable {P:Program} {N:Nat} {B:ga} {σ σ':St} {E:av} {a:Act} {w:World} {C:FuncId→Option CC}
theorem DV:∀ {ps:List Prop} {Q:Prop},Fj ps Q→(∀ p∈ps,p)∧Q
 | [],_,h=>⟨fun p hp=>by simp at hp,h⟩
 | p :: ps,Q,h=>by
  obtain ⟨h1,h2⟩:=DV h.2
  refine ⟨fun q hq=>?_,h2⟩
  rcases List.mem_cons.1 hq with rfl | hq
  ·exact h.1
  ·exact h1 q hq
theorem NA {ps:List Prop} {Q Q':Prop} (hq:Q→Q'):Fj ps Q→Fj ps Q':=by
 induction ps with
 | nil=>exact hq
 | cons p ps ih=>exact fun h=>⟨h.1,ih h.2⟩
theorem I2 (hs:bt N B σ E a w) {t:Nat} {s:aD} (hg:ax σ.tm t = some s):bt N B { σ with tm:=gV σ.tm t s } E a w:=by
 have hx:∀ x,ax (gV σ.tm t s) x = ax σ.tm x:=by
  intro x
  rw [lF]
  split
  ·next e=>subst e;exact hg.symm
  ·rfl
 refine ⟨hs.size,hs.small,hs.defers,hs.live,hs.heap,fun q y hq=>?_,hs.base,hs.own,hs.okold⟩
 simp only at hq ⊢
 rw [hx] at hq
 exact gA (tm:=σ.tm) (hs.slots q y hq) fun z _ _=>by rw [hx]
theorem JX (hC:∀ f con,C f = some con→bD P f con) (hs:bt N B σ E a w) {ops:Array Oper} {i:Nat} {o:Oper} (hi:ops[i]? = some o) {ch:aP} (hch:cU ops.toList σ.tm o.guard = some ch)
  (hb:ch.all (fun x=>dI σ.tm x.1) = true) (hh:holds σ.tm ch = true) {k:St→Prop} (h:qi P C N ops.toList σ o k) {K:Act→World→Prop} {Q:Exit→Act→World→Prop}
  (hK:∀ σ' E' a' w',k σ'→bt N B σ' E' a' w'→K a' w'):wpOp P ops Q i K a w:=by
 unfold qi at h
 split at h
 ·next rc hr =>
  obtain ⟨hp,hk⟩:=DV h
  have hr':nT P C N (#[{ o with guard:=none }]:Array Oper).toList σ σ.nx { o with guard:=none } = some rc:=hr
  have hch0:rc.ch = []:=by
   obtain ⟨_,h1,_⟩:=nE (Fp hr).1
   have:cU ops.toList σ.tm none = some rc.ch:=h1
   simpa [cU] using this.symm
  have:=EG (Q:=Q) (M:=σ.nx+8) hC hs (ops:=#[{ o with guard:=none }]) (i:=0) rfl (.of hs.live (Nat.le_refl _)) (Nat.le_add_right _ _) (Nat.le_refl _) (.of hr') (by rw [hch0];exact hp)
   (K:=K) fun E' a' w' hs' _=>hK _ E' a' w' hk hs'
  unfold wpOp at this ⊢
  rw [hi]
  simp only
  rw [mw hs hch hb,hh,if_pos rfl]
  have e:(#[{ o with guard:=none }]:Array Oper)[0]? = some { o with guard:=none }:=rfl
  rw [e] at this
  simp only [Region.wanted,if_true] at this
  exact this
 ·exact h.elim
theorem Ft (hs:bt N B σ E a w) {ops:Array Oper} {i:Nat} {o:Oper} (hi:ops[i]? = some o) {ch:aP} (hch:cU ops.toList σ.tm o.guard = some ch)
  (hb:ch.all (fun x=>dI σ.tm x.1) = true) (hh:holds σ.tm ch = false) {k:St→Prop} (h:qd N σ o ch k) {K:Act→World→Prop} {Q:Exit→Act→World→Prop}
  (hK:∀ σ' E' a' w',k σ'→bt N B σ' E' a' w'→K a' w'):wpOp P ops Q i K a w:=by
 unfold qd at h
 cases hc:(ij N o.dst&&ik o.dst ch) with
 | false=>rw [hc] at h;exact h.elim
 | true =>
  rw [hc,cond_true] at h
  rw [Bool.and_eq_true] at hc
  unfold wpOp
  rw [hi]
  simp only
  rw [mw hs hch hb,hh,if_neg (by simp)]
  exact hK _ _ _ _ h (BV hs (rc:=FT o ch σ.nx) (hs.live _ (Nat.le_refl _)) (Nat.le_add_right _ _) (Nat.le_refl _) hh rfl rfl hc.2 hc.1)
theorem OC (hC:∀ f con,C f = some con→bD P f con) {ops:Array Oper} {Q:Exit→Act→World→Prop}:∀ (rest:List Oper) (i:Nat) (σ:St) (K:St→Prop) (E:av) (a:Act) (w:World),
  ops.toList.drop i = rest→uP P C N ops.toList rest σ K→bt N B σ E a w→(∀ σ' E' a' w',K σ'→bt N B σ' E' a' w'→Q .normal a' w')→wpOps P ops Q (List.range' i rest.length) a w
 | [],i,σ,K,E,a,w,hd,hg,hs,hQ=>by
  rw [uP] at hg
  exact hQ _ _ _ _ hg (CM hs)
 | o :: rest,i,σ,K,E,a,w,hd,hg,hs,hQ=>by
  have hi:ops[i]? = some o:=by
   have:=congrArg (·[0]?) hd
   simpa using this
  have hd':ops.toList.drop (i+1) = rest:=by
   rw [← List.drop_drop,hd];rfl
  have next:∀ σ' E' a' w',uP P C N ops.toList rest σ' K→bt N B σ' E' a' w'→wpOps P ops Q (List.range' (i+1) rest.length) a' w' :=
   fun σ' E' a' w' h hs'=>OC hC rest (i+1) σ' K E' a' w' hd' h hs' hQ
  rw [List.length_cons,List.range'_succ,wpOps_cons]
  rw [uP] at hg
  split at hg
  ·next hgn=>exact JX hC hs hi (ch:=[]) (by rw [hgn];rfl) rfl rfl hg next
  ·next g hgn =>
   split at hg
   ·next t wt ch hch =>
    cases hb:((t,wt) :: ch).all (fun x=>dR σ.tm ((t,wt) :: ch) x.1) with
    | false=>rw [hb] at hg;exact hg.elim
    | true =>
     rw [hb,cond_true] at hg
     have hbs:=rK hb
     rw [← hgn] at hch
     split at hg
     ·next c0 b hgt =>
      cases hh:holds σ.tm ch with
      | false =>
       rw [hh,cond_false] at hg
       exact Ft hs hi hch hbs (by rw [fe,hh,Bool.and_false]) hg next
      | true =>
       rw [hh,cond_true] at hg
       have hhold:holds σ.tm ((t,wt) :: ch) = (b == wt):=by rw [fe,hh,Bool.and_true,hgt];rfl
       have hsame:∀ b',b = b'→(∀ x,ax (gV σ.tm t ⟨c0,bl b'⟩) x = ax σ.tm x):=by
        intro b' e x
        subst e
        rw [lF]
        split
        ·next e=>subst e;exact hgt.symm
        ·rfl
       have hgc:∀ b',b = b'→cU ops.toList (gV σ.tm t ⟨c0,bl b'⟩) o.guard = some ((t,wt) :: ch):=by
        intro b' e
        rw [← hch]
        unfold cU
        split
        ·rfl
        ·split
         ·split
          ·rw [hsame b' e]
          ·rfl
         ·rfl
       have hbc:∀ b',b = b'→((t,wt) :: ch).all (fun x=>dI (gV σ.tm t ⟨c0,bl b'⟩) x.1) = true:=by
        intro b' e
        rw [← hbs]
        congr 1
        funext x
        unfold dI
        rw [hsame b' e]
       have hho:∀ b',b = b'→holds (gV σ.tm t ⟨c0,bl b'⟩) ((t,wt) :: ch) = (b' == wt):=by
        intro b' e
        rw [iK (tm:=σ.tm) _ fun x _=>by rw [hsame b' e],hhold,e]
       cases hbv:b with
       | true =>
        rw [hbv,cond_true] at hg
        have hs':=I2 hs hgt
        rw [hbv] at hs'
        cases wt with
        | true=>rw [cond_true] at hg;exact JX hC hs' hi (hgc true hbv) (hbc true hbv) (hho true hbv) hg next
        | false=>rw [cond_false] at hg;exact Ft hs' hi (hgc true hbv) (hbc true hbv) (hho true hbv) hg next
       | false =>
        rw [hbv,cond_false] at hg
        have hs':=I2 hs hgt
        rw [hbv] at hs'
        cases wt with
        | true=>rw [cond_true] at hg;exact Ft hs' hi (hgc false hbv) (hbc false hbv) (hho false hbv) hg next
        | false=>rw [cond_false] at hg;exact JX hC hs' hi (hgc false hbv) (hbc false hbv) (hho false hbv) hg next
     ·exact hg.elim
   ·exact hg.elim
theorem Nc (hC:∀ f con,C f = some con→bD P f con) {id:Nat} {ops:Array Oper} {Q:Exit→Act→World→Prop} {K:St→Prop} (hg:uP P C N ops.toList ops.toList σ K)
  (hs:bt N B σ E a w) (hQ:∀ σ' E' a' w',K σ'→bt N B σ' E' a' w'→Q .normal a' w'):(Code.region id ops false).wp P Q a w:=by
 refine wp_region ?_
 have:=OC hC (Q:=Q) ops.toList 0 σ K E a w rfl hg hs hQ
 rw [List.range_eq_range']
 simpa using this
theorem ym {all:List Oper} {o:Oper} {k k':St→Prop} (hk:∀ σ,k σ→k' σ) (h:qi P C N all σ o k):qi P C N all σ o k':=by
 unfold qi at h ⊢
 split at h
 ·next rc hr=>exact NA (hk _) h
 ·exact h.elim
theorem xw {o:Oper} {ch:aP} {k k':St→Prop} (hk:∀ σ,k σ→k' σ) (h:qd N σ o ch k):qd N σ o ch k':=by
 unfold qd at h ⊢
 cases hc:(ij N o.dst&&ik o.dst ch) with
 | false=>rw [hc] at h;exact h.elim
 | true=>rw [hc,cond_true] at h;rw [cond_true];exact hk _ h
end
end Go.Ax
namespace Go.Ax
open Go.RowKit
section
variable {P:Program} {N:Nat} {B:ga} {σ σ':St} {E:av} {a:Act} {w:World} {C:FuncId→Option CC}
mutual
theorem kill_noUnk (o:Nat):∀ v:V,(v.kill o).noUnk = true→v.kill o = v
 | .c _,_=>rfl
 | .agg vs,h=>by simp only [V.kill,V.noUnk] at h ⊢; rw [kills_noUnk o vs h]
 | .tup vs,h=>by simp only [V.kill,V.noUnk] at h ⊢; rw [kills_noUnk o vs h]
 | .ptr o' k i j,h=>by
  rw [V.kill] at h ⊢
  cases hb:Nat.beq o' o
  ·rfl
  ·rw [hb] at h;simp [V.noUnk] at h
 | .row o' k,h=>by
  rw [V.kill] at h ⊢
  cases hb:Nat.beq o' o
  ·rfl
  ·rw [hb] at h;simp [V.noUnk] at h
 | .sub o' k i j,h=>by
  rw [V.kill] at h ⊢
  cases hb:Nat.beq o' o
  ·rfl
  ·rw [hb] at h;simp [V.noUnk] at h
 | .dptr ..,_=>rfl
 | .fn _ vs,h=>by simp only [V.kill,V.noUnk] at h ⊢; rw [kills_noUnk o vs h]
theorem kills_noUnk (o:Nat):∀ vs:List V,V.noUnks (V.kills o vs) = true→V.kills o vs = vs
 | [],_=>rfl
 | v :: r,h=>by
  simp only [V.kills,V.noUnks,Bool.and_eq_true] at h ⊢
  rw [kill_noUnk o v h.1,kills_noUnk o r h.2]
end
theorem mM:∀ (kl:List Nat) (v:V),(v.killAll kl).noUnk = true→v.killAll kl = v
 | [],_,_=>rfl
 | o :: r,v,h=>by
  rw [V.killAll] at h ⊢
  have h1:=mM r _ h
  rw [h1] at h ⊢
  exact kill_noUnk o v h
mutual
theorem kill_norefs (o:Nat):∀ v:V,v.refs = []→v.kill o = v
 | .c _,_=>rfl
 | .agg vs,h=>by simp only [V.kill];rw [kills_norefs o vs h]
 | .tup vs,h=>by simp only [V.kill];rw [kills_norefs o vs h]
 | .ptr o' k i j,h=>by simp [V.refs] at h
 | .row o' k,h=>by simp [V.refs] at h
 | .sub o' k i j,h=>by simp [V.refs] at h
 | .dptr ..,_=>rfl
 | .fn _ vs,h=>by simp only [V.kill];rw [kills_norefs o vs h]
theorem kills_norefs (o:Nat):∀ vs:List V,V.refss vs = []→V.kills o vs = vs
 | [],_=>rfl
 | v :: r,h=>by
  simp only [V.refss,List.append_eq_nil_iff] at h
  simp only [V.kills]
  rw [kill_norefs o v h.1,kills_norefs o r h.2]
end
mutual
theorem kill_disj (o:Nat):∀ (v:V),o ∉ v.refs→v.kill o = v
 | .c _,_=>rfl
 | .agg vs,h=>by rw [V.kill,kills_disj o vs (by rw [V.refs] at h;exact h)]
 | .tup vs,h=>by rw [V.kill,kills_disj o vs (by rw [V.refs] at h;exact h)]
 | .ptr o' k i j,h=>by
  rw [V.kill]
  cases hb:Nat.beq o' o with
  | false=>rfl
  | true=>exact (h (by rw [V.refs,Nat.eq_of_beq_eq_true hb];simp)).elim
 | .row o' k,h=>by
  rw [V.kill]
  cases hb:Nat.beq o' o with
  | false=>rfl
  | true=>exact (h (by rw [V.refs,Nat.eq_of_beq_eq_true hb];simp)).elim
 | .sub o' k i j,h=>by
  rw [V.kill]
  cases hb:Nat.beq o' o with
  | false=>rfl
  | true=>exact (h (by rw [V.refs,Nat.eq_of_beq_eq_true hb];simp)).elim
 | .dptr ..,_=>rfl
 | .fn f vs,h=>by rw [V.kill,kills_disj o vs (by rw [V.refs] at h;exact h)]
theorem kills_disj (o:Nat):∀ (vs:List V),o ∉ V.refss vs→V.kills o vs = vs
 | [],_=>rfl
 | v :: r,h=>by
  rw [V.refss,List.mem_append] at h
  rw [V.kills,kill_disj o v (fun e=>h (.inl e)),kills_disj o r (fun e=>h (.inr e))]
end
theorem jq:∀ (kl:List Nat) (v:V),(∀ q∈v.refs,q ∉ kl)→v.killAll kl = v
 | [],_,_=>rfl
 | o :: r,v,h=>by
  rw [V.killAll,kill_disj o v (fun ho=>h o ho (by simp)),jq r v fun q hq hr=>h q hq (by simp [hr])]
theorem lA {a b:List Nat} (h:ML a b = true):∀ x∈a,x ∉ b:=by
 intro x hx hb
 have:=List.all_eq_true.1 h x hx
 simp only [Bool.not_eq_true'] at this
 have:=List.any_eq_false.1 this x hb
 simp at this
theorem yu {H H':ae} {o k:Nat} (h:H.get o = H'.get o):tr H o k = tr H' o k:=by unfold tr;rw [h]
theorem xb {H H':ae} {o k off n:Nat} (h:H.get o = H'.get o):tn H o k off n = tn H' o k off n:=by unfold tn;rw [h]
theorem Hp {H:ae} {vs:List V} {o:Nat} {cs:List V} (ho:o∈V.refss vs) (hb:H.get o = some (.box cs)) {q:Nat} (hq:q∈V.refss cs):q∈aX H vs :=
 List.mem_append_right _ (List.mem_flatMap.2 ⟨o,ho,by rw [hb];exact hq⟩)
theorem E5 {H:ae} {vs:List V} {o:Nat} {m:V} (ho:o∈V.refss vs) {s:Int} {l:List Int} (hb:H.get o = some (.iter m s l)) {q:Nat} (hq:q∈V.refs m):q∈aX H vs :=
 List.mem_append_right _ (List.mem_flatMap.2 ⟨o,ho,by rw [hb];exact hq⟩)
theorem NP {H:ae} {vs:List V} {o:Nat} (ho:o∈V.refss vs):o∈aX H vs:=List.mem_append_left _ ho
theorem BL {H H':ae}:∀ (os:List Nat),(∀ o∈os,H.get o = H'.get o)→bE os H = bE os H'
 | [],_=>rfl
 | o :: r,h=>by
  unfold bE
  rw [h o (by simp),BL r fun o ho=>h o (by simp [ho])]
structure iY (H H':ae) (os:List Nat):Prop where
  one:∀ o∈os,H.get o = H'.get o
  two:∀ o∈os, ∀ cs,H.get o = some (.box cs)→∀ q∈V.refss cs,H.get q = H'.get q
  three:∀ o∈os, ∀ m s l,H.get o = some (.iter m s l)→∀ q∈V.refs m,H.get q = H'.get q
theorem iY.sub {H H':ae} {os os':List Nat} (h:iY H H' os) (hs:∀ o∈os',o∈os):iY H H' os':=⟨fun o ho=>h.one o (hs o ho),fun o ho=>h.two o (hs o ho),fun o ho=>h.three o (hs o ho)⟩
theorem BO {H H':ae} {vs:List V} (h:∀ o∈aX H vs,H.get o = H'.get o):iY H H' (V.refss vs) :=
 ⟨fun o ho=>h o (NP ho),fun o ho cs hb q hq=>h q (Hp ho hb hq),fun o ho m s l hb q hq=>h q (E5 ho hb hq)⟩
theorem wa {H H':ae} {vs:List V} (h:iY H H' (V.refss vs)):aX H vs = aX H' vs:=by
 unfold aX
 congr 1
 have:∀ (l:List Nat),(∀ o∈l,H.get o = H'.get o)→l.flatMap (fun o=>match H.get o with | some (.box cs)=>V.refss cs | some (.iter m _ _)=>V.refs m | _=>[]) = l.flatMap (fun o=>match H'.get o with | some (.box cs)=>V.refss cs | some (.iter m _ _)=>V.refs m | _=>[]):=by
  intro l
  induction l with
  | nil=>intro _;rfl
  | cons x l ih =>
   intro hl
   rw [List.flatMap_cons,List.flatMap_cons,hl x (by simp),ih fun o ho=>hl o (by simp [ho])]
 exact this _ h.one
theorem NJ {H H':ae} {vs:List V} (h:iY H H' (V.refss vs)) {o:Nat} (ho:o∈aX H vs):H.get o = H'.get o:=by
 unfold aX at ho
 rcases List.mem_append.1 ho with ho | ho
 ·exact h.one o ho
 ·obtain ⟨q,hq,ho⟩:=List.mem_flatMap.1 ho
  cases hg:H.get q with
  | none=>rw [hg] at ho;simp at ho
  | some b =>
   rw [hg] at ho
   cases b with
   | box cs=>exact h.two q hq cs hg o ho
   | row t k n=>simp at ho
   | raw x=>simp at ho
   | map=>simp at ho
   | iter m s l=>exact h.three q hq m s l hg o ho
theorem G7 {H H':ae} {vs:List V} (h:iY H H' (V.refss vs)):nw H vs = nw H' vs:=by
 unfold nw
 rw [← wa h]
 have key:∀ l:List Nat,(∀ o∈l,H.get o = H'.get o)→(l.all fun o=>HD (H.get o)) = (l.all fun o=>HD (H'.get o))∧(l.flatMap fun o=>pQ (H.get o)) = l.flatMap fun o=>pQ (H'.get o):=by
  intro l
  induction l with
  | nil=>intro _;exact ⟨rfl,rfl⟩
  | cons x l ih =>
   intro h
   obtain ⟨i1,i2⟩:=ih fun o ho=>h o (by simp [ho])
   rw [List.all_cons,List.all_cons,List.flatMap_cons,List.flatMap_cons,h x (by simp),i1,i2]
   exact ⟨rfl,rfl⟩
 obtain ⟨k1,k2⟩:=key _ fun o ho=>NJ h ho
 rw [k1,k2]
theorem Kv {H H':ae} {v:V} (h:∀ o∈v.refs,H.get o = H'.get o):qj H v = qj H' v:=by
 cases v with
 | row o k=>simp only [qj,yu (h o (by simp [V.refs]))]
 | sub o k off n=>simp only [qj,xb (h o (by simp [V.refs]))]
 | _=>rfl
theorem MH {H H':ae} {o k i j:Nat} (h:iY H H' [o]):J6 H o k i j = J6 H' o k i j:=by
 unfold J6
 have h1:=h.one o (by simp)
 cases hg:H.get o with
 | none=>rw [← h1,hg]
 | some ob =>
  cases ob with
  | row t k' n=>rw [← h1,hg]
  | raw x=>rw [← h1,hg]
  | map=>rw [← h1,hg]
  | iter m s l=>rw [← h1,hg]
  | box cs =>
   have:cs.map (qj H) = cs.map (qj H'):=List.map_congr_left fun v hv=>Kv fun q hq=>by
    obtain ⟨i,hi⟩:=List.getElem?_of_mem hv
    exact h.two o (by simp) cs hg q (cK hi hq)
   rw [← h1,hg]
   simp only [this]
mutual
theorem view_agree {H H':ae}:∀ (v:V),iY H H' v.refs→v.view H = v.view H'
 | .c .nil,_=>rfl
 | .c .unk,_=>rfl
 | .c (.lit _),_=>rfl
 | .c (.opt ..),_=>rfl
 | .c .any,_=>rfl
 | .c (.sl ..),_=>rfl
 | .agg vs,h=>by rw [V.view,V.view,views_agree vs h]
 | .tup vs,h=>by rw [V.view,V.view,views_agree vs h]
 | .ptr o k i j,h=>by rw [V.view,V.view];exact MH h
 | .row o k,h=>by rw [V.view,V.view];exact yu (h.one o (by simp [V.refs]))
 | .sub o k off n,h=>by rw [V.view,V.view];exact xb (h.one o (by simp [V.refs]))
 | .dptr ..,_=>by rw [V.view,V.view]
 | .fn f vs,h=>by rw [V.view,V.view,views_agree vs h]
theorem views_agree {H H':ae}:∀ (vs:List V),iY H H' (V.refss vs)→V.views H vs = V.views H' vs
 | [],_=>rfl
 | v :: r,h=>by
  rw [V.views,V.views,view_agree v (h.sub fun o ho=>by simp [V.refss,ho]),views_agree r (h.sub fun o ho=>by simp [V.refss,ho])]
end
mutual
theorem viewN_agree {H H':ae}:∀ (v:V),v.noP = true→(∀ o∈v.refs,H.get o = H'.get o)→v.view H = v.view H'
 | .c d,_,_=>by cases d <;> rfl
 | .agg vs,hn,h=>by rw [V.view,V.view,viewsN_agree vs (by simpa [V.noP] using hn) h]
 | .tup vs,hn,h=>by rw [V.view,V.view,viewsN_agree vs (by simpa [V.noP] using hn) h]
 | .ptr o k i j,hn,_=>by simp [V.noP] at hn
 | .row o k,_,h=>by rw [V.view,V.view];exact yu (h o (by simp [V.refs]))
 | .sub o k off n,_,h=>by rw [V.view,V.view];exact xb (h o (by simp [V.refs]))
 | .dptr ..,_,_=>by rw [V.view,V.view]
 | .fn f vs,hn,h=>by rw [V.view,V.view,viewsN_agree vs (by simpa [V.noP] using hn) h]
theorem viewsN_agree {H H':ae}:∀ (vs:List V),V.noPs vs = true→(∀ o∈V.refss vs,H.get o = H'.get o)→V.views H vs = V.views H' vs
 | [],_,_=>rfl
 | v :: r,hn,h=>by
  rw [V.noPs,Bool.and_eq_true] at hn
  rw [V.views,V.views,viewN_agree v hn.1 (fun o ho=>h o (by simp [V.refss,ho])),viewsN_agree r hn.2 (fun o ho=>h o (by simp [V.refss,ho]))]
end
theorem K5 {C:FuncId→Option CC} {f:FuncId} {nid:Nat} {H H':ae} {vs:List V} (h:∀ o∈V.refss vs,H.get o = H'.get o):rX C f nid H vs = rX C f nid H' vs:=by
 unfold rX
 cases hn:V.noPs vs with
 | false=>rfl
 | true =>
  rw [cond_true,cond_true]
  cases hc:C f with
  | none=>rfl
  | some con =>
   match con,hc with
   | .mut m,hc=>rfl
   | .pure con,hc =>
    simp only
    unfold jn
    rw [hc]
    simp only
    rw [viewsN_agree vs hn h]
theorem OB (o:Nat) (t:Ty) (l:List t.T):∀ vs:List V, ∀ x∈V.refss (V.fzs o t l vs),x∈V.refss vs:=fzr2 o t l
where
  fzr1 (o:Nat) (t:Ty) (l:List t.T):∀ d:V, ∀ x∈(d.fz o t l).refs,x∈d.refs
  | .c _,x,h=>by simp [V.fz,V.refs] at h
  | .agg vs,x,h=>by rw [V.fz,V.refs] at h;rw [V.refs];exact fzr2 o t l vs x h
  | .tup vs,x,h=>by rw [V.fz,V.refs] at h;rw [V.refs];exact fzr2 o t l vs x h
  | .ptr o' k' i j,x,h=>by
    rw [V.fz] at h
    cases hb:Nat.beq o' o with
    | false=>rw [hb,cond_false] at h;exact h
    | true=>rw [hb,cond_true] at h;simp [V.refs] at h
  | .row o' k',x,h=>by
    rw [V.fz] at h
    cases hb:Nat.beq o' o with
    | false=>rw [hb,cond_false] at h;exact h
    | true =>
      rw [hb,cond_true] at h
      cases hk:Nat.beq t.k k' <;> rw [hk] at h <;> simp [V.refs] at h
  | .sub o' k' i j,x,h=>by
    rw [V.fz] at h
    cases hb:Nat.beq o' o with
    | false=>rw [hb,cond_false] at h;exact h
    | true =>
      rw [hb,cond_true] at h
      cases hk:Nat.beq t.k k' <;> rw [hk] at h <;> simp [V.refs] at h
  | .dptr ..,x,h=>by rw [V.fz] at h;exact h
  | .fn _ vs,x,h=>by rw [V.fz,V.refs] at h;rw [V.refs];exact fzr2 o t l vs x h
  fzr2 (o:Nat) (t:Ty) (l:List t.T):∀ vs:List V, ∀ x∈V.refss (V.fzs o t l vs),x∈V.refss vs
  | [],x,h=>by simp [V.fzs,V.refss] at h
  | v :: r,x,h=>by
    rw [V.fzs,V.refss,List.mem_append] at h
    rw [V.refss,List.mem_append]
    exact h.imp (fzr1 o t l v x) (fzr2 o t l r x)
theorem qW {f:ae→List V→Option aF} (hf:∀ H H' vs,(∀ o∈V.refss vs,ae.get H o = ae.get H' o)→f H vs = f H' vs):∀ (fl:List Nat) (H H':ae) (vs:List V),(∀ o∈fl,H.get o = H'.get o)→(∀ o∈V.refss vs,H.get o = H'.get o)→j5 f fl H vs = j5 f fl H' vs
 | [],H,H',vs,_,h=>hf H H' vs h
 | q :: fl,H,H',vs,h,h2=>by
  rw [j5,j5, ← h q (by simp)]
  split
  ·next e t l hg =>
   refine congrArg _ (qW hf fl _ _ _ (fun o ho=>?_) fun o ho=>?_)
   ·simp only [ae.get_cons,fh,h o (by simp [ho])]
   ·simp only [ae.get_cons,fh,h2 o (OB q t l vs o ho)]
  ·rfl
theorem C3 {H H':ae} {t:Ty} {v:V} (h:∀ o∈v.refs,H.get o = H'.get o):cC H t v = cC H' t v:=by
 unfold cC
 cases v with
 | row q k=>simp only [h q (by simp [V.refs])]
 | sub q k off n=>simp only [h q (by simp [V.refs])]
 | c d=>cases d <;> rfl
 | _=>rfl
theorem Kw {P:Program} {H H':ae} {t:TypeId} {a:V} (h:∀ o∈a.refs,H.get o = H'.get o):oL P H t a = oL P H' t a:=by
 unfold oL
 cases a with
 | ptr q k i j=>simp only [h q (by simp [V.refs])]
 | _=>rfl
theorem s6 {P:Program} {H H':ae} {t:TypeId} {a b:V} (h:∀ o∈a.refs,H.get o = H'.get o):qL P H t a b = qL P H' t a b:=by
 unfold qL
 cases a with
 | ptr q k i j=>simp only [h q (by simp [V.refs])]
 | _=>rfl
theorem Iv {P:Program} {H H':ae} {t:TypeId} {vs:List V} (h:∀ o∈V.refss vs,H.get o = H'.get o):wA P t H vs = wA P t H' vs:=by
 unfold wA
 split
 ·next a x=>exact s6 fun q hq=>h q (by simp [V.refss,hq])
 ·rfl
theorem Jv {P:Program} {H H':ae} {t:TypeId} {a b:V} (h:∀ o∈V.refss [a,b],H.get o = H'.get o):wI P H t a b = wI P H' t a b:=by
 unfold wI
 cases a with
 | ptr q k i j =>
  have hq:=h q (by simp [V.refss,V.refs])
  simp only [← hq]
  split
  ·exact qW (f:=wA P t) (fun H H' vs h=>Iv h) (V.refs b) H H' _ (fun o ho=>h o (by simp [V.refss,ho])) h
  ·exact s6 fun o ho=>h o (by simp [V.refss,ho])
 | _=>exact s6 fun o ho=>h o (by simp [V.refss,ho])
theorem mE {H H':ae} {m:V} (h:∀ o∈m.refs,H.get o = H'.get o):oD H m = oD H' m:=by
 unfold oD
 split
 ·next f o k i j=>rw [h o (by simp [V.refs,V.refss])]
 ·rfl
theorem MS {P:Program} {H H':ae} {t:TypeId} {a:V} (h:∀ o∈a.refs,H.get o = H'.get o):wZ P H t a = wZ P H' t a:=by
 unfold wZ
 generalize P.underlying t = u
 cases u with
 | none=>rfl
 | some u =>
  cases a with
  | row q k =>
   have hq:=h q (by simp [V.refs])
   cases u <;> first | rfl | simp only [hq]
  | c d =>
   cases d with
   | lit v=>cases v <;> cases u <;> rfl
   | _=>cases u <;> rfl
  | fn f vs =>
   have e:=mE (m:=.fn f vs) h
   cases u <;> first | rfl | simp only [e]
  | _=>cases u <;> rfl
theorem oK {P:Program} {H H':ae} {t:TypeId} {a:V} {lo hi:Option V} (h:∀ o∈a.refs,H.get o = H'.get o):nY P H t a lo hi = nY P H' t a lo hi:=by
 unfold nY
 generalize P.underlying t = u
 cases u with
 | none=>rfl
 | some u =>
  cases a with
  | row q k =>
   have hq:=h q (by simp [V.refs])
   cases u <;> first | rfl | simp only [hq]
  | c d =>
   cases d with
   | lit v=>cases v <;> cases u <;> rfl
   | _=>cases u <;> rfl
  | _=>cases u <;> rfl
theorem CT {P:Program} {H H':ae} {t:TypeId} {a b:V} (h:∀ o∈a.refs,H.get o = H'.get o):lI P H t a b = lI P H' t a b:=by
 unfold lI
 generalize P.underlying t = u
 by_cases hb:∃ kk i,b = .c (.lit (.int kk i))
 ·obtain ⟨kk,i,rfl⟩:=hb
  cases u with
  | none=>rfl
  | some u =>
   cases a with
   | row q k =>
    have hq:=h q (by simp [V.refs])
    cases u <;> first | rfl | simp only [hq]
   | ptr q k i j =>
    have hq:=h q (by simp [V.refs])
    cases u <;> first | rfl | simp only [hq]
   | c d=>cases d <;> cases u <;> rfl
   | _=>cases u <;> rfl
 ·split <;> first | rfl | exact (hb ⟨_,_,rfl⟩).elim | (split <;> first | rfl | exact (hb ⟨_,_,rfl⟩).elim)
theorem Iq {P:Program} {H H':ae} {t:TypeId} {a:V} (h:∀ o∈a.refs,H.get o = H'.get o):qB P H t a = qB P H' t a:=by
 unfold qB
 cases a with
 | row q k=>simp only [h q (by simp [V.refs])]
 | sub q k off n=>simp only [h q (by simp [V.refs])]
 | _=>rfl
theorem Hn {P:Program} {H H':ae} {nid:Nat} {t:TypeId} {s x:V} (h:∀ o∈s.refs,H.get o = H'.get o) (hx:∀ o∈x.refs,H.get o = H'.get o):nP P H nid t s x = nP P H' nid t s x:=by
 unfold nP
 have e:∀ ty,cC H ty x = cC H' ty x:=fun ty=>C3 hx
 cases s with
 | row q k=>simp only [h q (by simp [V.refs]),e]
 | c d=>cases d <;> simp only [e]
 | _=>rfl
theorem KO {H H':ae} {a:V} (h:∀ o∈a.refs,H.get o = H'.get o):AI H a = AI H' a:=by
 unfold AI
 cases a with
 | ptr q k i j=>simp only [h q (by simp [V.refs])]
 | _=>rfl
theorem Hk {H H':ae} {t:TypeId} {m k:V} {ok:Bool} (h:∀ o∈m.refs,H.get o = H'.get o):sW P H t m k ok = sW P H' t m k ok:=by
 unfold sW
 rw [mE h]
theorem KT {H H':ae} {t:TypeId} {vs:List V} (h:∀ o∈V.refss vs,H.get o = H'.get o):w4 P t H vs = w4 P t H' vs:=by
 unfold w4
 split
 ·next m k v=>rw [mE fun o ho=>h o (by simp [V.refss,ho])]
 ·rfl
theorem HY {H H':ae} {a:V} (h:iY H H' a.refs):wo H a = wo H' a:=by
 unfold wo
 cases a with
 | ptr q k i j =>
  have e:=h.one q (by simp [V.refs])
  simp only [e]
  cases hg:H'.get q with
  | none=>rfl
  | some b =>
   cases b with
   | iter m s l=>simp only [mE fun o ho=>h.three q (by simp [V.refs]) m s l (e.trans hg) o ho]
   | _=>rfl
 | _=>rfl
theorem JK {P:Program} {H H':ae} {nid:Nat} {t:TypeId} {a:V} (h:∀ o∈a.refs,H.get o = H'.get o):wv P H nid t a = wv P H' nid t a:=by
 unfold wv
 rw [mE h]
theorem OA {H H':ae} {nid:Nat} {o:Oper} {vs:List V} (h:iY H H' (V.refss vs)):rU P C H nid o vs = rU P C H' nid o vs:=by
 unfold rU
 split <;> try rfl
 ·exact qW (fun _ _ _ _=>rfl) _ _ _ _ (fun o ho=>h.one o ho) fun o ho=>h.one o ho
 ·exact Kw fun q hq=>h.one q (by simp [V.refss,hq])
 ·exact Jv fun q hq=>h.one q hq
 ·next a b x d _ =>
  have hx:cC H (.i .u8) d = cC H' (.i .u8) d:=C3 fun q hq=>h.one q (by simp [V.refss,hq])
  unfold Eh
  rw [hx]
 ·exact CT fun q hq=>h.one q (by simp [V.refss,hq])
 ·exact oK fun q hq=>h.one q (by simp [V.refss,hq])
 ·exact oK fun q hq=>h.one q (by simp [V.refss,hq])
 ·exact oK fun q hq=>h.one q (by simp [V.refss,hq])
 ·exact oK fun q hq=>h.one q (by simp [V.refss,hq])
 ·exact Hk fun q hq=>h.one q (by simp [V.refss,hq])
 ·next t x y z m k v _=>exact qW (f:=w4 P t) (fun _ _ _ h=>KT h) (V.refs v) _ _ _ (fun o ho=>h.one o (by simp [V.refss,ho])) fun o ho=>h.one o ho
 ·next t x d _=>rw [JK (P:=P) (H:=H) (H':=H') fun q hq=>h.one q (by simp [V.refss,hq])]
 ·exact KO fun q hq=>h.one q (by simp [V.refss,hq])
 ·exact HY (h.sub fun q hq=>by simp [V.refss,hq])
 ·next args ats x _ =>
  have hc:∀ t,wZ P H t x = wZ P H' t x:=fun t=>MS fun q hq=>h.one q (by simp [V.refss,hq])
  simp only [hc]
 ·next args ats x _ =>
  have hc:∀ t,qB P H t x = qB P H' t x:=fun t=>Iq fun q hq=>h.one q (by simp [V.refss,hq])
  simp only [hc]
 ·next args ats s x _ =>
  have ha:∀ t,nP P H nid t s x = nP P H' nid t s x:=fun t=>Hn (fun q hq=>h.one q (by simp [V.refss,hq])) fun q hq=>h.one q (by simp [V.refss,hq])
  simp only [ha]
 ·next f args ats g caps ds _ =>
  unfold qg
  have hag:iY H H' (V.refss (ds++caps)):=by
   refine h.sub fun q hq=>?_
   have:∀ (l1 l2:List V),q∈V.refss (l1++l2)→q∈V.refss l1∨q∈V.refss l2:=by
    intro l1 l2
    induction l1 with
    | nil=>intro h;exact .inr h
    | cons x l ih =>
     intro h
     simp only [List.cons_append,V.refss,List.mem_append] at h ⊢
     rcases h with h | h
     ·exact .inl (.inl h)
     ·exact (ih h).imp .inr id
   simp only [V.refss,V.refs,List.mem_append]
   exact (this _ _ hq).symm
  have hr:bE (aX H (ds++caps)) H = bE (aX H' (ds++caps)) H':=by
   rw [← wa hag]
   refine BL _ fun o ho=>?_
   rcases List.mem_append.1 ho with ho | ho
   ·exact hag.one o ho
   ·obtain ⟨q,hq,ho⟩:=List.mem_flatMap.1 ho
    cases hg:H.get q with
    | none=>rw [hg] at ho;simp at ho
    | some b =>
     cases b with
     | box cs=>rw [hg] at ho;exact hag.two q hq cs hg o ho
     | row t k n=>rw [hg] at ho;simp at ho
     | raw x=>rw [hg] at ho;simp at ho
     | map=>rw [hg] at ho;simp at ho
     | iter m s l=>rw [hg] at ho;exact hag.three q hq m s l hg o ho
  have h0:jn C H nid g (ds++caps) = jn C H' nid g (ds++caps):=by
   unfold jn
   rw [views_agree _ hag,hr]
  have h1:=qW (f:=rX C g nid) (fun _ _ _ h=>K5 h) (V.refss (ds++caps)) H H' (ds++caps) hag.one hag.one
  rw [h0,h1]
end
end Go.Ax
namespace Go.Ax
open Go.RowKit
section
variable {P:Program} {N:Nat} {B:ga} {σ σ':St} {E:av} {a:Act} {w:World} {C:FuncId→Option CC} {all:List Oper}
def cV:List Nat→Option Ob→Option Ob
 | [],b=>b
 | o :: r,b=>cV r (mt o b)
theorem Ag:∀ (kl:List Nat) (H:ae) (q:Nat),ae.get (eI kl H) q = cV kl (ae.get H q)
 | [],H,q=>rfl
 | o :: r,H,q=>by
  have h1:=fh o H q
  rw [eI,Ag r,cV]
  simp only [eI] at h1
  rw [h1]
theorem sL:∀ (A H:ae) (q:Nat),ae.get (A++H) q = if q∈dt A then ae.get A q else ae.get H q
 | [],H,q=>by simp [dt]
 | (p,b) :: A,H,q=>by
  rw [List.cons_append,ae.get_cons,ae.get_cons,sL A H q]
  by_cases h:p = q
  ·subst h;simp [dt]
  ·simp only [if_neg h,dt,List.map_cons,List.mem_cons]
   have:¬ q = p:=fun e=>h e.symm
   simp only [this,false_or]
   rfl
theorem iu (r:bI) (q:Nat):ae.get (after σ r).hp q = if q∈dt r.res.eff then ae.get r.res.eff q else cV r.res.kill (ae.get σ.hp q):=by
 rw [after,sL,Ag]
def pt (dst:Option Nat) (s:aD):aD:=match dst with | some d=>bif s.ch.any (fun y=>Nat.beq y.1 d) then ⟨[], .c .unk⟩ else s | none=>s
theorem it (r:bI) (t:Nat):ax (after σ r).tm t = if r.dst = some t then some ⟨r.ch,r.res.val⟩ else (ax σ.tm t).map fun s=>pt r.dst ⟨s.ch,s.v.killAll r.res.kill⟩:=by
 unfold after pt
 cases hd:r.dst with
 | none=>simp only [reduceCtorEq,if_false];rw [l5]
 | some d =>
  simp only [Option.some.injEq]
  rw [lF]
  split
  ·rfl
  ·rw [s9,l5]
   cases ax σ.tm t <;> rfl
theorem x6 {d:Option Nat} {t:Nat}:t∈mj d↔d = some t:=by
 cases d with
 | none=>simp [mj]
 | some x=>simp [mj,eq_comm]
theorem OK {r:bI} {t:Nat} {s:aD} (h:ax (after σ r).tm t = some s) (ht:t ∉ mj r.dst) (hn:s.v.noUnk = true):ax σ.tm t = some s:=by
 rw [it,if_neg (fun e=>ht (x6.2 e))] at h
 cases hx:ax σ.tm t with
 | none=>rw [hx] at h;cases h
 | some y =>
  rw [hx] at h
  simp only [Option.map_some,Option.some.injEq] at h
  have:pt r.dst ⟨y.ch,y.v.killAll r.res.kill⟩ = ⟨y.ch,y.v.killAll r.res.kill⟩:=by
   unfold pt
   cases hd:r.dst with
   | none=>rfl
   | some d =>
    simp only
    cases hc:y.ch.any (fun z=>Nat.beq z.1 d) with
    | false=>rfl
    | true =>
     simp only [pt,hd,hc,cond_true] at h
     subst h
     simp [V.noUnk] at hn
  rw [this] at h
  subst h
  have:=mM _ _ hn
  obtain ⟨ych,yv⟩:=y
  simp only at this ⊢
  rw [this]
theorem MI {r:bI} {t:Nat} {s:aD} (h:ax σ.tm t = some s) (ht:t ∉ mj r.dst) (hk:∀ q∈s.v.refs,q ∉ r.res.kill) (hc:∀ x∈s.ch,x.1 ∉ mj r.dst):ax (after σ r).tm t = some s:=by
 rw [it,if_neg (fun e=>ht (x6.2 e)),h]
 simp only [Option.map_some,Option.some.injEq]
 have e1:s.v.killAll r.res.kill = s.v:=jq _ _ hk
 rw [e1]
 unfold pt
 cases hd:r.dst with
 | none=>rfl
 | some d =>
  simp only
  have:s.ch.any (fun z=>Nat.beq z.1 d) = false:=by
   refine List.any_eq_false.2 fun x hx=>?_
   have:=hc x hx
   rw [hd] at this
   intro hb
   exact this (by simp [mj,Nat.eq_of_beq_eq_true hb])
  rw [this]
  rfl
theorem jJ:∀ {xs:List Operand} {t:Nat},t∈lv xs↔Operand.tmp t∈xs
 | [],t=>by simp [lv]
 | .tmp q :: r,t=>by simp [lv,jJ (xs:=r)]
 | .const v :: r,t=>by simp [lv,jJ (xs:=r)]
 | .global g :: r,t=>by simp [lv,jJ (xs:=r)]
 | .func f :: r,t=>by simp [lv,jJ (xs:=r)]
theorem nr {c ch:aP} (h:qv c ch = true):∀ x∈c,x.1∈ch.map (·.1):=by
 intro x hx
 have:=List.all_eq_true.1 h x hx
 unfold O5 at this
 obtain ⟨y,hy,hyx⟩:=List.any_eq_true.1 this
 simp only [Bool.and_eq_true,Nat.beq_eq] at hyx
 rw [hyx.1]
 exact List.mem_map.2 ⟨y,hy,rfl⟩
theorem D1:∀ {vs:List V} {v:V},V.noUnks vs = true→v∈vs→v.noUnk = true
 | x :: r,v,h,hv=>by
  simp only [V.noUnks,Bool.and_eq_true] at h
  rcases List.mem_cons.1 hv with rfl | hv
  ·exact h.1
  ·exact D1 h.2 hv
theorem uY {ch:aP} {t:Nat} {v:V} (h:bW σ ch (.tmp t) = some v):∃ s,ax σ.tm t = some s∧qv s.ch ch = true∧s.v = v:=by
 unfold bW at h
 cases hl:Nat.blt t 1000000 with
 | false=>simp [hl] at h
 | true =>
  simp only [hl,cond_true] at h
  split at h
  ·next s hg =>
   cases hc:qv s.ch ch with
   | false=>simp [hc] at h
   | true=>simp only [hc,cond_true,Option.some.injEq] at h;exact ⟨s,hg,hc,h⟩
  ·cases h
theorem C6 {ch:aP}:∀ {xs:List Operand} {vs:List V},k7 σ ch xs = some vs→∀ x∈xs, ∃ v∈vs,bW σ ch x = some v
 | [],vs,h,x,hx=>by simp at hx
 | y :: xs,vs,h,x,hx=>by
  unfold k7 at h
  rw [List.mapM_cons] at h
  simp only [Option.bind_eq_bind,Option.pure_def,Option.bind_eq_some_iff,Option.some.injEq] at h
  obtain ⟨d,hd,ds,hds,rfl⟩:=h
  rcases List.mem_cons.1 hx with rfl | hx
  ·exact ⟨d,by simp,hd⟩
  ·obtain ⟨v,hv,h⟩:=C6 (xs:=xs) hds x hx
   exact ⟨v,by simp [hv],h⟩
theorem KY {ch:aP} {c x y:Operand} {v:V} (h:qq σ ch c x y = some v) :
  ∃ b p q:Bool,bW σ ch c = some (bl b)∧bW σ (qf c true ch) x = some (bl p)∧bW σ (qf c false ch) y = some (bl q)∧v = bl (bif b then p else q):=by
 unfold qq at h
 split at h
 ·next b hc =>
  split at h
  ·next p q hx hy=>cases h;exact ⟨b,p,q,hc,hx,hy,rfl⟩
  ·cases h
 ·cases h
theorem Gh {c:Operand} {wt:Bool} {ch:aP} {i:Nat} (h:i∈(qf c wt ch).map (·.1)):i∈ch.map (·.1)∨c = .tmp i:=by
 unfold qf at h
 split at h
 ·simp only [List.map_cons,List.mem_cons] at h
  rcases h with rfl | h
  ·exact .inr rfl
  ·exact .inl h
 ·exact .inl h
theorem Mi {nid:Nat} {o:Oper} {rc:bI} (h:tR P C N all σ nid o = some rc) (hn:V.noUnks rc.vs = true) {t:Nat} (ht:t∈rc.rds) :
  ∃ s,ax σ.tm t = some s∧s.v.noUnk = true∧(∀ x∈s.ch,x.1∈rc.rds)∧∀ q∈s.v.refs,q∈V.refss rc.vs:=by
 obtain ⟨hd,hch,hb,hr,hc,e1,e2,e3,e4,e5⟩:=nE h
 have hids:∀ i,i∈rc.ch.map (·.1)→i∈rc.rds:=fun i hi=>by rw [e3];exact List.mem_append_right _ hi
 have hbool:∀ {s:aD} {b:Bool},s.v = bl b→s.v.noUnk = true∧∀ q∈s.v.refs,q∈V.refss rc.vs:=by
  intro s b e;rw [e];exact ⟨rfl,fun q hq=>by simp [V.refs] at hq⟩
 rw [e3,List.mem_append] at ht
 rcases ht with ht | ht
 ·have hto:=jJ.1 ht
  unfold lB at hr
  split at hr
  ·next c x y ho =>
   cases hv:qq σ rc.ch c x y with
   | none =>
    simp only [hv] at hr
    cases hv2:uQ σ rc.ch c x y with
    | none=>simp [hv2] at hr
    | some v =>
     simp only [hv2,Option.map_some,Option.some.injEq,Prod.mk.injEq] at hr
     rw [← hr.1] at hn
     cases hn
   | some v =>
    obtain ⟨b,p,q,h1,h2,h3,_⟩:=KY hv
    have hcr:∀ i,c = .tmp i→i∈rc.rds:=fun i hi=>by rw [e3,ho];exact List.mem_append_left _ (jJ.2 (by simp [dK,Op.operands,hi]))
    rw [ho] at hto
    have hto':Operand.tmp t = c∨Operand.tmp t = x∨Operand.tmp t = y:=by simpa [dK,Op.operands] using hto
    rcases hto' with rfl | rfl | rfl
    ·obtain ⟨s,g1,g2,g3⟩:=uY h1
     exact ⟨s,g1,(hbool g3).1,fun z hz=>hids _ (nr g2 z hz),(hbool g3).2⟩
    ·obtain ⟨s,g1,g2,g3⟩:=uY h2
     exact ⟨s,g1,(hbool g3).1,fun z hz=>(Gh (nr g2 z hz)).elim (hids _) (hcr _),(hbool g3).2⟩
    ·obtain ⟨s,g1,g2,g3⟩:=uY h3
     exact ⟨s,g1,(hbool g3).1,fun z hz=>(Gh (nr g2 z hz)).elim (hids _) (hcr _),(hbool g3).2⟩
  ·next op hnp =>
   split at hr
   ·next vs hvs =>
    cases hov:zl P C σ.hp nid rc.ch o vs with
    | none=>simp [hov] at hr
    | some r =>
     simp only [hov,Option.map_some,Option.some.injEq,Prod.mk.injEq] at hr
     obtain ⟨rfl,_⟩:=hr
     obtain ⟨v,hv,hov'⟩:=C6 hvs _ hto
     obtain ⟨s,g1,g2,rfl⟩:=uY hov'
     refine ⟨s,g1,D1 hn hv,fun z hz=>hids _ (nr g2 z hz),fun q hq=>?_⟩
     obtain ⟨i,hi⟩:=List.getElem?_of_mem hv
     exact cK hi hq
   ·cases hr
 ·obtain ⟨x,hx,rfl⟩:=List.mem_map.1 ht
  have hg:=List.all_eq_true.1 hb x hx
  unfold dR at hg
  split at hg
  ·next s hs =>
   simp only [Bool.and_eq_true] at hg
   have:∃ b,s.v = bl b:=by
    have:=hg.1
    unfold V.isBool at this
    split at this
    ·next b e=>exact ⟨b,e⟩
    ·cases this
   obtain ⟨b,hbv⟩:=this
   exact ⟨s,hs,(hbool hbv).1,fun z hz=>hids _ (nr hg.2 z hz),(hbool hbv).2⟩
  ·cases hg
theorem RE {H H':ae} {nid:Nat} {o:Oper} {vs:List V} (h:iY H H' (V.refss (lk o vs))):rU P C H nid o vs = rU P C H' nid o vs:=by
 unfold lk at h
 split at h
 ·next x ho =>
  unfold rU
  rw [ho]
  rcases vs with _ | ⟨a,_ | ⟨b,r⟩⟩ <;> rfl
 ·exact OA h
theorem Bl {o:Oper} {ch:aP} (hch:cU all σ.tm o.guard = some ch) (hb:ch.all (fun x=>dR σ.tm ch x.1) = true) (hid:∀ x∈ch,ax σ'.tm x.1 = ax σ.tm x.1) :
  cU all σ'.tm o.guard = some ch∧ch.all (fun x=>dR σ'.tm ch x.1) = true:=by
 have g1:cU all σ'.tm o.guard = some ch:=by
  have hch':=hch
  unfold cU at hch ⊢
  split at hch
  ·exact hch
  ·next j wt _ =>
   split at hch
   ·next oj hj =>
    split at hch
    ·next t ht =>
     cases hl:Nat.blt t 1000000 with
     | false=>simp [hl] at hch
     | true =>
      simp only [hl,cond_true] at hch ⊢
      split at hch
      ·next ch' b hg =>
       simp only [Option.some.injEq] at hch
       have:=hid (t,wt) (by rw [← hch];simp)
       rw [this,hg]
       simp only [hch]
      ·cases hch
    ·cases hch
   ·cases hch
 have g2:ch.all (fun x=>dR σ'.tm ch x.1) = true:=by
  refine List.all_eq_true.2 fun x hx=>?_
  have:=List.all_eq_true.1 hb x hx
  unfold dR at this ⊢
  rw [hid x hx]
  exact this
 exact ⟨g1,g2⟩
theorem Mm {nid:Nat} {o:Oper} {rc:bI} (h:tR P C N all σ nid o = some rc) (hA:∀ t∈rc.rds,ax σ'.tm t = ax σ.tm t) (hB:iY σ.hp σ'.hp (V.refss (lk o rc.vs))) :
  tR P C N all σ' nid o = some rc∧holds σ'.tm rc.ch = holds σ.tm rc.ch:=by
 obtain ⟨hd,hch,hb,hr,hc,e1,e2,e3,e4,e5⟩:=nE h
 have hid:∀ x∈rc.ch,ax σ'.tm x.1 = ax σ.tm x.1:=fun x hx=>hA _ (by rw [e3];exact List.mem_append_right _ (List.mem_map.2 ⟨x,hx,rfl⟩))
 have hop:∀ (x:Operand),x∈dK o.op→∀ ch,bW σ' ch x = bW σ ch x:=by
  intro x hx ch
  cases x with
  | tmp t=>unfold bW;simp only [hA t (by rw [e3];exact List.mem_append_left _ (jJ.2 hx))]
  | _=>rfl
 obtain ⟨g1,g2⟩:=Bl hch hb hid
 have g3:lB P C σ' nid rc.ch o = some (rc.vs,rc.res):=by
  rw [← hr]
  unfold lB at hr ⊢
  split
  ·next c x y ho =>
   rw [ho] at hop
   have:qq σ' rc.ch c x y = qq σ rc.ch c x y:=by
    unfold qq
    rw [hop c (by simp [dK,Op.operands]),hop x (by simp [dK,Op.operands]),hop y (by simp [dK,Op.operands])]
   have this2:uQ σ' rc.ch c x y = uQ σ rc.ch c x y:=by
    unfold uQ
    rw [hop c (by simp [dK,Op.operands]),hop x (by simp [dK,Op.operands]),hop y (by simp [dK,Op.operands])]
   rw [this,this2]
  ·next op hnp =>
   have:∀ (xs:List Operand),(∀ x∈xs,x∈dK o.op)→k7 σ' rc.ch xs = k7 σ rc.ch xs:=by
    intro xs
    induction xs with
    | nil=>intro _;rfl
    | cons x l ih =>
     intro hx
     unfold k7 at ih ⊢
     rw [List.mapM_cons,List.mapM_cons,hop x (hx x (by simp)),ih fun z hz=>hx z (by simp [hz])]
   rw [this _ fun x hx=>hx]
   split at hr
   ·next c x y ho=>exact (hnp c x y ho).elim
   ·split at hr
    ·next vs hvs =>
     cases hov:zl P C σ.hp nid rc.ch o vs with
     | none=>simp [hov] at hr
     | some r =>
      simp only [hov,Option.map_some,Option.some.injEq,Prod.mk.injEq] at hr
      obtain ⟨rfl,_⟩:=hr
      have:zl P C σ'.hp nid rc.ch o rc.vs = zl P C σ.hp nid rc.ch o rc.vs:=by unfold zl;rw [RE hB]
      rw [this,hov]
    ·cases hr
 have hreach:aX σ'.hp (lk o rc.vs) = rc.reach:=by rw [e4];exact (wa hB).symm
 have hrows:nw σ'.hp (lk o rc.vs) = rc.rws:=by rw [e5];exact (G7 hB).symm
 refine ⟨?_,iK _ fun x hx=>by rw [hid x hx]⟩
 unfold tR
 rw [hd,cond_true,g1]
 simp only
 rw [g2,cond_true,g3]
 simp only
 rw [hc,cond_true,hreach,hrows]
 rw [← e1, ← e2, ← e3]
theorem fG.slots {nid:Nat} {o:Oper} {rc:bI} (h:fG P C N all σ nid o rc) (hn:V.noUnks rc.vs = true) {t:Nat} (ht:t∈rc.rds) :
  ∃ s,ax σ.tm t = some s∧s.v.noUnk = true∧(∀ x∈s.ch,x.1∈rc.rds)∧∀ q∈s.v.refs,q∈V.refss rc.vs:=by
 rcases h with ⟨h,_⟩ | ⟨e,_,_,hb,_,_⟩
 ·exact Mi h hn ht
 ·have e3:rc.rds = rc.ch.map (·.1):=by rw [e];rfl
  rw [e3] at ht
  obtain ⟨x,hx,rfl⟩:=List.mem_map.1 ht
  have hg:=List.all_eq_true.1 hb x hx
  unfold dR at hg
  split at hg
  ·next s hs =>
   simp only [Bool.and_eq_true] at hg
   have hv:=hg.1
   unfold V.isBool at hv
   split at hv
   ·next b e=>exact ⟨s,hs,by rw [e];rfl,fun z hz=>by rw [e3];exact nr hg.2 z hz,fun q hq=>by rw [e] at hq;simp [V.refs] at hq⟩
   ·cases hv
  ·cases hg
theorem fG.parts {nid:Nat} {o:Oper} {rc:bI} (h:fG P C N all σ nid o rc):(∀ x∈rc.ch,x.1∈rc.rds)∧rc.reach = aX σ.hp (lk o rc.vs)∧rc.rws = nw σ.hp (lk o rc.vs):=by
 rcases h with ⟨h,_⟩ | ⟨e,_⟩
 ·obtain ⟨_,_,_,_,_,_,_,e3,e4,e5⟩:=nE h
  exact ⟨fun x hx=>by rw [e3];exact List.mem_append_right _ (List.mem_map.2 ⟨x,hx,rfl⟩),e4,e5⟩
 ·have e6:lk o rc.vs = []:=by rw [e];unfold lk;split <;> rfl
  rw [e6]
  exact ⟨fun x hx=>by rw [show rc.rds = rc.ch.map (·.1) by rw [e];rfl];exact List.mem_map.2 ⟨x,hx,rfl⟩,by rw [e];rfl,by rw [e];rfl⟩
theorem fG.congr {nid:Nat} {o:Oper} {rc:bI} (h:fG P C N all σ nid o rc) (hA:∀ t∈rc.rds,ax σ'.tm t = ax σ.tm t) (hB:iY σ.hp σ'.hp (V.refss (lk o rc.vs))) :
  fG P C N all σ' nid o rc∧holds σ'.tm rc.ch = holds σ.tm rc.ch:=by
 have hp:=h.parts.1
 have hid:∀ x∈rc.ch,ax σ'.tm x.1 = ax σ.tm x.1:=fun x hx=>hA _ (hp x hx)
 have hh:holds σ'.tm rc.ch = holds σ.tm rc.ch:=iK _ fun x hx=>by rw [hid x hx]
 refine ⟨?_,hh⟩
 rcases h with ⟨h,hn⟩ | ⟨e,hd,hch,hb,hn,hf⟩
 ·exact .inl ⟨(Mm h hA hB).1,by rw [hh];exact hn⟩
 ·obtain ⟨g1,g2⟩:=Bl hch hb hid
  exact .inr ⟨e,hd,g1,g2,hn,hh.trans hf⟩
end
end Go.Ax
