import Derived.Test.YtnnblpijaoocaaaGreatWB18
set_option linter.all false
/- A map of slices that grow: what it is, and one round. -/
namespace Go.Ax
open Go.RowKit Go.MapKept Go.ChangeMaps
section
variable {P:Program} {E E':an} {w w':World} {s:SK} {vt:Ty} {e kk t ts:TypeId} {mb base k n:Nat} {v:Value} {xs:List Value} {es:Array MapEntry} {ks:List (Ty.st s).T} {vs:List (List vt.T)}
def LJ (w:World) (base:Nat) (e:TypeId) (vt:Ty) (v:Value) (l:List vt.T):Prop:=w.ownsRow base e vt.k v l.length (l.flatMap vt.lits)
theorem iN (h:w.ownsRow base e k v n xs) (hb:∀ g,v.ownBlock = some g→w'.heap[g]? = w.heap[g]?):w'.ownsRow base e k v n xs:=by
 refine ⟨h.1, ?_⟩
 rcases h.2 with h0 | ⟨g,cap,cur,rfl,h1,h2,h3⟩
 ·exact .inl h0
 ·exact .inr ⟨g,cap,cur,rfl,h1,(hb g rfl).trans h2,h3⟩
theorem dg (h:w.ownsRow base e k v n xs) {g:Nat} (hg:v.ownBlock = some g):base≤g∧g < w.heap.size:=by
 rcases h.2 with ⟨rfl,_⟩ | ⟨g',cap,cur,rfl,h1,h2,h3⟩
 ·cases hg
 ·cases hg;exact ⟨h1,dt h2⟩
structure oE (E:an) (w:World) (base mb:Nat) (e:TypeId) (s:SK) (vt:Ty) (es:Array MapEntry) (ks:List (Ty.st s).T) (vs:List (List vt.T)):Prop where
  lo:mb < base
  map:w.heap[mb]? = some (.map es es.size)
  st:Stamped es es.size
  born:∀ (i:Nat) (x:MapEntry),es[i]? = some x→x.born = i
  sz:es.size = ks.length
  len:ks.length = vs.length
  ent:∀ (i:Nat) (x:MapEntry),es[i]? = some x→x.key = bL (.st s) (gD ks i (zS s))∧LJ w base e vt x.val (gD vs i [])
  apart:∀ (i j:Nat) (x y:MapEntry),i≠j→es[i]? = some x→es[j]? = some y→x.val.ownBlock = none∨x.val.ownBlock≠y.val.ownBlock
  free:∀ b,(b = mb∨∃ (i:Nat) (x:MapEntry),es[i]? = some x∧x.val.ownBlock = some b)→¬ E.ok b∧∀ q,E.live q→E.conc q≠some b
theorem oE.lt (h:oE E w base mb e s vt es ks vs) {b:Nat} (hb:b = mb∨∃ (i:Nat) (x:MapEntry),es[i]? = some x∧x.val.ownBlock = some b):b < w.heap.size:=by
 rcases hb with rfl | ⟨i,x,hx,hb⟩
 ·exact dt h.map
 ·exact (dg (h.ent i x hx).2 hb).2
theorem oE.fr (h:oE E w base mb e s vt es ks vs) (hf:Fr E w E' w'):oE E' w' base mb e s vt es ks vs:=by
 have key:∀ b,(b = mb∨∃ (i:Nat) (x:MapEntry),es[i]? = some x∧x.val.ownBlock = some b)→w'.heap[b]? = w.heap[b]?∧¬ E'.ok b∧∀ q,E'.live q→E'.conc q≠some b:=fun b hb=>by
  obtain ⟨h1,h2⟩:=h.free b hb
  exact hf.keep b (h.lt hb) h1 h2
 exact ⟨h.lo,(key mb (.inl rfl)).1.trans h.map,h.st,h.born,h.sz,h.len,fun i x hx=>⟨(h.ent i x hx).1,iN (h.ent i x hx).2 fun g hg=>(key g (.inr ⟨i,x,hx,hg⟩)).1⟩,h.apart,fun b hb=>(key b hb).2⟩
theorem oE.keys (h:oE E w base mb e s vt es ks vs):es.toList.map (·.key) = ks.map (bL (.st s)):=by
 apply List.ext_getElem?
 intro i
 rw [List.getElem?_map,List.getElem?_map]
 have hsz:=h.sz
 cases he:es.toList[i]? with
 | none =>
  have:es.size≤i:=by rw [← Array.length_toList];exact List.getElem?_eq_none_iff.1 he
  rw [List.getElem?_eq_none (by omega)];rfl
 | some x =>
  have hx:es[i]? = some x:=by rw [← Array.getElem?_toList];exact he
  have hi:i < ks.length:=by rw [← hsz];exact (Array.getElem?_eq_some_iff.1 hx).1
  rw [Option.map_some,(h.ent i x hx).1,List.getElem?_eq_getElem hi,gD,List.getD_eq_getElem?_getD,List.getElem?_eq_getElem hi]
  rfl
theorem N7 (hk:ir P kk (.st s) = true) (h:oE E w base mb e s vt es ks vs) (x:(Ty.st s).T) (w1:World) :
  ((Instr.findKey kk (bL (.st s) x) es.toList).run P w1 = .ok none w1∧(∀ y∈es.toList,y.key≠bL (.st s) x)∧aD (.st s) ks x = ks.length) ∨
   ∃ e0:MapEntry,(Instr.findKey kk (bL (.st s) x) es.toList).run P w1 = .ok (some (aD (.st s) ks x,e0.val)) w1∧es[aD (.st s) ks x]? = some e0∧e0.key = bL (.st s) x∧aD (.st s) ks x < ks.length:=by
 obtain ⟨fs,f,g,hu,hfs,hf,hg,hs,hp⟩:=qo hk
 have hkeys:=h.keys
 have hkv:es.toList.map (·.key) = (ks.map (kp s)).map (fun k=>(.agg #[.int .i64 k.1, .int .i64 k.2]:Value)):=by
  rw [hkeys,List.map_map]
  exact List.map_congr_left fun y _=>dF hp y
 have hr:(Instr.findKey kk (bL (.st s) x) es.toList).run P w1 = .ok (((ks.map (kp s)).findIdx? fun k=>af (kp s x).1 k.1&&af (kp s x).2 k.2).bind fun j=>(es.toList[j]?).map fun e=>(j,e.val)) w1:=by
  rw [xJ hu,dF hp,xi (w:=w1) hu hs hfs hf hg _ _ _ _ hkv 0]
  congr 1
  cases (ks.map (kp s)).findIdx? fun k=>af (kp s x).1 k.1&&af (kp s x).2 k.2 with
  | none=>rfl
  | some j=>simp
 have hidx:((ks.map (kp s)).findIdx? fun k=>af (kp s x).1 k.1&&af (kp s x).2 k.2) = ks.findIdx? fun y=>af (kp s x).1 (kp s y).1&&af (kp s x).2 (kp s y).2:=by
  rw [List.findIdx?_map];rfl
 rw [hidx] at hr
 have hsz:=h.sz
 rcases xm (kt:=.st s) (fun y=>af (kp s x).1 (kp s y).1&&af (kp s x).2 (kp s y).2) x (fun y=>by rw [v6 hp,vT,vT (kp s y).2]) ks with ⟨h1,h2,h3⟩ | ⟨h1,h2,y,h3,h4⟩
 ·rw [h1] at hr
  refine .inl ⟨hr,fun z hz e=>?_,h2⟩
  have hz':z.key∈ks.map (bL (.st s)):=by rw [← hkeys];exact List.mem_map_of_mem hz
  obtain ⟨y,hy,e2⟩:=List.mem_map.1 hz'
  obtain ⟨a1,a2⟩:=NN hp (e2.trans e)
  have:=h3 y hy
  simp only [af,a1,a2,beq_self_eq_true,Bool.and_self] at this
  cases this
 ·rw [h1] at hr
  have hlt:aD (.st s) ks x < es.size:=by rw [hsz];exact h2
  have he:es[aD (.st s) ks x]? = some es[aD (.st s) ks x]:=Array.getElem?_eq_getElem hlt
  refine .inr ⟨es[aD (.st s) ks x], ?_,he, ?_,h2⟩
  ·rw [hr,Option.bind_some,Array.getElem?_toList,he];rfl
  ·rw [(h.ent _ _ he).1,gD,List.getD_eq_getElem?_getD,h3,Option.getD_some,dF hp,dF hp]
   simp only [af,Bool.and_eq_true,beq_iff_eq] at h4
   rw [h4.1,h4.2]
theorem Nf (l:List vt.T) (y:vt.T):(l++[y]).flatMap vt.lits = l.flatMap vt.lits++vt.lits y:=by simp
theorem OT {H:ae} (hH:aq E w H) (hbase:base≤w.heap.size) (h:oE E w base mb e s vt es ks vs) (hk:ir P kk (.st s) = true) (ht:P.underlying t = some (.map kk ts)) (hts:P.underlying ts = some (.slice e)) (hz:∀ u:World,(zeroValue ts).run P u = .ok (.slice none 0 0) u)
  {i:TypeInfo} {z:Value} (hi:P.info? e = some i) (hiz:i.zero = some z) (hsize:i.size = vt.k) (hzs:z.cells.size = vt.k) (hsz:0 < vt.k)
  (x:(Ty.st s).T) (y:vt.T) (ad:Addr) (c:Nat) (had:ad.block≠mb) (hnews:∀ (j:Nat) (u:Value),(vt.lits y)[j]? = some u→w.cell? (ad.add j) = some u) (hone:∀ u∈vt.lits y,u.oneCell' = true) (m:Nat) (hm:∀ l∈vs,l.length≤m) (hm1:m+1≤maxLen) (hm2:(m+1)*i.bytes≤140737488355328) (ty:TypeId) :
  ∃ v0 st w1 v' w2 w3 es',(Instr.mapEntry t (.map (some mb)) (bL (.st s) x)).run P w = .ok (.tuple #[v0,goInt st]) w1∧(Builtin.append_ #[ts,ts] ty #[v0, .slice (some ad) 1 c]).run P w1 = .ok v' w2 ∧
   (Instr.entryStore t (.map (some mb)) (goInt st) v').run P w2 = .ok () w3∧oE E w3 base mb e s vt es' (cO (.st s) ks x) (cQ (.st s) ks vs x (cd (.st s) ks vs x []++[y])) ∧
   w3.os = w.os∧w3.tape = w.tape∧w3.output = w.output∧w.heap.size≤w3.heap.size∧∀ b,b < w.heap.size→b≠mb→(∀ (i:Nat) (z:MapEntry),es[i]? = some z→z.val.ownBlock≠some b)→w3.heap[b]? = w.heap[b]?:=by
 have hlen:(vt.lits y).length = 1*vt.k:=by rw [Ty.lits,List.length_map,gI,Nat.one_mul]
 have hmb:mb < w.heap.size:=dt h.map
 have hlo:=h.lo
 obtain ⟨s1,s2,s3⟩:=h.st
 have hszs:=h.sz
 have hlens:=h.len
 have news1:∀ (o:Obj) (j:Nat) (u:Value),(vt.lits y)[j]? = some u→(setBlock w mb o).cell? (ad.add j) = some u:=fun o j u hu=>by
  rw [← hnews j u hu]
  exact World.cell?_of_block (by rw [mi];exact heap_setBlock_other h.map _ (fun e=>had e))
 rcases N7 hk h x w with ⟨g1,g2,g3⟩ | ⟨e0,g1,g2,g3,g4⟩
 ·
  have hno:dJ (.st s) ks x = false:=by
   unfold dJ
   rw [g3]
   cases hb:Nat.blt ks.length ks.length with
   | false=>rfl
   | true=>rw [Nat.blt_eq] at hb;omega
  have hget:cd (.st s) ks vs x [] = ([]:List vt.T):=by
   unfold cd
   rw [List.getD_eq_getElem?_getD,List.getElem?_eq_none (by rw [g3,hlens];exact Nat.le_refl _)];rfl
  obtain ⟨v',w2,hr,hown,hgr,hnil,hat⟩:=run_append_own_at (P:=P) (setBlock w mb (.map (es.push ⟨bL (.st s) x, .slice none 0 0,es.size⟩) (es.size+1))) base ts ty e i z vt.k i.bytes hts hi hiz hsize rfl hzs hsz (.slice none 0 0) 0 [] (World.ownsRow_nil _ _ _ _) ad 1 c (vt.lits y) hlen
   (fun j u hu=>news1 _ j u hu) hone (by omega) (by have:i.bytes≤(m+1)*i.bytes:=Nat.le_mul_of_pos_left _ (by omega);omega) (by simp [setBlock];omega)
  rw [List.nil_append] at hown
  have hne:v'≠.slice none 0 0:=fun e=>by
   have:=(hnil.1 e).2
   omega
  have hb':v'.ownBlock = some w.heap.size:=by
   rcases hat with h1 | h1
   ·rcases hown.2 with ⟨h2,_⟩ | ⟨g,cap,cur,h2,_⟩
    ·exact (hne h2).elim
    ·rw [h2] at h1;cases h1
   ·rw [h1];simp [setBlock]
  have hw2m:w2.heap[mb]? = some (.map (es.push ⟨bL (.st s) x, .slice none 0 0,es.size⟩) (es.size+1)):=(hgr.block mb (by simp [setBlock];exact hmb) (by simp [Value.ownBlock])).trans (heap_setBlock_same h.map _)
  have hidx:(es.push ⟨bL (.st s) x, .slice none 0 0,es.size⟩).findIdx? (fun e=>((e.born:Nat):Int) == ((es.size:Nat):Int)) = some es.size:=by
   rw [WideElems.findIdx_arr]
   refine WideElems.findIdx_born (l:=(es.push ⟨bL (.st s) x, .slice none 0 0,es.size⟩).toList) (j:=es.size) (e0:=⟨bL (.st s) x, .slice none 0 0,es.size⟩) ?_ (by simp)
   simp only [Array.toList_push,List.map_append,List.map_cons,List.map_nil]
   refine List.nodup_append.2 ⟨s2,by simp,fun a ha c hc e1=>?_⟩
   simp only [List.mem_singleton] at hc
   obtain ⟨x,hx,rfl⟩:=List.mem_map.1 ha
   have:=s1 x hx
   omega
  have hmod:(es.push ⟨bL (.st s) x, .slice none 0 0,es.size⟩).modify es.size (fun e=>{ e with val:=v' }) = es.push ⟨bL (.st s) x,v',es.size⟩:=by
   apply Array.ext'
   rw [Array.toList_modify,Array.toList_push,Array.toList_push, ← Array.length_toList,WideElems.modify_last]
  have hblk:∀ b,b < w.heap.size→b≠mb→(setBlock w2 mb (.map (es.push ⟨bL (.st s) x,v',es.size⟩) (es.size+1))).heap[b]? = w.heap[b]?:=fun b hb hne =>
   (heap_setBlock_other hw2m _ hne).trans ((hgr.block b (by simp [setBlock];exact hb) (by simp [Value.ownBlock])).trans (heap_setBlock_other h.map _ hne))
  have hsz2:w.heap.size≤w2.heap.size:=by have:=hgr.size;simp [setBlock] at this;exact this
  refine ⟨.slice none 0 0,es.size,_,v',w2,setBlock w2 mb (.map (es.push ⟨bL (.st s) x,v',es.size⟩) (es.size+1)),es.push ⟨bL (.st s) x,v',es.size⟩, ?_,hr, ?_, ?_, ?_⟩
  ·simp [Instr.mapEntry,run_underlying ht,MapKept.run_getObj_map h.map,ml hk,g1,hz,MapKept.run_setObj_map _ h.map,Result.andThen,setBlock]
  ·simp [Instr.entryStore,MapKept.run_getObj_map hw2m,asInt,asIntOf,goInt,hidx,hmod,MapKept.run_setObj_map _ hw2m,Result.andThen,setBlock]
  ·have hold:∀ (i:Nat) (z:MapEntry),(es.push ⟨bL (.st s) x,v',es.size⟩)[i]? = some z→(i = es.size∧z = ⟨bL (.st s) x,v',es.size⟩)∨(i < es.size∧es[i]? = some z):=fun i z hz=>by
    rw [Array.getElem?_push] at hz
    split at hz
    ·next hi=>cases hz;exact .inl ⟨hi,rfl⟩
    ·exact .inr ⟨(Array.getElem?_eq_some_iff.1 hz).1,hz⟩
   refine ⟨hlo, ?_, ?_,fun i z hz=>?_, ?_, ?_,fun i z hz=>?_,fun i j z z' hij hz hz'=>?_,fun b hb=>?_⟩
   ·rw [heap_setBlock_same hw2m];simp
   ·have:=stamped_push h.st (val:=v') g2
    simpa using this
   ·rcases hold i z hz with ⟨rfl,rfl⟩ | ⟨_,hz⟩
    ·rfl
    ·exact h.born i z hz
   ·simp only [cO,hno,cond_false];simp [hszs]
   ·simp only [cO,cQ,hno,cond_false];simp [hlens]
   ·simp only [cO,cQ,hno,cond_false,hget,List.nil_append]
    rcases hold i z hz with ⟨rfl,rfl⟩ | ⟨hi,hz⟩
    ·refine ⟨?_, ?_⟩
     ·rw [gD,List.getD_eq_getElem?_getD,List.getElem?_append_right (by omega),hszs];simp
     ·have:gD (vs++[[y]]) es.size [] = [y]:=by rw [gD,List.getD_eq_getElem?_getD,List.getElem?_append_right (by omega),hszs,hlens];simp
      rw [this]
      have h2:LJ w2 base e vt v' [y]:=by
       show w2.ownsRow base e vt.k v' 1 ([y].flatMap vt.lits)
       simpa using hown
      refine iN h2 fun g hg=>heap_setBlock_other hw2m _ fun e=>?_
      have:=(dg h2 hg).1
      omega
    ·obtain ⟨k1,k2⟩:=h.ent i z hz
     refine ⟨?_, ?_⟩
     ·rw [gD,List.getD_eq_getElem?_getD,List.getElem?_append_left (by omega), ← List.getD_eq_getElem?_getD];exact k1
     ·have:gD (vs++[[y]]) i [] = gD vs i []:=by rw [gD,gD,List.getD_eq_getElem?_getD,List.getD_eq_getElem?_getD,List.getElem?_append_left (by omega)]
      rw [this]
      refine iN k2 fun g hg=>?_
      have:=dg k2 hg
      exact hblk g this.2 (by omega)
   ·rcases hold i z hz with ⟨rfl,rfl⟩ | ⟨hi,hz⟩ <;> rcases hold j z' hz' with ⟨rfl,rfl⟩ | ⟨hj,hz'⟩
    ·exact (hij rfl).elim
    ·refine .inr fun e=>?_
     have e:v'.ownBlock = z'.val.ownBlock:=e
     rw [hb'] at e
     have:=dg (h.ent j z' hz').2 e.symm
     omega
    ·refine .inr fun e=>?_
     have e:z.val.ownBlock = v'.ownBlock:=e
     rw [hb'] at e
     have:=dg (h.ent i z hz).2 e
     omega
    ·exact h.apart i j z z' hij hz hz'
   ·rcases hb with rfl | ⟨i,z,hz,hb⟩
    ·exact h.free _ (.inl rfl)
    ·rcases hold i z hz with ⟨rfl,rfl⟩ | ⟨hi,hz⟩
     ·have hb:v'.ownBlock = some b:=hb
      rw [hb'] at hb
      cases hb
      exact ⟨fun h=>by have:=hH.oklt _ h;omega,fun q h1 h2=>by have:=hH.lt _ _ h1 h2;omega⟩
     ·exact h.free b (.inr ⟨i,z,hz,hb⟩)
  ·exact ⟨hgr.os,hgr.tape,hgr.output,by simp [setBlock];exact hsz2,fun b hb hne _=>hblk b hb hne⟩
 ·
  have hyes:dJ (.st s) ks x = true:=by
   unfold dJ
   rw [Nat.blt_eq];exact g4
  obtain ⟨j,hj⟩:∃ j,j = aD (.st s) ks x:=⟨_,rfl⟩
  rw [← hj] at g1 g2 g4
  have hjl:j < es.size:=(Array.getElem?_eq_some_iff.1 g2).1
  have hget:cd (.st s) ks vs x [] = gD vs j []:=by unfold cd;rw [← hj]
  obtain ⟨_,hown0⟩:=h.ent j e0 g2
  have hborn:=h.born j e0 g2
  have hgl:(gD vs j []).length≤m:=by
   refine hm _ ?_
   rw [gD,List.getD_eq_getElem?_getD,List.getElem?_eq_getElem (by omega)]
   exact List.getElem_mem _
  have hg2l:es.toList[j]? = some e0:=by rw [Array.getElem?_toList];exact g2
  have hsame:es.modify j (fun e=>{ e with key:=bL (.st s) x }) = es:=by
   apply Array.ext'
   rw [Array.toList_modify,modify_eq_set _ _ _ _ hg2l]
   have:({ e0 with key:=bL (.st s) x }:MapEntry) = e0:=by rw [← g3]
   rw [this]
   exact WideElems.set_self _ _ _ hg2l
  have hown1:(setBlock w mb (.map es es.size)).ownsRow base e vt.k e0.val (gD vs j []).length ((gD vs j []).flatMap vt.lits):=iN hown0 fun g hg=>heap_setBlock_other h.map _ fun e=>by
   have:=(dg hown0 hg).1
   omega
  obtain ⟨v',w2,hr,hown,hgr,hnil,hat⟩:=run_append_own_at (P:=P) (setBlock w mb (.map es es.size)) base ts ty e i z vt.k i.bytes hts hi hiz hsize rfl hzs hsz e0.val (gD vs j []).length _ hown1 ad 1 c (vt.lits y) hlen
   (fun j u hu=>news1 _ j u hu) hone (by omega) (Nat.le_trans (Nat.mul_le_mul_right _ (by omega)) hm2) (by simp [setBlock];omega)
  have hat:v'.ownBlock = e0.val.ownBlock∨v'.ownBlock = some w.heap.size:=by simpa [setBlock] using hat
  have hmb0:some mb≠e0.val.ownBlock:=fun e=>by have:=(dg hown0 e.symm).1;omega
  have hw2m:w2.heap[mb]? = some (.map es es.size):=(hgr.block mb (by simp [setBlock];exact hmb) hmb0).trans (heap_setBlock_same h.map _)
  have hidx:es.findIdx? (fun e=>((e.born:Nat):Int) == ((e0.born:Nat):Int)) = some j:=by
   rw [WideElems.findIdx_arr]
   exact WideElems.findIdx_born s2 hg2l
  have hblk:∀ b,b < w.heap.size→b≠mb→some b≠e0.val.ownBlock→(setBlock w2 mb (.map (es.modify j fun e=>{ e with val:=v' }) es.size)).heap[b]? = w.heap[b]?:=fun b hb hne hne2 =>
   (heap_setBlock_other hw2m _ hne).trans ((hgr.block b (by simp [setBlock];exact hb) hne2).trans (heap_setBlock_other h.map _ hne))
  have hsz2:w.heap.size≤w2.heap.size:=by have:=hgr.size;simp [setBlock] at this;exact this
  refine ⟨e0.val,e0.born,setBlock w mb (.map es es.size),v',w2,setBlock w2 mb (.map (es.modify j fun e=>{ e with val:=v' }) es.size),es.modify j fun e=>{ e with val:=v' }, ?_,hr, ?_, ?_, ?_⟩
  ·simp [Instr.mapEntry,run_underlying ht,MapKept.run_getObj_map h.map,ml hk,g1,g2,g3,Fl hk,hsame,MapKept.run_setObj_map _ h.map,Result.andThen,setBlock]
  ·simp [Instr.entryStore,MapKept.run_getObj_map hw2m,asInt,asIntOf,goInt,hidx,MapKept.run_setObj_map _ hw2m,Result.andThen,setBlock]
  ·have hold:∀ (i:Nat) (z:MapEntry),(es.modify j fun e=>{ e with val:=v' })[i]? = some z→(i = j∧z = { e0 with val:=v' })∨(i≠j∧es[i]? = some z):=fun i z hz=>by
    rw [Array.getElem?_modify] at hz
    split at hz
    ·next hi =>
     subst hi
     rw [g2] at hz
     cases hz
     exact .inl ⟨rfl,rfl⟩
    ·next hi=>exact .inr ⟨fun e=>hi e.symm,hz⟩
   refine ⟨hlo, ?_, ?_,fun i z hz=>?_, ?_, ?_,fun i z hz=>?_,fun i q z z' hij hz hz'=>?_,fun b hb=>?_⟩
   ·rw [heap_setBlock_same hw2m];simp
   ·have:=stamped_modify h.st j (fun e=>{ e with val:=v' }) (fun _ _=>rfl) fun _ _ _=>rfl
    simpa using this
   ·rcases hold i z hz with ⟨rfl,rfl⟩ | ⟨_,hz⟩
    ·exact hborn
    ·exact h.born i z hz
   ·simp only [cO,hyes,cond_true];simp [hszs]
   ·simp only [cO,cQ,hyes,cond_true];simp [hlens]
   ·simp only [cO,cQ,hyes,cond_true, ← hj,hget]
    rcases hold i z hz with ⟨rfl,rfl⟩ | ⟨hi,hz⟩
    ·refine ⟨(h.ent i e0 g2).1, ?_⟩
     have:gD (vs.set i (gD vs i []++[y])) i [] = gD vs i []++[y]:=tR (by omega)
     rw [this]
     have h2:LJ w2 base e vt v' (gD vs i []++[y]):=by
      show w2.ownsRow base e vt.k v' (gD vs i []++[y]).length ((gD vs i []++[y]).flatMap vt.lits)
      rw [Nf,List.length_append]
      exact hown
     refine iN h2 fun g hg=>heap_setBlock_other hw2m _ fun e=>?_
     have:=(dg h2 hg).1
     omega
    ·obtain ⟨k1,k2⟩:=h.ent i z hz
     refine ⟨k1, ?_⟩
     have:gD (vs.set j (gD vs j []++[y])) i [] = gD vs i []:=yF (Ne.symm hi)
     rw [this]
     refine iN k2 fun g hg=>?_
     have hlt:=dg k2 hg
     refine hblk g hlt.2 (by omega) fun e=>?_
     rcases h.apart i j z e0 hi hz g2 with h1 | h1
     ·rw [hg] at h1;cases h1
     ·exact h1 (hg.trans e)
   ·have new:∀ (a:Nat) (za:MapEntry),a≠j→es[a]? = some za→za.val.ownBlock = none∨za.val.ownBlock≠v'.ownBlock:=fun a za ha hza=>by
     rcases hat with h1 | h1
     ·rw [h1];exact h.apart a j za e0 ha hza g2
     ·rw [h1]
      cases hzb:za.val.ownBlock with
      | none=>exact .inl rfl
      | some gx =>
       refine .inr fun e=>?_
       have:=(dg (h.ent a za hza).2 hzb).2
       cases e
       omega
    rcases hold i z hz with ⟨ei,ez⟩ | ⟨hi,hz2⟩ <;> rcases hold q z' hz' with ⟨eq,ez'⟩ | ⟨hq,hz2'⟩
    ·exact (hij (ei.trans eq.symm)).elim
    ·rw [ez]
     rcases new q z' hq hz2' with h1 | h1
     ·show v'.ownBlock = none∨v'.ownBlock≠z'.val.ownBlock
      rw [h1]
      cases v'.ownBlock with
      | none=>exact .inl rfl
      | some g=>exact .inr (by simp)
     ·exact .inr fun e=>h1 e.symm
    ·rw [ez']
     exact new i z hi hz2
    ·exact h.apart i q z z' hij hz2 hz2'
   ·rcases hb with rfl | ⟨i,z,hz,hb⟩
    ·exact h.free _ (.inl rfl)
    ·rcases hold i z hz with ⟨rfl,rfl⟩ | ⟨hi,hz⟩
     ·have hb:v'.ownBlock = some b:=hb
      rcases hat with h1 | h1
      ·exact h.free b (.inr ⟨i,e0,g2,h1 ▸ hb⟩)
      ·rw [h1] at hb
       cases hb
       exact ⟨fun h=>by have:=hH.oklt _ h;omega,fun q h1 h2=>by have:=hH.lt _ _ h1 h2;omega⟩
     ·exact h.free b (.inr ⟨i,z,hz,hb⟩)
  ·exact ⟨hgr.os,hgr.tape,hgr.output,by simp [setBlock];exact hsz2,fun b hb hne hno=>hblk b hb hne fun e=>hno j e0 g2 e.symm⟩
end
end Go.Ax
