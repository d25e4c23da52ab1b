import Derived.Test.YtnnblpijaoocaaaGreatXHd
import Derived.Test.YtnnblpijaoocaaaGreatXB19
import Derived.Test.YtnnblpijaoocaaaGreatRows
set_option linter.all false
set_option maxRecDepth 100000
/- The postings of a career: the loop that lays them into a map by their routes. -/
namespace Go.Ax
open Go.Proofs Go.Proofs.YtnnblpijaoocaaaGreat Go.RowKit Go.MapKept Go.ChangeMaps
noncomputable def fc (c:Code) (π:Nat):Array Oper:=match jB (jp π) c with | some (.region _ ops _)=>ops | _=>#[]
noncomputable def oD (c:Code) (π:Nat):Nat:=match jB (jp π) c with | some (.region i _ _)=>i | _=>0
noncomputable def eV:Code:=ai Tryz.f12
theorem TD:jB (jp 29) eV = some (.block 0 (.loop (.seq (.region (oD eV 232) (fc eV 232) false) (.seq (.cond (.tmp 17) .skip (.exit 0)) (.seq (.block 1 (.seq (.region (oD eV 3736) (fc eV 3736) false) (.seq (.region (oD eV 7474) (fc eV 7474) false) (.cond (.tmp 22) (.seq (.region (oD eV 29900) (fc eV 29900) false) (.region (oD eV 29901) (fc eV 29901) false)) .skip)))) (.region (oD eV 935) (fc eV 935) false)))))):=by kernel_rfl
def SP (f:GFact):Nat × Option Ob:=(0,some (.box ((Ty.enc (.st .GFact) f).map V.c)))
def VG (r:GCompetence_route):Nat × Option Ob:=(1,some (.box ((Ty.enc (.st .GCompetence_route) r).map V.c)))
def AE (mb:Nat) (l c:List GFact) (n i:Int):St:={ tm:=[sv 0 (.c (.sl (.st .GFact) l)),sv 3 (.c (.lit (.map (some mb)))),sv 14 (.c (.sl (.st .GFact) c)),sv 15 (i64 n),sv 16 (i64 i)],hp:=[],nx:=0 }
def RY (mb:Nat) (l c:List GFact) (n i:Int):St:={ tm:=[sv 0 (.c (.sl (.st .GFact) l)),sv 3 (.c (.lit (.map (some mb)))),sv 14 (.c (.sl (.st .GFact) c)),sv 15 (i64 n),sv 16 (i64 i),sv 17 (bl (aa (i < n)))],hp:=[],nx:=0 }
def U7 (mb:Nat) (l c:List GFact) (n i:Int) (f:GFact):St:={ tm:=[sv 0 (.c (.sl (.st .GFact) l)),sv 3 (.c (.lit (.map (some mb)))),sv 5 (.ptr 0 14 0 0),sv 14 (.c (.sl (.st .GFact) c)),sv 15 (i64 n),sv 16 (i64 i)],hp:=[SP f],nx:=1 }
def UT (mb:Nat) (l c:List GFact) (n i:Int) (f:GFact):St:={ tm:=[sv 0 (.c (.sl (.st .GFact) l)),sv 3 (.c (.lit (.map (some mb)))),sv 5 (.ptr 0 14 0 0),sv 14 (.c (.sl (.st .GFact) c)),sv 15 (i64 n),sv 16 (i64 i),sv 22 (bl (ae f.Kind 4))],hp:=[SP f],nx:=1 }
def Tc (mb:Nat) (l c:List GFact) (n i:Int) (f:GFact) (r:GCompetence_route):St:={ tm:=[sv 0 (.c (.sl (.st .GFact) l)),sv 3 (.c (.lit (.map (some mb)))),sv 5 (.ptr 0 14 0 0),sv 6 (.ptr 1 2 0 0),sv 14 (.c (.sl (.st .GFact) c)),sv 15 (i64 n),sv 16 (i64 i)],hp:=[SP f,VG r],nx:=2 }
section
variable (mb:Nat) (l c:List GFact) (n i:Int) (f:GFact) (r:GCompetence_route)
theorem Vw:qX (EF Tryz.prog) X0 67 (fc eV 232) false (AE mb l c n i) (oM [0,3,14,15,16,17]) = some (RY mb l c n i):=by kernel_rfl
theorem VF:qX (EF Tryz.prog) X0 67 (fc eV 935) false (AE mb l c n i) (oM [0,3,14,15,16]) = some (AE mb l c n (ab (i+1))):=by kernel_rfl
theorem VN:qX (EF Tryz.prog) X0 67 (fc eV 3736) false (RY mb l c n i) (oM [0,3,5,14,15,16]) = gb (aa (0≤i)) (gb (aa (i < (c.length:Int))) (some (U7 mb l c n i (gD c i.toNat (zS .GFact))))):=by kernel_rfl
theorem VK:qX (EF Tryz.prog) X0 67 (fc eV 7474) false (U7 mb l c n i f) (oM [0,3,5,14,15,16,22]) = some (UT mb l c n i f):=by kernel_rfl
theorem VS:qX (EF Tryz.prog) X0 67 (fc eV 29900) false (UT mb l c n i f) (oM [0,3,5,6,14,15,16]) = some (Tc mb l c n i f ⟨f.Seat,f.State⟩):=by kernel_rfl
theorem VJ:oM [0,3,14,15,16] (UT mb l c n i f) = some (AE mb l c n i):=by kernel_rfl
noncomputable def wo:List Oper:=(fc eV 29901).toList
theorem VT:(m5 Tryz.prog (fun _=>none) 67 wo (wo.take 5) (Tc mb l c n i f r)).map (fun q=>(bS q.2 [] (.tmp 28),bS q.2 [] (.tmp 29),bS q.2 [] (.tmp 33),ah.get q.2.hp 34,oM [0,3,14,15,16] q.2)) =
  some (some (.c (.lit (.map (some mb)))),some (encV (.st .GCompetence_route) r),some (.row 34 2),some (.row 30 (.st .GSpan) [f.Span]),some (AE mb l c n i)):=by kernel_rfl
end
theorem mQ {E E':ao} {w w':World} {v:Value} {d:D} (h:ak E w v (.c d)) (hd:∀ v d,aB E.ok w v d→aB E'.ok w' v d):ak E' w' v (.c d):=by
 cases h with
 | c _ _ h=>exact .c _ _ (hd _ _ h)
theorem Hd {tm:List (Nat × az)} {E:ao} {w:World} {a:Act} {B:eG} (h:∀ x∈tm,x.2.ch = []∧ak E w (cY B a x.1) x.2.v):∀ t s,au tm t = some s→km tm E w (cY B a t) s:=by
 have key:∀ (tm:List (Nat × az)) (t:Nat) (s:az),au tm t = some s→(t,s)∈tm:=by
  intro tm
  induction tm with
  | nil=>intro t s h;cases h
  | cons x r ih =>
   intro t s h
   obtain ⟨q,s'⟩:=x
   rw [bw] at h
   split at h
   ·next e=>cases h;subst e;simp
   ·exact List.mem_cons_of_mem _ (ih t s h)
 intro t s hg
 obtain ⟨h1,h2⟩:=h _ (key tm t s hg)
 exact ⟨fun _=>h2,fun _ hh=>by rw [show s.ch = [] from h1] at hh;cases hh⟩
theorem I2 {c:List GFact} {i:Nat} (hi:i < c.length):dv (c.take (i+1)) = iZ (dv (c.take i)) c[i]:=by
 unfold dv
 rw [List.take_succ_eq_append_getElem hi,List.foldl_append]
 rfl
theorem Q5 {s:List GCompetence_route × List (List GSpan)} {r:GCompetence_route} {y:GSpan} {m:Nat} (h:∀ v∈s.2,v.length≤m):∀ v∈du kR s.1 s.2 r (cF kR s.1 s.2 r []++[y]),v.length≤m+1:=by
 have hg:(cF kR s.1 s.2 r ([]:List GSpan)).length≤m:=by
  unfold cF
  rw [List.getD_eq_getElem?_getD]
  cases hx:s.2[aP kR s.1 r]? with
  | none=>simp
  | some v=>exact h v (List.mem_of_getElem? hx)
 intro v hv
 unfold du at hv
 cases hb:eC kR s.1 r with
 | true =>
  rw [hb,cond_true] at hv
  rcases List.mem_or_eq_of_mem_set hv with h1 | h1
  ·exact Nat.le_succ_of_le (h v h1)
  ·rw [h1,List.length_append];simp;exact hg
 | false =>
  rw [hb,cond_false] at hv
  rcases List.mem_append.1 hv with h1 | h1
  ·exact Nat.le_succ_of_le (h v h1)
  ·rw [List.mem_singleton.1 h1,List.length_append];simp;exact hg
theorem SX {ok:Nat→Prop} {w:World} {base:Nat} {e:TypeId} {vt:Ty} {v:Value} {l:List vt.T} (h:OK w base e vt v l) (hok:∀ b,v.ownBlock = some b→ok b) (henc:∀ x:vt.T,vt.enc x = (vt.lits x).map .lit) (hone:∀ x:vt.T, ∀ u∈vt.lits x,u.oneCell' = true):aB ok w v (.sl vt l):=by
 have hlen:∀ x:vt.T,(vt.lits x).length = vt.k:=fun x=>by rw [Ty.lits,List.length_map,iy]
 have hat:∀ (l:List vt.T) (i j:Nat),i < l.length→j < vt.k→(l.flatMap vt.lits)[i*vt.k+j]? = (vt.lits (gD l i vt.z))[j]?:=by
  intro l
  induction l with
  | nil=>intro i j hi;simp at hi
  | cons x r ih =>
   intro i j hi hj
   rw [List.flatMap_cons]
   cases i with
   | zero=>rw [Nat.zero_mul,Nat.zero_add,List.getElem?_append_left (by rw [hlen];exact hj)];rfl
   | succ i =>
    rw [List.getElem?_append_right (by rw [hlen,Nat.add_mul];omega),hlen,show (i+1)*vt.k+j - vt.k = i*vt.k+j by rw [Nat.add_mul];omega,ih i j (by simpa using hi) hj]
    rfl
 rcases h.2 with ⟨rfl,hn⟩ | ⟨g,cap,cur,rfl,h1,h2,h3,h4,h5,h6⟩
 ·have:l = []:=List.length_eq_zero_iff.1 hn
  subst this
  exact aB.sl vt [] none 0 0 vt.k (fun _=>[]) (fun _ _=>undef) rfl rfl (fun i hi=>by omega) (Nat.le_refl _) (by unfold maxLen;omega) (fun hi=>by omega) (fun i j hi=>by omega) (fun i hi=>by omega) fun i j d hi=>by omega
 ·have hcell:∀ i j,i < l.length→j < vt.k→∃ u,(vt.lits (gD l i vt.z))[j]? = some u∧cur[i*vt.k+j]? = some u:=by
   intro i j hi hj
   have hlt:i*vt.k+j < l.length*vt.k:=by
    have:(i+1)*vt.k≤l.length*vt.k:=Nat.mul_le_mul_right _ hi
    rw [Nat.add_mul,Nat.one_mul] at this
    omega
   have e1:=hat l i j hi hj
   rw [← h6,List.getElem?_take,if_pos hlt,Array.getElem?_toList] at e1
   have hj2:j < (vt.lits (gD l i vt.z)).length:=by rw [hlen];exact hj
   refine ⟨(vt.lits (gD l i vt.z))[j],List.getElem?_eq_getElem hj2, ?_⟩
   rw [e1,List.getElem?_eq_getElem hj2]
  refine aB.sl vt l (some ⟨g,0,none⟩) l.length cap vt.k (els vt l) (fun i j=>(vt.lits (gD l i vt.z)).getD j undef) rfl rfl (fun _ _=>rfl) h3 h4 (fun _=>⟨_,rfl,hok g rfl,fun i j hi hj=>?_⟩) (fun i j hi hj=>?_) (fun i _=>en _ _ _) fun i j d hi hd=>?_
  ·obtain ⟨u,q1,q2⟩:=hcell i j hi hj
   rw [ck,Nat.zero_add,List.getD_eq_getElem?_getD,q1]
   simp [World.cell?,h2,q2]
  ·obtain ⟨u,q1,_⟩:=hcell i j hi hj
   rw [List.getD_eq_getElem?_getD,q1]
   exact hone _ u (List.mem_of_getElem? q1)
  ·rw [eR,henc,List.getElem?_map] at hd
   cases hx:(vt.lits (l.getD i vt.z))[j]? with
   | none=>rw [hx] at hd;cases hd
   | some u =>
    rw [hx] at hd
    cases hd
    show aB ok w ((vt.lits (gD l i vt.z)).getD j undef) _
    rw [List.getD_eq_getElem?_getD,show (vt.lits (gD l i vt.z))[j]? = some u from hx]
    exact .lit _
def P7:Tm:={ sl:=[(0, .t (.ls (.st .GFact))),(3, .k (.fn 2000000000 [.ptr 0 1 0 0])),(14, .t (.ls (.st .GFact))),(15, .t (.i .i64)),(16, .t (.i .i64))],ob:=[.map 66 (.st .GCompetence_route) (.ls (.st .GSpan))] }
def Mz:Tm:={ sl:=[(0, .t (.ls (.st .GFact))),(3, .k (.fn 2000000000 [.ptr 0 1 0 0]))],ob:=[.map 66 (.st .GCompetence_route) (.ls (.st .GSpan))] }
def Td (l c:List GFact) (n i:Int) (ks:List GCompetence_route) (vs:List (List GSpan)):St:={ tm:=[sv 0 (.c (.sl (.st .GFact) l)),sv 3 (.fn 2000000000 [.ptr 0 1 0 0]),sv 14 (.c (.sl (.st .GFact) c)),sv 15 (i64 n),sv 16 (i64 i)],hp:=[(0,some (.map 66 (.st .GCompetence_route) (.ls (.st .GSpan)) ks vs))],nx:=1 }
def Iq (l:List GFact) (ks:List GCompetence_route) (vs:List (List GSpan)):St:={ tm:=[sv 0 (.c (.sl (.st .GFact) l)),sv 3 (.fn 2000000000 [.ptr 0 1 0 0])],hp:=[(0,some (.map 66 (.st .GCompetence_route) (.ls (.st .GSpan)) ks vs))],nx:=1 }
theorem Ud (x:HP P7.tys):oR P7 x = Td x.1 x.2.1 x.2.2.1 x.2.2.2.1 x.2.2.2.2.1 x.2.2.2.2.2:=by kernel_rfl
theorem RR (x:HP Mz.tys):oR Mz x = Iq x.1 x.2.1 x.2.2:=by kernel_rfl
theorem K9 (x:GSpan):(Ty.st .GSpan).enc x = ((Ty.st .GSpan).lits x).map .lit:=rfl
theorem Lj (x:GSpan):∀ u∈(Ty.st .GSpan).lits x,u.oneCell' = true:=by
 intro v hv
 have e:(Ty.st .GSpan).lits x = [.int .i64 x.From, .int .i64 x.To]:=rfl
 rw [e] at hv
 simp only [List.mem_cons,List.not_mem_nil,or_false] at hv
 rcases hv with rfl | rfl <;> rfl
section
variable {B:eG} {E:ao} {a:Act} {w:World} {l c:List GFact}
theorem Vg {n i:Int} (hs:aZ 67 B (Td l c n i [] []) E a w):∃ mb E0,aZ 67 B (AE mb l c n i) E0 a w∧qt E0 w w.heap.size mb 30 .GCompetence_route (.st .GSpan) #[] [] []∧(B.W.heap.size≤mb∨B.mb mb):=by
 have h3:ak E w (cY B a 3) (HS 0):=(hs.slots 3 ⟨[],HS 0⟩ rfl).1 rfl
 obtain ⟨mb,ev,hlive,hconc,hg⟩:=iO hs.heap h3 (o':=0) (ob:=.map 66 kR (.ls (.st .GSpan)) [] []) rfl
 obtain ⟨_,_,_,b',es,clock,q3,q4,q5,q6,q7,q8,q9⟩:=hs.heap.at_ _ _ hg
 rw [hconc] at q3;cases q3
 have ees:es = #[]:=Array.eq_empty_of_size_eq_zero q6
 subst ees
 have ecl:clock = 0:=q8
 subst ecl
 have hd:∀ v d,aB E.ok w v d→aB E.ok w v d:=fun _ _ h=>h
 refine ⟨mb,{ E with live:=fun _=>False },⟨hs.size,hs.small,hs.defers,fun _ _ h=>h,⟨fun o ob h=>(by cases h),fun _ _ _ h=>h.elim,fun _ _ h=>h.elim,fun _ _ h=>h.elim,hs.heap.oklt⟩,Hd fun x hx=>?_,hs.base,fun _ _ h=>h.elim,hs.okold⟩, ?_,hs.own 0 mb hlive hconc⟩
 ·simp only [AE,List.mem_cons,List.not_mem_nil,or_false] at hx
  rcases hx with rfl | rfl | rfl | rfl | rfl
  ·exact ⟨rfl,mQ (E':={ E with live:=fun _=>False }) ((hs.slots 0 _ rfl).1 rfl) hd⟩
  ·refine ⟨rfl, ?_⟩
   show ak _ w (cY B a 3) _
   rw [ev]
   exact .c _ _ (.lit _)
  ·exact ⟨rfl,mQ (E':={ E with live:=fun _=>False }) ((hs.slots 14 _ rfl).1 rfl) hd⟩
  ·exact ⟨rfl,mQ (E':={ E with live:=fun _=>False }) ((hs.slots 15 _ rfl).1 rfl) hd⟩
  ·exact ⟨rfl,mQ (E':={ E with live:=fun _=>False }) ((hs.slots 16 _ rfl).1 rfl) hd⟩
 ·refine ⟨dU q4,q4,q5,fun i x h=>by simp at h,rfl,rfl,fun i x h=>by simp at h,fun i j x y _ h=>by simp at h,fun b hb=>?_⟩
  rcases hb with rfl | ⟨i,x,h,_⟩
  ·exact ⟨hs.heap.sep 0 _ hlive hconc,fun _ h=>h.elim⟩
  ·simp at h
theorem UL {σ:St} {mb base:Nat} {es:Array MapEntry} {ks:List GCompetence_route} {vs:List (List GSpan)} (hs:aZ 67 B σ E a w) (h0:au σ.tm 0 = some ⟨[], .c (.sl (.st .GFact) l)⟩) (h3:au σ.tm 3 = some ⟨[], .c (.lit (.map (some mb)))⟩)
  (hG:qt E w base mb 30 .GCompetence_route (.st .GSpan) es ks vs) (hm:B.W.heap.size≤mb∨B.mb mb) (hb:B.W.heap.size≤base):∃ E',aZ 67 B (Iq l ks vs) E' a w:=by
 have ev:cY B a 3 = .map (some mb):=((hs.slots 3 _ h3).1 rfl).lit_inv
 let ok':Nat→Prop:=fun b=>E.ok b∨∃ (i:Nat) (x:MapEntry),es[i]? = some x∧x.val.ownBlock = some b
 have hd:∀ v d,aB E.ok w v d→aB ok' w v d:=fun v d h=>h.mono (fun _ h=>.inl h) fun _ _=>rfl
 have hlo:=hG.lo
 refine ⟨⟨fun _=>some mb,fun _=>0,fun _=>1,fun o=>o = 0,ok'⟩,hs.size,hs.small,hs.defers,fun q hq h=>by have:q = 0:=h;subst this;exact absurd hq (by show ¬ (1≤0);omega),⟨fun o ob h=>?_,fun o o' b h1 h2 _ _=>(show o = 0 from h1).trans (show o' = 0 from h2).symm,fun o b h1 h2 h=>?_,fun o b h1 h2=>?_,fun b h=>?_⟩,Hd fun x hx=>?_,hs.base,fun o b h1 h2=>?_,fun b h=>?_⟩
 ·simp only [Iq] at h
  rw [ah.get_cons] at h
  split at h
  ·next e =>
   subst e
   cases h
   refine ⟨rfl,rfl,hG.len,mb,es,es.size,rfl,hG.map,hG.st,hG.sz,fun i x hx=>?_,rfl,hG.born⟩
   obtain ⟨k1,k2⟩:=hG.ent i x hx
   exact ⟨k1,SX k2 (fun b hb=>.inr ⟨i,x,hx,hb⟩) K9 Lj⟩
  ·cases h
 ·cases h2
  rcases h with h | ⟨i,x,hx,hbk⟩
  ·exact (hG.free mb (.inl rfl)).1 h
  ·have:=(dL (hG.ent i x hx).2 hbk).1
   omega
 ·cases h2;exact dU hG.map
 ·rcases h with h | h
  ·exact hs.heap.oklt b h
  ·exact hG.lt (.inr h)
 ·simp only [Iq,List.mem_cons,List.not_mem_nil,or_false] at hx
  rcases hx with rfl | rfl
  ·exact ⟨rfl,mQ ((hs.slots 0 _ h0).1 rfl) hd⟩
  ·refine ⟨rfl, ?_⟩
   show ak _ w (cY B a 3) _
   rw [ev]
   have:=ak.fn (E:=⟨fun _=>some mb,fun _=>0,fun _=>1,fun o=>o = 0,ok'⟩) (w:=w) 2000000000 [.pointer (some ⟨mb,0*1+0,none⟩)] [.ptr 0 1 0 0] rfl fun i v d hv hd=>by
    match i with
    | 0=>simp at hv hd;subst hv hd;exact .ptr 0 1 0 0 mb rfl rfl (Nat.lt_succ_self 0)
    | i+1=>simp at hv
   exact this
 ·cases h2;exact hm
 ·rcases h with h | ⟨i,x,hx,hbk⟩
  ·exact hs.okold b h
  ·have:=(dL (hG.ent i x hx).2 hbk).1
   exact .inr (.inl (by omega))
end
theorem Uc (u:World):(zeroValue 56).run Tryz.prog u = .ok (.slice none 0 0) u:=by kernel_rfl
noncomputable def Ta:TypeInfo:=(Tryz.prog.info? 30).get (by kernel_rfl)
theorem KL:jg Tryz.prog 69 (.st .GCompetence_route) = true:=by kernel_rfl
noncomputable def Oo:Oper:=(wo[5]?).get (by kernel_rfl)
noncomputable def Ok:Oper:=(wo[6]?).get (by kernel_rfl)
noncomputable def IV:Oper:=(wo[7]?).get (by kernel_rfl)
noncomputable def Ot:Oper:=(wo[8]?).get (by kernel_rfl)
noncomputable def Og:Oper:=(wo[9]?).get (by kernel_rfl)
theorem TC:wo = wo.take 5++[Oo,Ok,IV,Ot,Og]:=by kernel_rfl
theorem UU:Oo.op = .mapEntry 66 (.tmp 28) (.tmp 29):=by kernel_rfl
theorem UI:Ok.op = .extract (.tmp 34) 0:=by kernel_rfl
theorem Vc:IV.op = .call { callee:=.builtin .append,args:=#[.tmp 30, .tmp 33],argTypes:=#[56,56] }:=by kernel_rfl
theorem Ur:Ot.op = .extract (.tmp 34) 1:=by kernel_rfl
theorem U2:Og.op = .entryStore 66 (.tmp 28) (.tmp 36) (.tmp 35):=by kernel_rfl
theorem Vb:Oo.dst = some 34∧Ok.dst = some 30∧IV.dst = some 35∧Ot.dst = some 36∧Og.dst = none:=⟨by kernel_rfl,by kernel_rfl,by kernel_rfl,by kernel_rfl,by kernel_rfl⟩
theorem RA:Oo.guard = none∧Ok.guard = none∧IV.guard = none∧Ot.guard = none∧Og.guard = none:=⟨by kernel_rfl,by kernel_rfl,by kernel_rfl,by kernel_rfl,by kernel_rfl⟩
theorem dn {a:Act} {d t:Nat} {v:Value} (hd:d < a.tmps.size):(a.put (some d) v).eval (.tmp t) = if d = t then v else a.eval (.tmp t):=by
 simp only [Act.eval,Act.put,Array.getD_eq_getD_getElem?]
 rw [Array.getElem?_setIfInBounds]
 split
 ·simp [hd]
 ·rfl
section
variable {B:eG} {E:ao} {a:Act} {w:World} {l c:List GFact}
set_option maxHeartbeats 4000000 in
theorem R0 {mb base:Nat} {n i:Int} {f:GFact} {r:GCompetence_route} {es:Array MapEntry} {ks:List GCompetence_route} {vs:List (List GSpan)} {m:Nat} (hs:aZ 67 B (Tc mb l c n i f r) E a w) (hG:qt E w base mb 30 .GCompetence_route (.st .GSpan) es ks vs) (hb:base≤w.heap.size) (hbB:B.W.heap.size≤base)
  (hmB:B.W.heap.size≤mb∨B.mb mb) (hv:∀ v∈vs,v.length≤m) (hm:m≤1000000) :
  (Code.region (oD eV 29901) (fc eV 29901) false).wp Tryz.prog (fun e a' w'=>e = .normal∧∃ E' es',aZ 67 B (AE mb l c n i) E' a' w'∧qt E' w' base mb 30 .GCompetence_route (.st .GSpan) es' (dq kR ks r) (du kR ks vs r (cF kR ks vs r []++[f.Span]))∧base≤w'.heap.size) a w:=by
 refine wp_region ?_
 have hD:=VT mb l c n i f r
 obtain ⟨⟨ps,σ5⟩,hg,hD⟩:=Option.map_eq_some_iff.1 hD
 simp only [Prod.mk.injEq] at hD
 obtain ⟨d28,d29,d33,dob,donly⟩:=hD
 have hps:∀ p∈ps,p:=by
  have h1:(m5 Tryz.prog (fun _=>none) 67 wo (wo.take 5) (Tc mb l c n i f r)).map (·.1) = some []:=by kernel_rfl
  rw [hg] at h1
  cases h1
  simp
 have hsz:(fc eV 29901).size = (wo.take 5).length+5:=by kernel_rfl
 rw [List.range_eq_range',hsz]
 refine Ij (P:=Tryz.prog) (N:=67) (B:=Bo B E w) (C:=fun _=>none) (fun f con h=>by cases h) (wo.take 5) [Oo,Ok,IV,Ot,Og] 0 _ σ5 ps E a w TC hg hps hs.base0 fun E5 a5 w5 hs5'=>?_
 obtain ⟨hs5,hf5⟩:=hs.rebase hs5'
 have hG5:=hG.fr hf5
 have hb5:base≤w5.heap.size:=Nat.le_trans hb hf5.size
 have e28:a5.eval (.tmp 28) = .map (some mb):=(bH hs5 (ch:=[]) rfl d28).lit_inv
 have e29:a5.eval (.tmp 29) = cn kR r:=by
  have:=bH hs5 (ch:=[]) rfl d29
  exact xj KL this (show zT kR (encV kR r) = some r from rfl)
 have h33:=bH hs5 (ch:=[]) rfl d33
 obtain ⟨hl34,hlen34,hob⟩:=hs5.heap.at_ _ _ dob
 obtain ⟨ra,rn,rc,e33,_,hrn,hr0⟩:=iv h33
 rcases hob with ⟨_,h0⟩ | ⟨rb,C,g1,g2,g3,g4,g5,g6,g7,g8⟩
 ·cases h0
 rcases hr0 with ⟨_,_,_,h0⟩ | ⟨rb',q1,rfl,rfl⟩
 ·rw [g1] at h0;cases h0
 rw [g1] at q1;cases q1
 have hrn:rn = 1:=hrn.trans hlen34
 subst hrn
 have hrb:rb≠mb:=fun e=>(hG5.free mb (.inl rfl)).2 _ hl34 (by rw [g1,e])
 have hnews:∀ (j:Nat) (u:Value),((Ty.st .GSpan).lits f.Span)[j]? = some u→w5.cell? ((⟨rb,0,none⟩:Addr).add j) = some u:=by
  intro j u hu
  have hj:j < 2:=by
   have:=(List.getElem?_eq_some_iff.1 hu).1
   exact this
  have hC:∃ cv,C[j]? = some cv:=by
   have hk:1*2≤C.size:=by rw [g3];exact Nat.mul_le_mul_right _ g4
   exact ⟨_,Array.getElem?_eq_getElem (by omega)⟩
  obtain ⟨cv,hcv⟩:=hC
  have hd:=g8 0 j (.lit u) cv (by show 0 < 1;omega) (by
   show (els (Ty.st .GSpan) [f.Span] 0)[j]? = _
   rw [eR,show ([f.Span]:List GSpan).getD 0 _ = f.Span from rfl,K9,List.getElem?_map,hu];rfl) (by rw [Nat.zero_mul,Nat.zero_add];exact hcv)
  have ecv:cv = u:=by cases hd;rfl
  rw [ck,Nat.zero_add]
  simp [World.cell?,g2,hcv,ecv]
 obtain ⟨v0,st,w1,v',w2,w3,es',r1,r2,r3,hG3,x1,x2,x3,x4,x5⟩:=Sz (P:=Tryz.prog) (t:=66) (ts:=56) (kk:=69) hs5.heap hb5 hG5 KL (by kernel_rfl) (by kernel_rfl) Uc (i:=Ta) (by kernel_rfl) (z:=.agg #[.int .i64 0, .int .i64 0]) (by kernel_rfl) (by kernel_rfl) (by kernel_rfl) (by decide)
  r f.Span ⟨rb,0,none⟩ (E5.cap 34) hrb hnews (Lj _) m hv (by unfold maxLen;omega) (by rw [show Ta.bytes = 16 from by kernel_rfl];omega) IV.type
 obtain ⟨p5,p6,p7,p8,p9⟩:=Vb
 obtain ⟨u5,u6,u7,u8,u9⟩:=RA
 have hN:=hs5.size
 show wpOps _ _ _ [5,6,7,8,9] a5 w5
 rw [wpOps_cons]
 refine Fm (o:=Oo) (v:=.tuple #[v0,goInt st]) (w':=w1) (by kernel_rfl) u5 ?_ ?_
 ·simp only [execOp,UU,e28,e29,Sem.run_bind,r1,Result.andThen_ok]
  rfl
 rw [p5,wpOps_cons]
 have z1:(a5.put (some 34) (.tuple #[v0,goInt st])).tmps.size = 67:=by simp [Act.put,hN]
 refine Fm (o:=Ok) (v:=v0) (w':=w1) (by kernel_rfl) u6 ?_ ?_
 ·have q34:(a5.put (some 34) (.tuple #[v0,goInt st])).eval (.tmp 34) = .tuple #[v0,goInt st]:=by rw [dn (by rw [hN];decide),if_pos rfl]
  simp only [execOp,UI,q34]
  simp [Instr.extract]
 rw [p6,wpOps_cons]
 have z2:((a5.put (some 34) (.tuple #[v0,goInt st])).put (some 30) v0).tmps.size = 67:=by simp [Act.put,hN]
 refine Fm (o:=IV) (v:=v') (w':=w2) (by kernel_rfl) u7 ?_ ?_
 ·have q30:((a5.put (some 34) (.tuple #[v0,goInt st])).put (some 30) v0).eval (.tmp 30) = v0:=by rw [dn (by rw [z1];decide),if_pos rfl]
  have q33:((a5.put (some 34) (.tuple #[v0,goInt st])).put (some 30) v0).eval (.tmp 33) = .slice (some ⟨rb,0,none⟩) 1 (E5.cap 34):=by rw [dn (by rw [z1];decide),if_neg (by decide),dn (by rw [hN];decide),if_neg (by decide),e33]
  unfold execOp
  simp only [Vc,resolve,invoke,builtin,Sem.run_bind,Sem.run_pure,Result.andThen_ok,List.map_toArray,List.map_cons,List.map_nil,q30,q33]
  have r2':(Builtin.append_ #[56,56] IV.type #[v0, .slice (some { block:=rb,off:=0 }) 1 (E5.cap 34)]).run Tryz.prog w1 = .ok v' w2:=r2
  rw [r2']
  rfl
 rw [p7,wpOps_cons]
 have z3:(((a5.put (some 34) (.tuple #[v0,goInt st])).put (some 30) v0).put (some 35) v').tmps.size = 67:=by simp [Act.put,hN]
 refine Fm (o:=Ot) (v:=goInt st) (w':=w2) (by kernel_rfl) u8 ?_ ?_
 ·have q34:(((a5.put (some 34) (.tuple #[v0,goInt st])).put (some 30) v0).put (some 35) v').eval (.tmp 34) = .tuple #[v0,goInt st]:=by rw [dn (by rw [z2];decide),if_neg (by decide),dn (by rw [z1];decide),if_neg (by decide),dn (by rw [hN];decide),if_pos rfl]
  simp only [execOp,Ur,q34]
  simp [Instr.extract]
 rw [p8,wpOps_cons]
 refine Ub (o:=Og) (w':=w3) (by kernel_rfl) u9 ?_ ?_
 ·have q28:((((a5.put (some 34) (.tuple #[v0,goInt st])).put (some 30) v0).put (some 35) v').put (some 36) (goInt st)).eval (.tmp 28) = .map (some mb):=by rw [dn (by rw [z3];decide),if_neg (by decide),dn (by rw [z2];decide),if_neg (by decide),dn (by rw [z1];decide),if_neg (by decide),dn (by rw [hN];decide),if_neg (by decide),e28]
  have q36:((((a5.put (some 34) (.tuple #[v0,goInt st])).put (some 30) v0).put (some 35) v').put (some 36) (goInt st)).eval (.tmp 36) = goInt st:=by rw [dn (by rw [z3];decide),if_pos rfl]
  have q35:((((a5.put (some 34) (.tuple #[v0,goInt st])).put (some 30) v0).put (some 35) v').put (some 36) (goInt st)).eval (.tmp 35) = v':=by rw [dn (by rw [z3];decide),if_neg (by decide),dn (by rw [z2];decide),if_pos rfl]
  simp only [execOp,U2,q28,q36,q35,Sem.run_bind,r3,Result.andThen_ok]
  rfl
 rw [p9]
 obtain ⟨E6,hs6,hf6⟩:=(Bi donly).fr hs5
 have hG5':=hG5.fr hf6
 have hok:∀ b,E6.ok b→w3.heap[b]? = w5.heap[b]?:=fun b hb=>by
  refine x5 b (hs6.heap.oklt b hb) (fun e=>?_) fun i z hz e=>?_
  ·subst e;exact (hG5'.free _ (.inl rfl)).1 hb
  ·exact (hG5'.free _ (.inr ⟨i,z,hz,e⟩)).1 hb
 have hd:∀ v d,aB E6.ok w5 v d→aB E6.ok w3 v d:=fun v d h=>h.mono (fun _ h=>h) hok
 have hG6:qt E6 w3 base mb 30 .GCompetence_route (.st .GSpan) es' (dq kR ks r) (du kR ks vs r (cF kR ks vs r []++[f.Span])):=by
  refine ⟨hG3.lo,hG3.map,hG3.st,hG3.born,hG3.sz,hG3.len,hG3.ent,hG3.apart,fun b hb=>?_⟩
  obtain ⟨k1,k2⟩:=hG3.free b hb
  by_cases hlt:b < w5.heap.size
  ·exact (hf6.keep b hlt k1 k2).2
  ·exact ⟨fun h=>hlt (hs6.heap.oklt b h),fun q h1 h2=>hlt (hs6.heap.lt q b h1 h2)⟩
 refine ⟨rfl,E6,es', ?_,hG6,Nat.le_trans hb5 x4⟩
 have hval:∀ t,t < 1000000→t≠34→t≠30→t≠35→t≠36→cY B (((((a5.put (some 34) (.tuple #[v0,goInt st])).put (some 30) v0).put (some 35) v').put (some 36) (goInt st)).put none undef) t = cY B a5 t:=fun t h0 h1 h2 h3 h4=>by
  rw [nw h0,nw h0]
  have e1:=dn (a:=((a5.put (some 34) (.tuple #[v0,goInt st])).put (some 30) v0).put (some 35) v') (d:=36) (t:=t) (v:=goInt st) (by rw [z3];decide)
  have e2:=dn (a:=(a5.put (some 34) (.tuple #[v0,goInt st])).put (some 30) v0) (d:=35) (t:=t) (v:=v') (by rw [z2];decide)
  have e3:=dn (a:=a5.put (some 34) (.tuple #[v0,goInt st])) (d:=30) (t:=t) (v:=v0) (by rw [z1];decide)
  have e4:=dn (a:=a5) (d:=34) (t:=t) (v:=.tuple #[v0,goInt st]) (by rw [hN];decide)
  rw [if_neg (Ne.symm h4)] at e1
  rw [if_neg (Ne.symm h3)] at e2
  rw [if_neg (Ne.symm h2)] at e3
  rw [if_neg (Ne.symm h1)] at e4
  exact ((e1.trans e2).trans e3).trans e4
 refine ⟨?_,hs6.small,hs6.defers,hs6.live,⟨fun o ob h=>(by cases h),hs6.heap.inj,hs6.heap.sep,fun o b h1 h2=>Nat.lt_of_lt_of_le (hs6.heap.lt o b h1 h2) x4,fun b h=>Nat.lt_of_lt_of_le (hs6.heap.oklt b h) x4⟩,Hd fun x hx=>?_,⟨x1.trans hs6.base.os,x2.trans hs6.base.tape,x3.trans hs6.base.output,Nat.le_trans hs6.base.size x4,fun k hk hm'=>?_⟩,hs6.own,hs6.okold⟩
 ·simp [Act.put,hN]
 ·simp only [AE,List.mem_cons,List.not_mem_nil,or_false] at hx
  rcases hx with rfl | rfl | rfl | rfl | rfl
  ·exact ⟨rfl,by rw [hval 0 (by decide) (by decide) (by decide) (by decide) (by decide)];exact mQ ((hs6.slots 0 _ rfl).1 rfl) hd⟩
  ·exact ⟨rfl,by rw [hval 3 (by decide) (by decide) (by decide) (by decide) (by decide)];exact mQ ((hs6.slots 3 _ rfl).1 rfl) hd⟩
  ·exact ⟨rfl,by rw [hval 14 (by decide) (by decide) (by decide) (by decide) (by decide)];exact mQ ((hs6.slots 14 _ rfl).1 rfl) hd⟩
  ·exact ⟨rfl,by rw [hval 15 (by decide) (by decide) (by decide) (by decide) (by decide)];exact mQ ((hs6.slots 15 _ rfl).1 rfl) hd⟩
  ·exact ⟨rfl,by rw [hval 16 (by decide) (by decide) (by decide) (by decide) (by decide)];exact mQ ((hs6.slots 16 _ rfl).1 rfl) hd⟩
 ·have hsz5:=hs6.base.size
  refine (x5 k (by omega) (fun e=>?_) fun i z hz e=>?_).trans (hs6.base.block k hk hm')
  ·subst e
   rcases hmB with h | h
   ·omega
   ·exact hm' h
  ·have:=(dL (hG5.ent i z hz).2 e).1
   omega
theorem Ti {α:Type} {b:Bool} {o:Option α} (h:b = true):gb b o = o:=by rw [h];rfl
set_option maxHeartbeats 4000000 in
theorem Tw {n0 i0:Int} (hn:n0 = c.length) (hi0:i0 = 0) (hc:c.length≤1000000) (hs:aZ 67 B (Td l c n0 i0 [] []) E a w):(Code.block 0 (.loop (.seq (.region (oD eV 232) (fc eV 232) false) (.seq (.cond (.tmp 17) .skip (.exit 0)) (.seq (.block 1 (.seq (.region (oD eV 3736) (fc eV 3736) false) (.seq (.region (oD eV 7474) (fc eV 7474) false) (.cond (.tmp 22) (.seq (.region (oD eV 29900) (fc eV 29900) false) (.region (oD eV 29901) (fc eV 29901) false)) .skip)))) (.region (oD eV 935) (fc eV 935) false)))))).wp Tryz.prog (KS 67 B fun e σ'=>e = .normal∧σ' = Iq l (dv c).1 (dv c).2) a w:=by
 subst hn hi0
 have hmix:Tryz.prog.follows .mixedOrders = true:=by kernel_rfl
 obtain ⟨mb,E0,hs0,hG0,hmB⟩:=Vg hs
 have hbB:B.W.heap.size≤w.heap.size:=hs.base.size
 obtain ⟨base,hbase⟩:∃ base,base = w.heap.size:=⟨_,rfl⟩
 rw [← hbase] at hG0 hbB
 let I:Nat→Act→World→Prop:=fun m a w=>∃ (i:Nat) (E:ao) (es:Array MapEntry),i+m = c.length∧aZ 67 B (AE mb l c c.length i) E a w∧qt E w base mb 30 .GCompetence_route (.st .GSpan) es (dv (c.take i)).1 (dv (c.take i)).2∧base≤w.heap.size∧∀ v∈(dv (c.take i)).2,v.length≤i
 refine wp_block (wp_mono (RO (Q:=fun e a w=>e = .exit 0∧KS 67 B (fun e σ'=>e = .normal∧σ' = Iq l (dv c).1 (dv c).2) .normal a w) I ?_ c.length a w ⟨0,E0, #[],by omega,hs0,hG0,by omega,fun v hv=>by cases hv⟩) ?_)
 ·rintro m a w ⟨i,E,es,him,hs,hG,hb,hv⟩
  refine wp_seq (wp_mono ((Av hmix [0,3,14,15,16,17] (Vw mb l c c.length i)).fr hs) ?_)
  rintro e a1 w1 ⟨σ1,E1,⟨rfl,rfl⟩,hs1,hf1⟩
  have hG1:=hG.fr hf1
  have hb1:=Nat.le_trans hb hf1.size
  have e17:a1.eval (.tmp 17) = .bool (aa ((i:Int) < c.length)):=(bH hs1 (ch:=[]) (x:=.tmp 17) rfl rfl).lit_inv
  refine wp_seq (wp_cond_split e17 (fun ht=>wp_skip ?_) fun hf=>wp_exit ?_)
  ·have hil:i < c.length:=by simpa [aa] using ht
   refine wp_seq (wp_block ?_)
   have hA:qX (EF Tryz.prog) X0 67 (fc eV 3736) false (RY mb l c c.length i) (oM [0,3,5,14,15,16]) = some (U7 mb l c c.length i c[i]):=by
    rw [VN,Ti (by simp),Ti (by simpa using hil),Int.toNat_natCast,gD,List.getD_eq_getElem?_getD,List.getElem?_eq_getElem hil]
    rfl
   refine wp_seq (wp_mono ((Av hmix _ hA).fr hs1) ?_)
   rintro e a2 w2 ⟨σ2,E2,⟨rfl,rfl⟩,hs2,hf2⟩
   refine wp_seq (wp_mono ((Av hmix _ (VK mb l c c.length i c[i])).fr hs2) ?_)
   rintro e a3 w3 ⟨σ3,E3,⟨rfl,rfl⟩,hs3,hf3⟩
   have hG3:=(hG1.fr hf2).fr hf3
   have hb3:=Nat.le_trans (Nat.le_trans hb1 hf2.size) hf3.size
   have fin:∀ (E':ao) (a':Act) (w':World) (es':Array MapEntry) (s:List GCompetence_route × List (List GSpan)),s = iZ (dv (c.take i)) c[i]→aZ 67 B (AE mb l c c.length i) E' a' w'→qt E' w' base mb 30 .GCompetence_route (.st .GSpan) es' s.1 s.2→base≤w'.heap.size→(∀ v∈s.2,v.length≤i+1) →
     (Code.region (oD eV 935) (fc eV 935) false).wp Tryz.prog (fun e a w=>(e = .normal∧∃ m',m' < m∧I m' a w)∨(e≠.normal∧(e = .exit 0∧KS 67 B (fun e σ'=>e = .normal∧σ' = Iq l (dv c).1 (dv c).2) .normal a w))) a' w':=by
    intro E' a' w' es' s hse hs' hG' hb' hv'
    subst hse
    refine wp_mono ((Av hmix [0,3,14,15,16] (VF mb l c c.length i)).fr hs') ?_
    rintro e a5 w5 ⟨σ5,E5,⟨rfl,rfl⟩,hs5,hf5⟩
    refine .inl ⟨rfl,m - 1,by omega,i+1,E5,es',by omega, ?_, ?_,Nat.le_trans hb' hf5.size, ?_⟩
    ·have:ab ((i:Int)+1) = ((i+1:Nat):Int):=by
      have h63:(i:Int)+1 < 9223372036854775808:=by omega
      show IntKind.wrap .i64 _ = _
      simp [IntKind.wrap,IntKind.bits,IntKind.signed]
      omega
     rw [this] at hs5
     exact hs5
    ·rw [I2 hil];exact hG'.fr hf5
    ·rw [I2 hil];exact hv'
   have e22:a3.eval (.tmp 22) = .bool (ae (c[i]).Kind 4):=(bH hs3 (ch:=[]) (x:=.tmp 22) rfl rfl).lit_inv
   refine wp_cond_split e22 (fun ht=>?_) fun hf=>wp_skip ?_
   ·refine wp_seq (wp_mono ((Av hmix _ (VS mb l c c.length i c[i])).fr hs3) ?_)
    rintro e a4 w4 ⟨σ4,E4,⟨rfl,rfl⟩,hs4,hf4⟩
    refine wp_mono (R0 hs4 (hG3.fr hf4) (Nat.le_trans hb3 hf4.size) hbB hmB hv (by omega)) ?_
    rintro e a5 w5 ⟨rfl,E5,es5,hs5,hG5,hb5⟩
    have hst:iZ (dv (c.take i)) c[i] = (dq kR (dv (c.take i)).1 (Ba c[i]),du kR (dv (c.take i)).1 (dv (c.take i)).2 (Ba c[i]) (cF kR (dv (c.take i)).1 (dv (c.take i)).2 (Ba c[i]) []++[(c[i]).Span])):=by
     unfold iZ
     rw [ht,cond_true]
    exact fin E5 a5 w5 es5 _ hst.symm hs5 hG5 hb5 (Q5 hv)
   ·obtain ⟨E4,hs4,hf4⟩:=(Bi (VJ mb l c c.length i c[i])).fr hs3
    have hst:iZ (dv (c.take i)) c[i] = dv (c.take i):=by
     unfold iZ
     rw [hf,cond_false]
    exact fin E4 a3 w3 es _ hst.symm hs4 (hG3.fr hf4) (Nat.le_trans hb3 hf4.size) fun v h=>Nat.le_succ_of_le (hv v h)
  ·have hil:c.length≤i:=by simpa [aa] using hf
   have hic:i = c.length:=by omega
   subst hic
   rw [List.take_length] at hG1
   obtain ⟨E',hs'⟩:=UL (l:=l) hs1 rfl rfl hG1 hmB hbB
   exact .inr ⟨by simp,rfl,_,E',⟨rfl,rfl⟩,hs'⟩
 ·rintro e a w ⟨rfl,h⟩
  exact h
end
theorem RW (s:List GFact × List GFact × Int × Int × List GCompetence_route × List (List GSpan)) (y:List GFact × List GCompetence_route × List (List GSpan)) (hy:uy s = some y) {cc:Code} (hcc:jB (jp 29) eV = some cc) :
  bB Tryz.prog 67 cc (fun e σ'=>e = .normal∧σ' = Iq y.1 y.2.1 y.2.2) (Td s.1 s.2.1 s.2.2.1 s.2.2.2.1 s.2.2.2.2.1 s.2.2.2.2.2):=by
 rw [TD] at hcc
 cases hcc
 obtain ⟨l,c,n,i,ks,vs⟩:=s
 unfold uy at hy
 simp only at hy
 cases hc:(aa (c.length≤1000000)&&(ae n c.length&&(ae i 0&&(ks.isEmpty&&vs.isEmpty)))) with
 | false=>rw [hc] at hy;cases hy
 | true =>
  rw [hc,cond_true] at hy
  cases hy
  simp only [Bool.and_eq_true,aa,decide_eq_true_eq,ae,beq_iff_eq,List.isEmpty_iff] at hc
  obtain ⟨h1,h2,h3,rfl,rfl⟩:=hc
  exact .of_wp fun B E a w hs=>Tw h2 h3 h1 hs
theorem TE (fid:FuncId) (ins:Tm) (out:dt) (cuts:List (Nat × Tm)):OV Tryz.prog { fid:=fid,fn:=Tryz.f12,c:=eV,ins:=ins,out:=out,cuts:=cuts,hd:=[(29,⟨P7,Mz,uy⟩)] }:=by
 intro π h hl cc hcc s y hy
 have hl:(bif Nat.beq 29 π then some (⟨P7,Mz,uy⟩:Ep) else none) = some h:=hl
 cases hb:Nat.beq 29 π with
 | false=>rw [hb] at hl;cases hl
 | true =>
  have:=Nat.eq_of_beq_eq_true hb
  subst this
  rw [hb,cond_true] at hl
  cases hl
  have:=RW s y hy hcc
  show bB _ _ _ (fun e σ'=>e = .normal∧σ' = oR Mz y) (oR P7 s)
  rw [Ud,RR]
  exact this
end Go.Ax
