import Derived.Test.YtnnblpijaoocaaaGreatWHd
import Derived.Test.YtnnblpijaoocaaaGreatWB19
import Derived.Test.YtnnblpijaoocaaaGreatRows
set_option linter.all false
set_option maxRecDepth 100000
/- The postings of a career: the loop that lays them into a map by their routes. -/
namespace Go.Ax
open Go.Proofs Go.Proofs.YtnnblpijaoocaaaGreat Go.RowKit Go.MapKept Go.ChangeMaps
noncomputable def d8 (c:Code) (π:Nat):Array Oper:=match iF (iM π) c with | some (.region _ ops _)=>ops | _=>#[]
noncomputable def mS (c:Code) (π:Nat):Nat:=match iF (iM π) c with | some (.region i _ _)=>i | _=>0
noncomputable def dP:Code:=aj Tryz.f12
theorem QD:iF (iM 29) dP = some (.block 0 (.loop (.seq (.region (mS dP 232) (d8 dP 232) false) (.seq (.cond (.tmp 17) .skip (.exit 0)) (.seq (.block 1 (.seq (.region (mS dP 3736) (d8 dP 3736) false) (.seq (.region (mS dP 7474) (d8 dP 7474) false) (.cond (.tmp 22) (.seq (.region (mS dP 29900) (d8 dP 29900) false) (.region (mS dP 29901) (d8 dP 29901) false)) .skip)))) (.region (mS dP 935) (d8 dP 935) false)))))):=by kernel_rfl
def O0 (f:GFact):Nat × Option Ob:=(0,some (.box ((Ty.enc (.st .GFact) f).map V.c)))
def R1 (r:GCompetence_route):Nat × Option Ob:=(1,some (.box ((Ty.enc (.st .GCompetence_route) r).map V.c)))
def yB (mb:Nat) (l c:List GFact) (n i:Int):St:={ tm:=[sv 0 (.c (.sl (.st .GFact) l)),sv 3 (.c (.lit (.map (some mb)))),sv 14 (.c (.sl (.st .GFact) c)),sv 15 (i64 n),sv 16 (i64 i)],hp:=[],nx:=0 }
def Pd (mb:Nat) (l c:List GFact) (n i:Int):St:={ tm:=[sv 0 (.c (.sl (.st .GFact) l)),sv 3 (.c (.lit (.map (some mb)))),sv 14 (.c (.sl (.st .GFact) c)),sv 15 (i64 n),sv 16 (i64 i),sv 17 (bl (aa (i < n)))],hp:=[],nx:=0 }
def Rh (mb:Nat) (l c:List GFact) (n i:Int) (f:GFact):St:={ tm:=[sv 0 (.c (.sl (.st .GFact) l)),sv 3 (.c (.lit (.map (some mb)))),sv 5 (.ptr 0 14 0 0),sv 14 (.c (.sl (.st .GFact) c)),sv 15 (i64 n),sv 16 (i64 i)],hp:=[O0 f],nx:=1 }
def QL (mb:Nat) (l c:List GFact) (n i:Int) (f:GFact):St:={ tm:=[sv 0 (.c (.sl (.st .GFact) l)),sv 3 (.c (.lit (.map (some mb)))),sv 5 (.ptr 0 14 0 0),sv 14 (.c (.sl (.st .GFact) c)),sv 15 (i64 n),sv 16 (i64 i),sv 22 (bl (af f.Kind 4))],hp:=[O0 f],nx:=1 }
def Pt (mb:Nat) (l c:List GFact) (n i:Int) (f:GFact) (r:GCompetence_route):St:={ tm:=[sv 0 (.c (.sl (.st .GFact) l)),sv 3 (.c (.lit (.map (some mb)))),sv 5 (.ptr 0 14 0 0),sv 6 (.ptr 1 2 0 0),sv 14 (.c (.sl (.st .GFact) c)),sv 15 (i64 n),sv 16 (i64 i)],hp:=[O0 f,R1 r],nx:=2 }
section
variable (mb:Nat) (l c:List GFact) (n i:Int) (f:GFact) (r:GCompetence_route)
theorem RE:o9 (Br Tryz.prog) X0 67 (d8 dP 232) false (yB mb l c n i) (mO [0,3,14,15,16,17]) = some (Pd mb l c n i):=by kernel_rfl
theorem RY:o9 (Br Tryz.prog) X0 67 (d8 dP 935) false (yB mb l c n i) (mO [0,3,14,15,16]) = some (yB mb l c n (ac (i+1))):=by kernel_rfl
theorem RT:o9 (Br Tryz.prog) X0 67 (d8 dP 3736) false (Pd mb l c n i) (mO [0,3,5,14,15,16]) = gb (aa (0≤i)) (gb (aa (i < (c.length:Int))) (some (Rh mb l c n i (gD c i.toNat (zS .GFact))))):=by kernel_rfl
theorem RU:o9 (Br Tryz.prog) X0 67 (d8 dP 7474) false (Rh mb l c n i f) (mO [0,3,5,14,15,16,22]) = some (QL mb l c n i f):=by kernel_rfl
theorem R7:o9 (Br Tryz.prog) X0 67 (d8 dP 29900) false (QL mb l c n i f) (mO [0,3,5,6,14,15,16]) = some (Pt mb l c n i f ⟨f.Seat,f.State⟩):=by kernel_rfl
theorem Sa:mO [0,3,14,15,16] (QL mb l c n i f) = some (yB mb l c n i):=by kernel_rfl
noncomputable def tK:List Oper:=(d8 dP 29901).toList
theorem R6:(lJ Tryz.prog (fun _=>none) 67 tK (tK.take 5) (Pt mb l c n i f r)).map (fun q=>(bA q.2 [] (.tmp 28),bA q.2 [] (.tmp 29),bA q.2 [] (.tmp 33),ae.get q.2.hp 34,mO [0,3,14,15,16] q.2)) =
  some (some (.c (.lit (.map (some mb)))),some (encV (.st .GCompetence_route) r),some (.row 34 2),some (.row 30 (.st .GSpan) [f.Span]),some (yB mb l c n i)):=by kernel_rfl
end
theorem lh {E E':an} {w w':World} {v:Value} {d:D} (h:ai E w v (.c d)) (hd:∀ v d,aw E.ok w v d→aw E'.ok w' v d):ai E' w' v (.c d):=by
 cases h with
 | c _ _ h=>exact .c _ _ (hd _ _ h)
theorem Dr {tm:List (Nat × au)} {E:an} {w:World} {a:Act} {B:dT} (h:∀ x∈tm,x.2.ch = []∧ai E w (cC B a x.1) x.2.v):∀ t s,ap tm t = some s→jv tm E w (cC B a t) s:=by
 have key:∀ (tm:List (Nat × au)) (t:Nat) (s:au),ap tm t = some s→(t,s)∈tm:=by
  intro tm
  induction tm with
  | nil=>intro t s h;cases h
  | cons x r ih =>
   intro t s h
   obtain ⟨q,s'⟩:=x
   rw [ba] at h
   split at h
   ·next e=>cases h;subst e;simp
   ·exact List.mem_cons_of_mem _ (ih t s h)
 intro t s hg
 obtain ⟨h1,h2⟩:=h _ (key tm t s hg)
 exact ⟨fun _=>h2,fun _ hh=>by rw [show s.ch = [] from h1] at hh;cases hh⟩
theorem Fx {c:List GFact} {i:Nat} (hi:i < c.length):cE (c.take (i+1)) = il (cE (c.take i)) c[i]:=by
 unfold cE
 rw [List.take_succ_eq_append_getElem hi,List.foldl_append]
 rfl
theorem MZ {s:List GCompetence_route × List (List GSpan)} {r:GCompetence_route} {y:GSpan} {m:Nat} (h:∀ v∈s.2,v.length≤m):∀ v∈cQ kR s.1 s.2 r (cd kR s.1 s.2 r []++[y]),v.length≤m+1:=by
 have hg:(cd kR s.1 s.2 r ([]:List GSpan)).length≤m:=by
  unfold cd
  rw [List.getD_eq_getElem?_getD]
  cases hx:s.2[aD kR s.1 r]? with
  | none=>simp
  | some v=>exact h v (List.mem_of_getElem? hx)
 intro v hv
 unfold cQ at hv
 cases hb:dJ kR s.1 r with
 | true =>
  rw [hb,cond_true] at hv
  rcases List.mem_or_eq_of_mem_set hv with h1 | h1
  ·exact Nat.le_succ_of_le (h v h1)
  ·rw [h1,List.length_append];simp;exact hg
 | false =>
  rw [hb,cond_false] at hv
  rcases List.mem_append.1 hv with h1 | h1
  ·exact Nat.le_succ_of_le (h v h1)
  ·rw [List.mem_singleton.1 h1,List.length_append];simp;exact hg
theorem Pb {ok:Nat→Prop} {w:World} {base:Nat} {e:TypeId} {vt:Ty} {v:Value} {l:List vt.T} (h:LJ w base e vt v l) (hok:∀ b,v.ownBlock = some b→ok b) (henc:∀ x:vt.T,vt.enc x = (vt.lits x).map .lit) (hone:∀ x:vt.T, ∀ u∈vt.lits x,u.oneCell' = true):aw ok w v (.sl vt l):=by
 have hlen:∀ x:vt.T,(vt.lits x).length = vt.k:=fun x=>by rw [Ty.lits,List.length_map,gI]
 have hat:∀ (l:List vt.T) (i j:Nat),i < l.length→j < vt.k→(l.flatMap vt.lits)[i*vt.k+j]? = (vt.lits (gD l i vt.z))[j]?:=by
  intro l
  induction l with
  | nil=>intro i j hi;simp at hi
  | cons x r ih =>
   intro i j hi hj
   rw [List.flatMap_cons]
   cases i with
   | zero=>rw [Nat.zero_mul,Nat.zero_add,List.getElem?_append_left (by rw [hlen];exact hj)];rfl
   | succ i =>
    rw [List.getElem?_append_right (by rw [hlen,Nat.add_mul];omega),hlen,show (i+1)*vt.k+j - vt.k = i*vt.k+j by rw [Nat.add_mul];omega,ih i j (by simpa using hi) hj]
    rfl
 rcases h.2 with ⟨rfl,hn⟩ | ⟨g,cap,cur,rfl,h1,h2,h3,h4,h5,h6⟩
 ·have:l = []:=List.length_eq_zero_iff.1 hn
  subst this
  exact aw.sl vt [] none 0 0 vt.k (fun _=>[]) (fun _ _=>undef) rfl rfl (fun i hi=>by omega) (Nat.le_refl _) (by unfold maxLen;omega) (fun hi=>by omega) (fun i j hi=>by omega) (fun i hi=>by omega) fun i j d hi=>by omega
 ·have hcell:∀ i j,i < l.length→j < vt.k→∃ u,(vt.lits (gD l i vt.z))[j]? = some u∧cur[i*vt.k+j]? = some u:=by
   intro i j hi hj
   have hlt:i*vt.k+j < l.length*vt.k:=by
    have:(i+1)*vt.k≤l.length*vt.k:=Nat.mul_le_mul_right _ hi
    rw [Nat.add_mul,Nat.one_mul] at this
    omega
   have e1:=hat l i j hi hj
   rw [← h6,List.getElem?_take,if_pos hlt,Array.getElem?_toList] at e1
   have hj2:j < (vt.lits (gD l i vt.z)).length:=by rw [hlen];exact hj
   refine ⟨(vt.lits (gD l i vt.z))[j],List.getElem?_eq_getElem hj2, ?_⟩
   rw [e1,List.getElem?_eq_getElem hj2]
  refine aw.sl vt l (some ⟨g,0,none⟩) l.length cap vt.k (els vt l) (fun i j=>(vt.lits (gD l i vt.z)).getD j undef) rfl rfl (fun _ _=>rfl) h3 h4 (fun _=>⟨_,rfl,hok g rfl,fun i j hi hj=>?_⟩) (fun i j hi hj=>?_) (fun i _=>dE _ _ _) fun i j d hi hd=>?_
  ·obtain ⟨u,q1,q2⟩:=hcell i j hi hj
   rw [bJ,Nat.zero_add,List.getD_eq_getElem?_getD,q1]
   simp [World.cell?,h2,q2]
  ·obtain ⟨u,q1,_⟩:=hcell i j hi hj
   rw [List.getD_eq_getElem?_getD,q1]
   exact hone _ u (List.mem_of_getElem? q1)
  ·rw [dM,henc,List.getElem?_map] at hd
   cases hx:(vt.lits (l.getD i vt.z))[j]? with
   | none=>rw [hx] at hd;cases hd
   | some u =>
    rw [hx] at hd
    cases hd
    show aw ok w ((vt.lits (gD l i vt.z)).getD j undef) _
    rw [List.getD_eq_getElem?_getD,show (vt.lits (gD l i vt.z))[j]? = some u from hx]
    exact .lit _
def M3:Tm:={ sl:=[(0, .t (.ls (.st .GFact))),(3, .k (.fn 2000000000 [.ptr 0 1 0 0])),(14, .t (.ls (.st .GFact))),(15, .t (.i .i64)),(16, .t (.i .i64))],ob:=[.map 66 (.st .GCompetence_route) (.ls (.st .GSpan))] }
def HL:Tm:={ sl:=[(0, .t (.ls (.st .GFact))),(3, .k (.fn 2000000000 [.ptr 0 1 0 0]))],ob:=[.map 66 (.st .GCompetence_route) (.ls (.st .GSpan))] }
def Pr (l c:List GFact) (n i:Int) (ks:List GCompetence_route) (vs:List (List GSpan)):St:={ tm:=[sv 0 (.c (.sl (.st .GFact) l)),sv 3 (.fn 2000000000 [.ptr 0 1 0 0]),sv 14 (.c (.sl (.st .GFact) c)),sv 15 (i64 n),sv 16 (i64 i)],hp:=[(0,some (.map 66 (.st .GCompetence_route) (.ls (.st .GSpan)) ks vs))],nx:=1 }
def EX (l:List GFact) (ks:List GCompetence_route) (vs:List (List GSpan)):St:={ tm:=[sv 0 (.c (.sl (.st .GFact) l)),sv 3 (.fn 2000000000 [.ptr 0 1 0 0])],hp:=[(0,some (.map 66 (.st .GCompetence_route) (.ls (.st .GSpan)) ks vs))],nx:=1 }
theorem Qs (x:HP M3.tys):na M3 x = Pr x.1 x.2.1 x.2.2.1 x.2.2.2.1 x.2.2.2.2.1 x.2.2.2.2.2:=by kernel_rfl
theorem Ou (x:HP HL.tys):na HL x = EX x.1 x.2.1 x.2.2:=by kernel_rfl
theorem Io (x:GSpan):(Ty.st .GSpan).enc x = ((Ty.st .GSpan).lits x).map .lit:=rfl
theorem GV (x:GSpan):∀ u∈(Ty.st .GSpan).lits x,u.oneCell' = true:=by
 intro v hv
 have e:(Ty.st .GSpan).lits x = [.int .i64 x.From, .int .i64 x.To]:=rfl
 rw [e] at hv
 simp only [List.mem_cons,List.not_mem_nil,or_false] at hv
 rcases hv with rfl | rfl <;> rfl
section
variable {B:dT} {E:an} {a:Act} {w:World} {l c:List GFact}
theorem RG {n i:Int} (hs:aP 67 B (Pr l c n i [] []) E a w):∃ mb E0,aP 67 B (yB mb l c n i) E0 a w∧oE E0 w w.heap.size mb 30 .GCompetence_route (.st .GSpan) #[] [] []∧(B.W.heap.size≤mb∨B.mb mb):=by
 have h3:ai E w (cC B a 3) (Dl 0):=(hs.slots 3 ⟨[],Dl 0⟩ rfl).1 rfl
 obtain ⟨mb,ev,hlive,hconc,hg⟩:=ii hs.heap h3 (o':=0) (ob:=.map 66 kR (.ls (.st .GSpan)) [] []) rfl
 obtain ⟨_,_,_,b',es,clock,q3,q4,q5,q6,q7,q8,q9⟩:=hs.heap.at_ _ _ hg
 rw [hconc] at q3;cases q3
 have ees:es = #[]:=Array.eq_empty_of_size_eq_zero q6
 subst ees
 have ecl:clock = 0:=q8
 subst ecl
 have hd:∀ v d,aw E.ok w v d→aw E.ok w v d:=fun _ _ h=>h
 refine ⟨mb,{ E with live:=fun _=>False },⟨hs.size,hs.small,hs.defers,fun _ _ h=>h,⟨fun o ob h=>(by cases h),fun _ _ _ h=>h.elim,fun _ _ h=>h.elim,fun _ _ h=>h.elim,hs.heap.oklt⟩,Dr fun x hx=>?_,hs.base,fun _ _ h=>h.elim,hs.okold⟩, ?_,hs.own 0 mb hlive hconc⟩
 ·simp only [yB,List.mem_cons,List.not_mem_nil,or_false] at hx
  rcases hx with rfl | rfl | rfl | rfl | rfl
  ·exact ⟨rfl,lh (E':={ E with live:=fun _=>False }) ((hs.slots 0 _ rfl).1 rfl) hd⟩
  ·refine ⟨rfl, ?_⟩
   show ai _ w (cC B a 3) _
   rw [ev]
   exact .c _ _ (.lit _)
  ·exact ⟨rfl,lh (E':={ E with live:=fun _=>False }) ((hs.slots 14 _ rfl).1 rfl) hd⟩
  ·exact ⟨rfl,lh (E':={ E with live:=fun _=>False }) ((hs.slots 15 _ rfl).1 rfl) hd⟩
  ·exact ⟨rfl,lh (E':={ E with live:=fun _=>False }) ((hs.slots 16 _ rfl).1 rfl) hd⟩
 ·refine ⟨dt q4,q4,q5,fun i x h=>by simp at h,rfl,rfl,fun i x h=>by simp at h,fun i j x y _ h=>by simp at h,fun b hb=>?_⟩
  rcases hb with rfl | ⟨i,x,h,_⟩
  ·exact ⟨hs.heap.sep 0 _ hlive hconc,fun _ h=>h.elim⟩
  ·simp at h
theorem Q0 {σ:St} {mb base:Nat} {es:Array MapEntry} {ks:List GCompetence_route} {vs:List (List GSpan)} (hs:aP 67 B σ E a w) (h0:ap σ.tm 0 = some ⟨[], .c (.sl (.st .GFact) l)⟩) (h3:ap σ.tm 3 = some ⟨[], .c (.lit (.map (some mb)))⟩)
  (hG:oE E w base mb 30 .GCompetence_route (.st .GSpan) es ks vs) (hm:B.W.heap.size≤mb∨B.mb mb) (hb:B.W.heap.size≤base):∃ E',aP 67 B (EX l ks vs) E' a w:=by
 have ev:cC B a 3 = .map (some mb):=((hs.slots 3 _ h3).1 rfl).lit_inv
 let ok':Nat→Prop:=fun b=>E.ok b∨∃ (i:Nat) (x:MapEntry),es[i]? = some x∧x.val.ownBlock = some b
 have hd:∀ v d,aw E.ok w v d→aw ok' w v d:=fun v d h=>h.mono (fun _ h=>.inl h) fun _ _=>rfl
 have hlo:=hG.lo
 refine ⟨⟨fun _=>some mb,fun _=>0,fun _=>1,fun o=>o = 0,ok'⟩,hs.size,hs.small,hs.defers,fun q hq h=>by have:q = 0:=h;subst this;exact absurd hq (by show ¬ (1≤0);omega),⟨fun o ob h=>?_,fun o o' b h1 h2 _ _=>(show o = 0 from h1).trans (show o' = 0 from h2).symm,fun o b h1 h2 h=>?_,fun o b h1 h2=>?_,fun b h=>?_⟩,Dr fun x hx=>?_,hs.base,fun o b h1 h2=>?_,fun b h=>?_⟩
 ·simp only [EX] at h
  rw [ae.get_cons] at h
  split at h
  ·next e =>
   subst e
   cases h
   refine ⟨rfl,rfl,hG.len,mb,es,es.size,rfl,hG.map,hG.st,hG.sz,fun i x hx=>?_,rfl,hG.born⟩
   obtain ⟨k1,k2⟩:=hG.ent i x hx
   exact ⟨k1,Pb k2 (fun b hb=>.inr ⟨i,x,hx,hb⟩) Io GV⟩
  ·cases h
 ·cases h2
  rcases h with h | ⟨i,x,hx,hbk⟩
  ·exact (hG.free mb (.inl rfl)).1 h
  ·have:=(dg (hG.ent i x hx).2 hbk).1
   omega
 ·cases h2;exact dt hG.map
 ·rcases h with h | h
  ·exact hs.heap.oklt b h
  ·exact hG.lt (.inr h)
 ·simp only [EX,List.mem_cons,List.not_mem_nil,or_false] at hx
  rcases hx with rfl | rfl
  ·exact ⟨rfl,lh ((hs.slots 0 _ h0).1 rfl) hd⟩
  ·refine ⟨rfl, ?_⟩
   show ai _ w (cC B a 3) _
   rw [ev]
   have:=ai.fn (E:=⟨fun _=>some mb,fun _=>0,fun _=>1,fun o=>o = 0,ok'⟩) (w:=w) 2000000000 [.pointer (some ⟨mb,0*1+0,none⟩)] [.ptr 0 1 0 0] rfl fun i v d hv hd=>by
    match i with
    | 0=>simp at hv hd;subst hv hd;exact .ptr 0 1 0 0 mb rfl rfl (Nat.lt_succ_self 0)
    | i+1=>simp at hv
   exact this
 ·cases h2;exact hm
 ·rcases h with h | ⟨i,x,hx,hbk⟩
  ·exact hs.okold b h
  ·have:=(dg (hG.ent i x hx).2 hbk).1
   exact .inr (.inl (by omega))
end
theorem Qu (u:World):(zeroValue 56).run Tryz.prog u = .ok (.slice none 0 0) u:=by kernel_rfl
noncomputable def Pp:TypeInfo:=(Tryz.prog.info? 30).get (by kernel_rfl)
theorem Ip:ir Tryz.prog 69 (.st .GCompetence_route) = true:=by kernel_rfl
noncomputable def Kz:Oper:=(tK[5]?).get (by kernel_rfl)
noncomputable def KQ:Oper:=(tK[6]?).get (by kernel_rfl)
noncomputable def FK:Oper:=(tK[7]?).get (by kernel_rfl)
noncomputable def Kk:Oper:=(tK[8]?).get (by kernel_rfl)
noncomputable def Kn:Oper:=(tK[9]?).get (by kernel_rfl)
theorem Qh:tK = tK.take 5++[Kz,KQ,FK,Kk,Kn]:=by kernel_rfl
theorem QP:Kz.op = .mapEntry 66 (.tmp 28) (.tmp 29):=by kernel_rfl
theorem QX:KQ.op = .extract (.tmp 34) 0:=by kernel_rfl
theorem QZ:FK.op = .call { callee:=.builtin .append,args:=#[.tmp 30, .tmp 33],argTypes:=#[56,56] }:=by kernel_rfl
theorem Q1:Kk.op = .extract (.tmp 34) 1:=by kernel_rfl
theorem QG:Kn.op = .entryStore 66 (.tmp 28) (.tmp 36) (.tmp 35):=by kernel_rfl
theorem QS:Kz.dst = some 34∧KQ.dst = some 30∧FK.dst = some 35∧Kk.dst = some 36∧Kn.dst = none:=⟨by kernel_rfl,by kernel_rfl,by kernel_rfl,by kernel_rfl,by kernel_rfl⟩
theorem Ot:Kz.guard = none∧KQ.guard = none∧FK.guard = none∧Kk.guard = none∧Kn.guard = none:=⟨by kernel_rfl,by kernel_rfl,by kernel_rfl,by kernel_rfl,by kernel_rfl⟩
theorem cN {a:Act} {d t:Nat} {v:Value} (hd:d < a.tmps.size):(a.put (some d) v).eval (.tmp t) = if d = t then v else a.eval (.tmp t):=by
 simp only [Act.eval,Act.put,Array.getD_eq_getD_getElem?]
 rw [Array.getElem?_setIfInBounds]
 split
 ·simp [hd]
 ·rfl
section
variable {B:dT} {E:an} {a:Act} {w:World} {l c:List GFact}
set_option maxHeartbeats 4000000 in
theorem OY {mb base:Nat} {n i:Int} {f:GFact} {r:GCompetence_route} {es:Array MapEntry} {ks:List GCompetence_route} {vs:List (List GSpan)} {m:Nat} (hs:aP 67 B (Pt mb l c n i f r) E a w) (hG:oE E w base mb 30 .GCompetence_route (.st .GSpan) es ks vs) (hb:base≤w.heap.size) (hbB:B.W.heap.size≤base)
  (hmB:B.W.heap.size≤mb∨B.mb mb) (hv:∀ v∈vs,v.length≤m) (hm:m≤1000000) :
  (Code.region (mS dP 29901) (d8 dP 29901) false).wp Tryz.prog (fun e a' w'=>e = .normal∧∃ E' es',aP 67 B (yB mb l c n i) E' a' w'∧oE E' w' base mb 30 .GCompetence_route (.st .GSpan) es' (cO kR ks r) (cQ kR ks vs r (cd kR ks vs r []++[f.Span]))∧base≤w'.heap.size) a w:=by
 refine wp_region ?_
 have hD:=R6 mb l c n i f r
 obtain ⟨⟨ps,σ5⟩,hg,hD⟩:=Option.map_eq_some_iff.1 hD
 simp only [Prod.mk.injEq] at hD
 obtain ⟨d28,d29,d33,dob,donly⟩:=hD
 have hps:∀ p∈ps,p:=by
  have h1:(lJ Tryz.prog (fun _=>none) 67 tK (tK.take 5) (Pt mb l c n i f r)).map (·.1) = some []:=by kernel_rfl
  rw [hg] at h1
  cases h1
  simp
 have hsz:(d8 dP 29901).size = (tK.take 5).length+5:=by kernel_rfl
 rw [List.range_eq_range',hsz]
 refine FD (P:=Tryz.prog) (N:=67) (B:=zk B E w) (C:=fun _=>none) (fun f con h=>by cases h) (tK.take 5) [Kz,KQ,FK,Kk,Kn] 0 _ σ5 ps E a w Qh hg hps hs.base0 fun E5 a5 w5 hs5'=>?_
 obtain ⟨hs5,hf5⟩:=hs.rebase hs5'
 have hG5:=hG.fr hf5
 have hb5:base≤w5.heap.size:=Nat.le_trans hb hf5.size
 have e28:a5.eval (.tmp 28) = .map (some mb):=(bn hs5 (ch:=[]) rfl d28).lit_inv
 have e29:a5.eval (.tmp 29) = bL kR r:=by
  have:=bn hs5 (ch:=[]) rfl d29
  exact v8 Ip this (show xT kR (encV kR r) = some r from rfl)
 have h33:=bn hs5 (ch:=[]) rfl d33
 obtain ⟨hl34,hlen34,hob⟩:=hs5.heap.at_ _ _ dob
 obtain ⟨ra,rn,rc,e33,_,hrn,hr0⟩:=gG h33
 rcases hob with ⟨_,h0⟩ | ⟨rb,C,g1,g2,g3,g4,g5,g6,g7,g8⟩
 ·cases h0
 rcases hr0 with ⟨_,_,_,h0⟩ | ⟨rb',q1,rfl,rfl⟩
 ·rw [g1] at h0;cases h0
 rw [g1] at q1;cases q1
 have hrn:rn = 1:=hrn.trans hlen34
 subst hrn
 have hrb:rb≠mb:=fun e=>(hG5.free mb (.inl rfl)).2 _ hl34 (by rw [g1,e])
 have hnews:∀ (j:Nat) (u:Value),((Ty.st .GSpan).lits f.Span)[j]? = some u→w5.cell? ((⟨rb,0,none⟩:Addr).add j) = some u:=by
  intro j u hu
  have hj:j < 2:=by
   have:=(List.getElem?_eq_some_iff.1 hu).1
   exact this
  have hC:∃ cv,C[j]? = some cv:=by
   have hk:1*2≤C.size:=by rw [g3];exact Nat.mul_le_mul_right _ g4
   exact ⟨_,Array.getElem?_eq_getElem (by omega)⟩
  obtain ⟨cv,hcv⟩:=hC
  have hd:=g8 0 j (.lit u) cv (by show 0 < 1;omega) (by
   show (els (Ty.st .GSpan) [f.Span] 0)[j]? = _
   rw [dM,show ([f.Span]:List GSpan).getD 0 _ = f.Span from rfl,Io,List.getElem?_map,hu];rfl) (by rw [Nat.zero_mul,Nat.zero_add];exact hcv)
  have ecv:cv = u:=by cases hd;rfl
  rw [bJ,Nat.zero_add]
  simp [World.cell?,g2,hcv,ecv]
 obtain ⟨v0,st,w1,v',w2,w3,es',r1,r2,r3,hG3,x1,x2,x3,x4,x5⟩:=OT (P:=Tryz.prog) (t:=66) (ts:=56) (kk:=69) hs5.heap hb5 hG5 Ip (by kernel_rfl) (by kernel_rfl) Qu (i:=Pp) (by kernel_rfl) (z:=.agg #[.int .i64 0, .int .i64 0]) (by kernel_rfl) (by kernel_rfl) (by kernel_rfl) (by decide)
  r f.Span ⟨rb,0,none⟩ (E5.cap 34) hrb hnews (GV _) m hv (by unfold maxLen;omega) (by rw [show Pp.bytes = 16 from by kernel_rfl];omega) FK.type
 obtain ⟨p5,p6,p7,p8,p9⟩:=QS
 obtain ⟨u5,u6,u7,u8,u9⟩:=Ot
 have hN:=hs5.size
 show wpOps _ _ _ [5,6,7,8,9] a5 w5
 rw [wpOps_cons]
 refine B6 (o:=Kz) (v:=.tuple #[v0,goInt st]) (w':=w1) (by kernel_rfl) u5 ?_ ?_
 ·simp only [execOp,QP,e28,e29,Sem.run_bind,r1,Result.andThen_ok]
  rfl
 rw [p5,wpOps_cons]
 have z1:(a5.put (some 34) (.tuple #[v0,goInt st])).tmps.size = 67:=by simp [Act.put,hN]
 refine B6 (o:=KQ) (v:=v0) (w':=w1) (by kernel_rfl) u6 ?_ ?_
 ·have q34:(a5.put (some 34) (.tuple #[v0,goInt st])).eval (.tmp 34) = .tuple #[v0,goInt st]:=by rw [cN (by rw [hN];decide),if_pos rfl]
  simp only [execOp,QX,q34]
  simp [Instr.extract]
 rw [p6,wpOps_cons]
 have z2:((a5.put (some 34) (.tuple #[v0,goInt st])).put (some 30) v0).tmps.size = 67:=by simp [Act.put,hN]
 refine B6 (o:=FK) (v:=v') (w':=w2) (by kernel_rfl) u7 ?_ ?_
 ·have q30:((a5.put (some 34) (.tuple #[v0,goInt st])).put (some 30) v0).eval (.tmp 30) = v0:=by rw [cN (by rw [z1];decide),if_pos rfl]
  have q33:((a5.put (some 34) (.tuple #[v0,goInt st])).put (some 30) v0).eval (.tmp 33) = .slice (some ⟨rb,0,none⟩) 1 (E5.cap 34):=by rw [cN (by rw [z1];decide),if_neg (by decide),cN (by rw [hN];decide),if_neg (by decide),e33]
  unfold execOp
  simp only [QZ,resolve,invoke,builtin,Sem.run_bind,Sem.run_pure,Result.andThen_ok,List.map_toArray,List.map_cons,List.map_nil,q30,q33]
  have r2':(Builtin.append_ #[56,56] FK.type #[v0, .slice (some { block:=rb,off:=0 }) 1 (E5.cap 34)]).run Tryz.prog w1 = .ok v' w2:=r2
  rw [r2']
  rfl
 rw [p7,wpOps_cons]
 have z3:(((a5.put (some 34) (.tuple #[v0,goInt st])).put (some 30) v0).put (some 35) v').tmps.size = 67:=by simp [Act.put,hN]
 refine B6 (o:=Kk) (v:=goInt st) (w':=w2) (by kernel_rfl) u8 ?_ ?_
 ·have q34:(((a5.put (some 34) (.tuple #[v0,goInt st])).put (some 30) v0).put (some 35) v').eval (.tmp 34) = .tuple #[v0,goInt st]:=by rw [cN (by rw [z2];decide),if_neg (by decide),cN (by rw [z1];decide),if_neg (by decide),cN (by rw [hN];decide),if_pos rfl]
  simp only [execOp,Q1,q34]
  simp [Instr.extract]
 rw [p8,wpOps_cons]
 refine P1 (o:=Kn) (w':=w3) (by kernel_rfl) u9 ?_ ?_
 ·have q28:((((a5.put (some 34) (.tuple #[v0,goInt st])).put (some 30) v0).put (some 35) v').put (some 36) (goInt st)).eval (.tmp 28) = .map (some mb):=by rw [cN (by rw [z3];decide),if_neg (by decide),cN (by rw [z2];decide),if_neg (by decide),cN (by rw [z1];decide),if_neg (by decide),cN (by rw [hN];decide),if_neg (by decide),e28]
  have q36:((((a5.put (some 34) (.tuple #[v0,goInt st])).put (some 30) v0).put (some 35) v').put (some 36) (goInt st)).eval (.tmp 36) = goInt st:=by rw [cN (by rw [z3];decide),if_pos rfl]
  have q35:((((a5.put (some 34) (.tuple #[v0,goInt st])).put (some 30) v0).put (some 35) v').put (some 36) (goInt st)).eval (.tmp 35) = v':=by rw [cN (by rw [z3];decide),if_neg (by decide),cN (by rw [z2];decide),if_pos rfl]
  simp only [execOp,QG,q28,q36,q35,Sem.run_bind,r3,Result.andThen_ok]
  rfl
 rw [p9]
 obtain ⟨E6,hs6,hf6⟩:=(xr donly).fr hs5
 have hG5':=hG5.fr hf6
 have hok:∀ b,E6.ok b→w3.heap[b]? = w5.heap[b]?:=fun b hb=>by
  refine x5 b (hs6.heap.oklt b hb) (fun e=>?_) fun i z hz e=>?_
  ·subst e;exact (hG5'.free _ (.inl rfl)).1 hb
  ·exact (hG5'.free _ (.inr ⟨i,z,hz,e⟩)).1 hb
 have hd:∀ v d,aw E6.ok w5 v d→aw E6.ok w3 v d:=fun v d h=>h.mono (fun _ h=>h) hok
 have hG6:oE E6 w3 base mb 30 .GCompetence_route (.st .GSpan) es' (cO kR ks r) (cQ kR ks vs r (cd kR ks vs r []++[f.Span])):=by
  refine ⟨hG3.lo,hG3.map,hG3.st,hG3.born,hG3.sz,hG3.len,hG3.ent,hG3.apart,fun b hb=>?_⟩
  obtain ⟨k1,k2⟩:=hG3.free b hb
  by_cases hlt:b < w5.heap.size
  ·exact (hf6.keep b hlt k1 k2).2
  ·exact ⟨fun h=>hlt (hs6.heap.oklt b h),fun q h1 h2=>hlt (hs6.heap.lt q b h1 h2)⟩
 refine ⟨rfl,E6,es', ?_,hG6,Nat.le_trans hb5 x4⟩
 have hval:∀ t,t < 1000000→t≠34→t≠30→t≠35→t≠36→cC B (((((a5.put (some 34) (.tuple #[v0,goInt st])).put (some 30) v0).put (some 35) v').put (some 36) (goInt st)).put none undef) t = cC B a5 t:=fun t h0 h1 h2 h3 h4=>by
  rw [mh h0,mh h0]
  have e1:=cN (a:=((a5.put (some 34) (.tuple #[v0,goInt st])).put (some 30) v0).put (some 35) v') (d:=36) (t:=t) (v:=goInt st) (by rw [z3];decide)
  have e2:=cN (a:=(a5.put (some 34) (.tuple #[v0,goInt st])).put (some 30) v0) (d:=35) (t:=t) (v:=v') (by rw [z2];decide)
  have e3:=cN (a:=a5.put (some 34) (.tuple #[v0,goInt st])) (d:=30) (t:=t) (v:=v0) (by rw [z1];decide)
  have e4:=cN (a:=a5) (d:=34) (t:=t) (v:=.tuple #[v0,goInt st]) (by rw [hN];decide)
  rw [if_neg (Ne.symm h4)] at e1
  rw [if_neg (Ne.symm h3)] at e2
  rw [if_neg (Ne.symm h2)] at e3
  rw [if_neg (Ne.symm h1)] at e4
  exact ((e1.trans e2).trans e3).trans e4
 refine ⟨?_,hs6.small,hs6.defers,hs6.live,⟨fun o ob h=>(by cases h),hs6.heap.inj,hs6.heap.sep,fun o b h1 h2=>Nat.lt_of_lt_of_le (hs6.heap.lt o b h1 h2) x4,fun b h=>Nat.lt_of_lt_of_le (hs6.heap.oklt b h) x4⟩,Dr fun x hx=>?_,⟨x1.trans hs6.base.os,x2.trans hs6.base.tape,x3.trans hs6.base.output,Nat.le_trans hs6.base.size x4,fun k hk hm'=>?_⟩,hs6.own,hs6.okold⟩
 ·simp [Act.put,hN]
 ·simp only [yB,List.mem_cons,List.not_mem_nil,or_false] at hx
  rcases hx with rfl | rfl | rfl | rfl | rfl
  ·exact ⟨rfl,by rw [hval 0 (by decide) (by decide) (by decide) (by decide) (by decide)];exact lh ((hs6.slots 0 _ rfl).1 rfl) hd⟩
  ·exact ⟨rfl,by rw [hval 3 (by decide) (by decide) (by decide) (by decide) (by decide)];exact lh ((hs6.slots 3 _ rfl).1 rfl) hd⟩
  ·exact ⟨rfl,by rw [hval 14 (by decide) (by decide) (by decide) (by decide) (by decide)];exact lh ((hs6.slots 14 _ rfl).1 rfl) hd⟩
  ·exact ⟨rfl,by rw [hval 15 (by decide) (by decide) (by decide) (by decide) (by decide)];exact lh ((hs6.slots 15 _ rfl).1 rfl) hd⟩
  ·exact ⟨rfl,by rw [hval 16 (by decide) (by decide) (by decide) (by decide) (by decide)];exact lh ((hs6.slots 16 _ rfl).1 rfl) hd⟩
 ·have hsz5:=hs6.base.size
  refine (x5 k (by omega) (fun e=>?_) fun i z hz e=>?_).trans (hs6.base.block k hk hm')
  ·subst e
   rcases hmB with h | h
   ·omega
   ·exact hm' h
  ·have:=(dg (hG5.ent i z hz).2 e).1
   omega
theorem Po {α:Type} {b:Bool} {o:Option α} (h:b = true):gb b o = o:=by rw [h];rfl
set_option maxHeartbeats 4000000 in
theorem Qt {n0 i0:Int} (hn:n0 = c.length) (hi0:i0 = 0) (hc:c.length≤1000000) (hs:aP 67 B (Pr l c n0 i0 [] []) E a w):(Code.block 0 (.loop (.seq (.region (mS dP 232) (d8 dP 232) false) (.seq (.cond (.tmp 17) .skip (.exit 0)) (.seq (.block 1 (.seq (.region (mS dP 3736) (d8 dP 3736) false) (.seq (.region (mS dP 7474) (d8 dP 7474) false) (.cond (.tmp 22) (.seq (.region (mS dP 29900) (d8 dP 29900) false) (.region (mS dP 29901) (d8 dP 29901) false)) .skip)))) (.region (mS dP 935) (d8 dP 935) false)))))).wp Tryz.prog (KS 67 B fun e σ'=>e = .normal∧σ' = EX l (cE c).1 (cE c).2) a w:=by
 subst hn hi0
 have hmix:Tryz.prog.follows .mixedOrders = true:=by kernel_rfl
 obtain ⟨mb,E0,hs0,hG0,hmB⟩:=RG hs
 have hbB:B.W.heap.size≤w.heap.size:=hs.base.size
 obtain ⟨base,hbase⟩:∃ base,base = w.heap.size:=⟨_,rfl⟩
 rw [← hbase] at hG0 hbB
 let I:Nat→Act→World→Prop:=fun m a w=>∃ (i:Nat) (E:an) (es:Array MapEntry),i+m = c.length∧aP 67 B (yB mb l c c.length i) E a w∧oE E w base mb 30 .GCompetence_route (.st .GSpan) es (cE (c.take i)).1 (cE (c.take i)).2∧base≤w.heap.size∧∀ v∈(cE (c.take i)).2,v.length≤i
 refine wp_block (wp_mono (O5 (Q:=fun e a w=>e = .exit 0∧KS 67 B (fun e σ'=>e = .normal∧σ' = EX l (cE c).1 (cE c).2) .normal a w) I ?_ c.length a w ⟨0,E0, #[],by omega,hs0,hG0,by omega,fun v hv=>by cases hv⟩) ?_)
 ·rintro m a w ⟨i,E,es,him,hs,hG,hb,hv⟩
  refine wp_seq (wp_mono ((yn hmix [0,3,14,15,16,17] (RE mb l c c.length i)).fr hs) ?_)
  rintro e a1 w1 ⟨σ1,E1,⟨rfl,rfl⟩,hs1,hf1⟩
  have hG1:=hG.fr hf1
  have hb1:=Nat.le_trans hb hf1.size
  have e17:a1.eval (.tmp 17) = .bool (aa ((i:Int) < c.length)):=(bn hs1 (ch:=[]) (x:=.tmp 17) rfl rfl).lit_inv
  refine wp_seq (wp_cond_split e17 (fun ht=>wp_skip ?_) fun hf=>wp_exit ?_)
  ·have hil:i < c.length:=by simpa [aa] using ht
   refine wp_seq (wp_block ?_)
   have hA:o9 (Br Tryz.prog) X0 67 (d8 dP 3736) false (Pd mb l c c.length i) (mO [0,3,5,14,15,16]) = some (Rh mb l c c.length i c[i]):=by
    rw [RT,Po (by simp),Po (by simpa using hil),Int.toNat_natCast,gD,List.getD_eq_getElem?_getD,List.getElem?_eq_getElem hil]
    rfl
   refine wp_seq (wp_mono ((yn hmix _ hA).fr hs1) ?_)
   rintro e a2 w2 ⟨σ2,E2,⟨rfl,rfl⟩,hs2,hf2⟩
   refine wp_seq (wp_mono ((yn hmix _ (RU mb l c c.length i c[i])).fr hs2) ?_)
   rintro e a3 w3 ⟨σ3,E3,⟨rfl,rfl⟩,hs3,hf3⟩
   have hG3:=(hG1.fr hf2).fr hf3
   have hb3:=Nat.le_trans (Nat.le_trans hb1 hf2.size) hf3.size
   have fin:∀ (E':an) (a':Act) (w':World) (es':Array MapEntry) (s:List GCompetence_route × List (List GSpan)),s = il (cE (c.take i)) c[i]→aP 67 B (yB mb l c c.length i) E' a' w'→oE E' w' base mb 30 .GCompetence_route (.st .GSpan) es' s.1 s.2→base≤w'.heap.size→(∀ v∈s.2,v.length≤i+1) →
     (Code.region (mS dP 935) (d8 dP 935) false).wp Tryz.prog (fun e a w=>(e = .normal∧∃ m',m' < m∧I m' a w)∨(e≠.normal∧(e = .exit 0∧KS 67 B (fun e σ'=>e = .normal∧σ' = EX l (cE c).1 (cE c).2) .normal a w))) a' w':=by
    intro E' a' w' es' s hse hs' hG' hb' hv'
    subst hse
    refine wp_mono ((yn hmix [0,3,14,15,16] (RY mb l c c.length i)).fr hs') ?_
    rintro e a5 w5 ⟨σ5,E5,⟨rfl,rfl⟩,hs5,hf5⟩
    refine .inl ⟨rfl,m - 1,by omega,i+1,E5,es',by omega, ?_, ?_,Nat.le_trans hb' hf5.size, ?_⟩
    ·have:ac ((i:Int)+1) = ((i+1:Nat):Int):=by
      have h63:(i:Int)+1 < 9223372036854775808:=by omega
      show IntKind.wrap .i64 _ = _
      simp [IntKind.wrap,IntKind.bits,IntKind.signed]
      omega
     rw [this] at hs5
     exact hs5
    ·rw [Fx hil];exact hG'.fr hf5
    ·rw [Fx hil];exact hv'
   have e22:a3.eval (.tmp 22) = .bool (af (c[i]).Kind 4):=(bn hs3 (ch:=[]) (x:=.tmp 22) rfl rfl).lit_inv
   refine wp_cond_split e22 (fun ht=>?_) fun hf=>wp_skip ?_
   ·refine wp_seq (wp_mono ((yn hmix _ (R7 mb l c c.length i c[i])).fr hs3) ?_)
    rintro e a4 w4 ⟨σ4,E4,⟨rfl,rfl⟩,hs4,hf4⟩
    refine wp_mono (OY hs4 (hG3.fr hf4) (Nat.le_trans hb3 hf4.size) hbB hmB hv (by omega)) ?_
    rintro e a5 w5 ⟨rfl,E5,es5,hs5,hG5,hb5⟩
    have hst:il (cE (c.take i)) c[i] = (cO kR (cE (c.take i)).1 (xc c[i]),cQ kR (cE (c.take i)).1 (cE (c.take i)).2 (xc c[i]) (cd kR (cE (c.take i)).1 (cE (c.take i)).2 (xc c[i]) []++[(c[i]).Span])):=by
     unfold il
     rw [ht,cond_true]
    exact fin E5 a5 w5 es5 _ hst.symm hs5 hG5 hb5 (MZ hv)
   ·obtain ⟨E4,hs4,hf4⟩:=(xr (Sa mb l c c.length i c[i])).fr hs3
    have hst:il (cE (c.take i)) c[i] = cE (c.take i):=by
     unfold il
     rw [hf,cond_false]
    exact fin E4 a3 w3 es _ hst.symm hs4 (hG3.fr hf4) (Nat.le_trans hb3 hf4.size) fun v h=>Nat.le_succ_of_le (hv v h)
  ·have hil:c.length≤i:=by simpa [aa] using hf
   have hic:i = c.length:=by omega
   subst hic
   rw [List.take_length] at hG1
   obtain ⟨E',hs'⟩:=Q0 (l:=l) hs1 rfl rfl hG1 hmB hbB
   exact .inr ⟨by simp,rfl,_,E',⟨rfl,rfl⟩,hs'⟩
 ·rintro e a w ⟨rfl,h⟩
  exact h
end
theorem Pg (s:List GFact × List GFact × Int × Int × List GCompetence_route × List (List GSpan)) (y:List GFact × List GCompetence_route × List (List GSpan)) (hy:sF s = some y) {cc:Code} (hcc:iF (iM 29) dP = some cc) :
  bf Tryz.prog 67 cc (fun e σ'=>e = .normal∧σ' = EX y.1 y.2.1 y.2.2) (Pr s.1 s.2.1 s.2.2.1 s.2.2.2.1 s.2.2.2.2.1 s.2.2.2.2.2):=by
 rw [QD] at hcc
 cases hcc
 obtain ⟨l,c,n,i,ks,vs⟩:=s
 unfold sF at hy
 simp only at hy
 cases hc:(aa (c.length≤1000000)&&(af n c.length&&(af i 0&&(ks.isEmpty&&vs.isEmpty)))) with
 | false=>rw [hc] at hy;cases hy
 | true =>
  rw [hc,cond_true] at hy
  cases hy
  simp only [Bool.and_eq_true,aa,decide_eq_true_eq,af,beq_iff_eq,List.isEmpty_iff] at hc
  obtain ⟨h1,h2,h3,rfl,rfl⟩:=hc
  exact .of_wp fun B E a w hs=>Qt h2 h3 h1 hs
theorem Qg (fid:FuncId) (ins:Tm) (out:cP) (cuts:List (Nat × Tm)):L9 Tryz.prog { fid:=fid,fn:=Tryz.f12,c:=dP,ins:=ins,out:=out,cuts:=cuts,hd:=[(29,⟨M3,HL,sF⟩)] }:=by
 intro π h hl cc hcc s y hy
 have hl:(bif Nat.beq 29 π then some (⟨M3,HL,sF⟩:CJ) else none) = some h:=hl
 cases hb:Nat.beq 29 π with
 | false=>rw [hb] at hl;cases hl
 | true =>
  have:=Nat.eq_of_beq_eq_true hb
  subst this
  rw [hb,cond_true] at hl
  cases hl
  have:=Pg s y hy hcc
  show bf _ _ _ (fun e σ'=>e = .normal∧σ' = na HL y) (na M3 s)
  rw [Qs,Ou]
  exact this
end Go.Ax
