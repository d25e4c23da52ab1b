import Derived.Test.YtbjfcadcipfolaaGreatYB7
set_option linter.all false
/- Regions, code, functions: the evaluation is sound. -/
namespace Go.Ax
open Go.RowKit
section
variable {R:Type} (Tb:jT) (X:XT) (N:Nat) (all:List Oper)
def FH:List Oper→St→(St→Option R)→Option R
 | [],σ,k=>k { σ with tm:=od σ.tm }
 | o :: r,σ,k=>FZ Tb X N all σ σ.nx o fun σ rc=>FH r { after σ rc with nx:=σ.nx+8 } k
def Be:List Oper→Nat→St→List bA→(List bA→St→Option R)→Option R
 | [],_,σ,rcs,k=>k rcs { σ with tm:=od σ.tm }
 | o :: r,nid,σ,rcs,k=>FZ Tb X N all σ nid o fun σ rc=>Be r (nid+8) (after σ rc) (rcs++[rc]) k
def wG (σ:St) (o:Oper) (k:St→Option R):Option R:=FZ Tb X N all σ σ.nx { o with guard:=none } fun σ rc=>k { after σ rc with nx:=σ.nx+8 }
def xK (σ:St) (o:Oper) (ch:aN) (k:St→Option R):Option R :=
 bif io N o.dst&&gU o.dst ch then k { after σ (Er o ch σ.nx) with nx:=σ.nx+8 } else none
def mN:List Oper→St→(St→Option R)→Option R
 | [],σ,k=>k { σ with tm:=od σ.tm }
 | o :: r,σ,k=>match o.guard with
  | none=>wG Tb X N all σ o fun σ'=>mN r σ' k
  | some g =>
   match cC all σ.tm (some g) with
   | some ((t,w) :: ch)=>bif ((t,w) :: ch).all (fun x=>dv σ.tm ((t,w) :: ch) x.1) then
     (match aw σ.tm t with
     | some ⟨c0, .c (.lit (.bool b))⟩ =>
      bif holds σ.tm ch then
       (bif b then
        (bif w then wG Tb X N all { σ with tm:=gm σ.tm t ⟨c0,bl true⟩ } o fun σ'=>mN r σ' k
        else xK N { σ with tm:=gm σ.tm t ⟨c0,bl true⟩ } o ((t,w) :: ch) fun σ'=>mN r σ' k)
       else
        (bif w then xK N { σ with tm:=gm σ.tm t ⟨c0,bl false⟩ } o ((t,w) :: ch) fun σ'=>mN r σ' k
        else wG Tb X N all { σ with tm:=gm σ.tm t ⟨c0,bl false⟩ } o fun σ'=>mN r σ' k))
      else xK N σ o ((t,w) :: ch) fun σ'=>mN r σ' k
     | _=>none) else none
   | _=>none
end
open Classical in
noncomputable def rk {R:Type} (l:List Nat) (f:Nat→Option R):Option R:=if h:∃ r,l≠[]∧∀ p∈l,f p = some r then some h.choose else none
theorem rt {R:Type} {l:List Nat} {f:Nat→Option R} {r:R} (h:rk l f = some r):l≠[]∧∀ p∈l,f p = some r:=by
 unfold rk at h
 split at h
 ·next hh=>cases h;exact hh.choose_spec
 ·cases h
theorem td {R:Type} {l:List Nat} {f:Nat→Option R} {r:R} (hl:l≠[]) (h:∀ p∈l,f p = some r):rk l f = some r:=by
 have hh:∃ r,l≠[]∧∀ p∈l,f p = some r:=⟨r,hl,h⟩
 unfold rk
 rw [dif_pos hh]
 obtain ⟨p,hp⟩:=List.exists_mem_of_ne_nil l hl
 have h1:=hh.choose_spec.2 p hp
 rw [h p hp] at h1
 exact h1.symm
def iL (n:Nat) (l:List Int):List Nat:=(List.range n).filter fun p=>!(l.contains (p:Int))
def LM (σ:St) (o:Oper) (v:V) (r:aH):bA:={ dst:=o.dst,rds:=[],ch:=[],nid:=σ.nx,vs:=[v],reach:=[],rws:=(true,[]),res:=r }
def Ed (q:Nat) (m:V) (s:Int) (l:List Int) (kt vt:Ty) (ks:List kt.T) (vs:List vt.T) (p:Nat):aH:={ val:=.tup [bl true,encV kt (gD ks p kt.z),encV vt (gD vs p vt.z)],eff:=[(q,some (.iter m s ((p:Int) :: l)))] }
def Em:aH:={ val:=.tup [bl false] }
noncomputable def zQ {R:Type} (N:Nat) (σ:St) (o:Oper) (x:Operand) (k:St→Option R):Option R :=
 bif io N o.dst then (match bM σ [] x with
 | some (.ptr q kk i j)=>(match ae.get σ.hp q with
  | some (.iter m s l)=>bif Nat.beq (i*kk+j) 0 then (match ov σ.hp m with
   | some (_, .map _ kt vt ks vs)=>bif kt.key then gL [ak ks.length s] (bif (iL ks.length l).isEmpty then k { after σ (LM σ o (.ptr q kk i j) Em) with nx:=σ.nx+8 }
     else rk (iL ks.length l) fun p=>k { after σ (LM σ o (.ptr q kk i j) (Ed q m s l kt vt ks vs p)) with nx:=σ.nx+8 }) else none
   | _=>none) else none
  | _=>none)
 | _=>none) else none
def Hm (o:Oper):Option Operand:=match o.op with | .next x false=>bif o.guard.isNone then some x else none | _=>none
def Ik (ops:List Oper):Option (Oper × Operand × List Oper):=match ops with
 | o :: r=>(match Hm o with | some x=>some (o,x,r) | none=>none)
 | []=>none
section
variable {R:Type} {Tb:jT} {X:XT} {N:Nat} {all:List Oper} {y:R}
theorem BY:∀ {l:List Oper} {σ:St} {k:St→Option R},FH Tb X N all l σ k = some y→∀ C:FuncId→Option CC,(∀ f,C f = some (eT Tb X f))→∃ σ',zW Tb.P C N all l σ σ'∧k σ' = some y
 | [],σ,k,h,C,_=>⟨_, .nil σ,h⟩
 | o :: l,σ,k,h,C,hC=>by
  unfold FH at h
  obtain ⟨rc,h1,h5⟩:=BN h
  obtain ⟨σ',a1,a3⟩:=BY h1 C hC
  exact ⟨σ', .cons o l σ σ' rc (h5 C hC).1 (h5 C hC).2 a1,a3⟩
theorem Gj:∀ {l:List Oper} {nid:Nat} {σ:St} {rcs:List bA} {k:List bA→St→Option R},Be Tb X N all l nid σ rcs k = some y→∀ C:FuncId→Option CC,(∀ f,C f = some (eT Tb X f)) →
  ∃ rs σ',KK Tb.P C N all l nid σ rs σ'∧k (rcs++rs) σ' = some y
 | [],nid,σ,rcs,k,h,C,_=>⟨[],_, .nil nid σ,by rw [List.append_nil];exact h⟩
 | o :: l,nid,σ,rcs,k,h,C,hC=>by
  unfold Be at h
  obtain ⟨rc,h1,h5⟩:=BN h
  obtain ⟨rs,σ',a1,a3⟩:=Gj h1 C hC
  exact ⟨rc :: rs,σ', .cons o l nid σ σ' rc rs (h5 C hC).1 (h5 C hC).2 a1,by rw [List.append_assoc] at a3;exact a3⟩
theorem Ci:∀ {ps:List Prop} {K:Prop},(∀ p∈ps,p)→K→ET ps K
 | [],_,_,h=>h
 | p :: ps,_,hp,h=>⟨hp p (by simp),Ci (fun q hq=>hp q (by simp [hq])) h⟩
theorem xc {σ:St} {o:Oper} {k:St→Option R} (h:wG Tb X N all σ o k = some y):pB Tb.P (fun f=>some (eT Tb X f)) N all σ o fun σ'=>k σ' = some y:=by
 unfold wG at h
 obtain ⟨rc,h1,h5⟩:=BN h
 obtain ⟨h7,h8⟩:=h5 _ fun _=>rfl
 have h9:oc Tb.P (fun f=>some (eT Tb X f)) N all σ σ.nx { o with guard:=none } = some rc∧rc.ch = []:=by
  rcases h7 with ⟨h7,_⟩ | ⟨_,_,e,_,_,hf⟩
  ·obtain ⟨_,e,_⟩:=nu h7
   have hch:rc.ch = []:=by simpa [cC] using e.symm
   unfold oc
   rw [h7]
   simp only [Ac,hch,List.isEmpty_nil,Bool.true_or,cond_true,and_self]
  ·have hch:rc.ch = []:=by simpa [cC] using e.symm
   rw [hch] at hf
   cases hf
 obtain ⟨h7,hch⟩:=h9
 unfold pB
 rw [h7]
 refine Ci (fun p hp=>?_) h1
 have:=h8 p
 rw [hch] at this
 exact this hp
theorem xr {σ:St} {o:Oper} {ch:aN} {k:St→Option R} (h:xK N σ o ch k = some y):pN N σ o ch fun σ'=>k σ' = some y:=by
 unfold xK at h
 unfold pN
 cases hc:(io N o.dst&&gU o.dst ch) with
 | false=>rw [hc] at h;cases h
 | true=>rw [hc] at h;exact h
theorem FP:∀ {l:List Oper} {σ:St} {k:St→Option R},mN Tb X N all l σ k = some y→ur Tb.P (fun f=>some (eT Tb X f)) N all l σ fun σ'=>k σ' = some y
 | [],σ,k,h=>h
 | o :: l,σ,k,h=>by
  unfold mN at h
  unfold ur
  have rec_:∀ σ',mN Tb X N all l σ' k = some y→ur Tb.P (fun f=>some (eT Tb X f)) N all l σ' fun σ'=>k σ' = some y:=fun σ' h=>FP h
  split at h
  ·next hg =>
   rw [hg]
   exact wg rec_ (xc h)
  ·next g hg =>
   rw [hg]
   simp only
   split at h
   ·next t w ch hch =>
    rw [hch]
    simp only
    cases ha:(((t,w) :: ch).all fun x=>dv σ.tm ((t,w) :: ch) x.1) with
    | false=>rw [ha] at h;cases h
    | true =>
     rw [ha,cond_true] at h
     rw [cond_true]
     split at h
     ·next c0 b hgt =>
      rw [hgt]
      simp only
      cases hh:holds σ.tm ch with
      | false=>rw [hh,cond_false] at h;exact wy rec_ (xr h)
      | true =>
       rw [hh,cond_true] at h
       rw [cond_true]
       cases b with
       | true =>
        cases w with
        | true=>exact wg rec_ (xc h)
        | false=>exact wy rec_ (xr h)
       | false =>
        cases w with
        | true=>exact wy rec_ (xr h)
        | false=>exact wg rec_ (xc h)
     ·cases h
   ·cases h
end
def Rd (o:Oper):Bool:=match o.op with
 | .alloc _=>true
 | .box _ _=>true
 | .store ..=>true
 | .buildSlice ..=>true
 | .makeSlice ..=>true
 | .makeMap ..=>true
 | .mapUpdate ..=>true
 | .range ..=>true
 | .next ..=>true
 | .call { callee:=.builtin .append, .. }=>true
 | .call { callee:=.builtin .clear, .. }=>true
 | .call { callee:=.value _, .. }=>true
 | _=>false
noncomputable def Jg {R:Type} (Tb:jT) (X:XT) (N:Nat) (ops:Array Oper) (dr:Bool) (σ:St) (k:St→Option R):Option R :=
 bif dr then Be Tb X N ops.toList ops.toList σ.nx { σ with nx:=σ.nx+8*ops.toList.length } [] fun rcs σ'=>bif o6 0 ops.toList&&vn (Ak ops.toList []) [] rcs then k σ' else none
 else match Ik ops.toList with
 | some (o,x,r)=>zQ N σ o x fun σ'=>FH Tb X N ops.toList r σ' k
 | none=>bif ops.toList.any fun o=>o.guard.isSome&&Rd o then mN Tb X N ops.toList ops.toList σ k
 else FH Tb X N ops.toList ops.toList σ k
theorem Kp {o:Oper} {x:Operand} (h:Hm o = some x):o.op = .next x false∧o.guard = none:=by
 unfold Hm at h
 split at h
 ·next x' hx =>
  cases hg:o.guard with
  | none=>rw [hg] at h;cases h;exact ⟨hx,rfl⟩
  | some g=>rw [hg] at h;cases h
 ·cases h
theorem J9 {ops:List Oper} {o:Oper} {x:Operand} {r:List Oper} (h:Ik ops = some (o,x,r)):ops = o :: r∧o.op = .next x false∧o.guard = none:=by
 unfold Ik at h
 split at h
 ·next o' r' =>
  split at h
  ·next x' hx=>cases h;exact ⟨rfl,Kp hx⟩
  ·cases h
 ·cases h
theorem nk {n:Nat} {l:List Int} {p:Nat}:p∈iL n l↔p < n∧(p:Int) ∉ l:=by
 unfold iL
 rw [List.mem_filter,List.mem_range]
 simp
theorem v6 {E:au} {w:World} {v:Value} {o k i j:Nat} (h:aj E w v (.ptr o k i j)):∃ b,v = .pointer (some ⟨b,i*k+j,none⟩)∧E.live o∧E.conc o = some b:=by
 generalize hd:V.ptr o k i j = d at h
 cases h with
 | ptr _ _ _ _ b hn hb hi=>cases hd;exact ⟨b,rfl,hn,hb⟩
 | _=>cases hd
theorem Og {R:Type} {P:Program} {N:Nat} {B:fh} {σ:St} {E:au} {a:Act} {w:World} {o:Oper} {x:Operand} {k:St→Option R} {y:R} (ho:o.op = .next x false) (hgu:o.guard = none) (h:zQ N σ o x k = some y) (hs:bn N B σ E a w)
  {ops:Array Oper} {i:Nat} (hi:ops[i]? = some o) {K:Act→World→Prop} {Q:Exit→Act→World→Prop} (hK:∀ σ' E' a' w',k σ' = some y→bn N B σ' E' a' w'→K a' w'):wpOp P ops Q i K a w:=by
 unfold zQ at h
 cases hd:io N o.dst with
 | false=>rw [hd] at h;cases h
 | true =>
 rw [hd,cond_true] at h
 split at h
 ·next q kk i0 j0 hop =>
  split at h
  ·next m s l hg =>
   cases hb0:Nat.beq (i0*kk+j0) 0 with
   | false=>rw [hb0] at h;cases h
   | true =>
   rw [hb0,cond_true] at h
   have h0:=Nat.eq_of_beq_eq_true hb0
   split at h
   ·next q2 tm kt vt ks vs hm =>
    cases hkt:kt.key with
    | false=>rw [hkt] at h;cases h
    | true =>
    rw [hkt,cond_true] at h
    obtain ⟨hbs,h⟩:=rY h
    have hks:(ks.length:Int) = s:=by have:=hbs (ak ks.length s) (by simp);simpa [ak] using this
    have hrep:=co hs (ch:=[]) rfl hop
    obtain ⟨b,hx,hlive,hcb⟩:=v6 hrep
    rw [h0] at hx
    obtain ⟨_,hlen,b',bm,sn,seen,c,h1,h2,⟨h3,h5,h6⟩,h4⟩:=hs.heap.at_ _ _ hg
    rw [hcb] at h1;cases h1
    obtain ⟨bm',e1,hl2,hc2,hg2⟩:=lG hs.heap h4 hm
    cases e1
    obtain ⟨_,_,k2,bm',es,clock,g3,g4,g5,g6,g7,g8,g9⟩:=hs.heap.at_ _ _ hg2
    rw [hc2] at g3;cases g3
    have hold:∀ e∈es.toList,e.born < sn:=by
     intro e he
     obtain ⟨p,hp⟩:=List.getElem?_of_mem he
     have hp:es[p]? = some e:=by simpa using hp
     have:=(Array.getElem?_eq_some_iff.1 hp).1
     rw [g9 p e hp];omega
    have hmem:∀ p:Nat,(p:Int)∈l↔p∈seen.toList:=by
     intro p
     rw [← h6,List.mem_map]
     constructor
     ·rintro ⟨q,hq,e⟩
      have:q = p:=by omega
      subst this
      simpa using hq
     ·intro hp;exact ⟨p,by simpa using hp,rfl⟩
    have hmk:∀ (v:Value) (w':World),(Instr.next (.pointer (some ⟨b,0,none⟩)) false o.type).run P w = .ok v w'→K (a.put o.dst v) w'→wpOp P ops Q i K a w:=by
     intro v w' hr hk
     unfold wpOp
     rw [hi]
     simp only
     rw [mo hs (ch:=[]) (by simp [cC,hgu]) rfl,if_pos (by rfl)]
     left
     unfold Oper.wp
     have hrun:(execOp a.eval o).run P w = .ok (.value v) w':=by
      simp only [execOp,ho,hx,Sem.run_bind,hr,Result.andThen_ok]
      rfl
     rw [hrun]
     exact hk
    have hrn:=run_next_at (P:=P) w o.type b bm sn c seen es clock h2 g4 hold (by omega)
    rcases hrn with ⟨hz,hr⟩ | ⟨e,he,w1,hw1,hr⟩
    ·
     have hemp:(iL ks.length l).isEmpty = true:=by
      rw [List.isEmpty_iff]
      refine List.eq_nil_iff_forall_not_mem.2 fun p hp=>?_
      obtain ⟨p1,p2⟩:=nk.1 hp
      have hp':es[p]? = some es[p]:=Array.getElem?_eq_getElem (by omega)
      have:es[p]∈leftOf es seen:=by
       unfold leftOf
       rw [Array.mem_filter]
       refine ⟨by simp, ?_⟩
       rw [g9 p _ hp']
       have:=fun h=>p2 ((hmem p).2 h)
       simpa using this
      have:=Array.size_pos_of_mem this
      omega
     rw [hemp,cond_true] at h
     refine hmk _ _ hr ?_
     have hf:e9 E σ.nx:=.of hs.live (Nat.le_refl _)
     have hP:ce E w σ.hp σ.nx Em (E.next σ.nx none 0 0 E.ok) w (.tuple #[.bool false]):=by
      have hS:dn E w [] (E.next σ.nx none 0 0 E.ok) w:=cH hf.one none 0 0 E.ok (.refl _ _) (by simp) (fun _ h=>h) (fun _ h=>.inl h)
      exact ⟨hS,cY hf.one hs.heap (.refl _ _) (by simp) (fun _ h=>h) (fun _ h=>.inl h) hs.heap.oklt, .tup [.bool false] [bl false] rfl (fun i v d hv hd=>by
       match i,hv,hd with
       | 0,hv,hd=>cases hv;cases hd;exact .lit _),bG⟩
     exact hK _ _ _ _ h (ui (rc:=LM σ o (.ptr q kk i0 j0) Em) hs (Nat.le_add_right _ _) (Nat.le_refl _) hP rfl hd (.inl rfl))
    ·
     unfold leftOf at he
     have he:=Array.mem_filter.1 (Array.mem_toList_iff.1 he)
     obtain ⟨p,hp⟩:=Array.getElem?_of_mem he.1
     have hplt:p < es.size:=(Array.getElem?_eq_some_iff.1 hp).1
     have hborn:=g9 p e hp
     have hns:(p:Int) ∉ l:=by
      rw [hmem, ← hborn]
      have:=he.2
      simpa using this
     have hpl:p∈iL ks.length l:=nk.2 ⟨by omega,hns⟩
     have hemp:(iL ks.length l).isEmpty = false:=by
      cases hh:iL ks.length l with
      | nil=>rw [hh] at hpl;simp at hpl
      | cons=>rfl
     rw [hemp,cond_false] at h
     have hkp:=(rt h).2 p hpl
     have hs1:bn N B σ E a w1:=by
      rcases hw1 with rfl | rfl
      ·exact hs
      ·exact hs.drawn _
     have hheap:w1.heap = w.heap:=by rcases hw1 with rfl | rfl <;> rfl
     refine hmk _ _ hr ?_
     have hf:e9 E σ.nx:=.of hs.live (Nat.le_refl _)
     obtain ⟨a1,a2⟩:=g7 p e hp
     have hclk:clock = sn:=by omega
     have hP:ce E w1 σ.hp σ.nx (Ed q m s l kt vt ks vs p) (E.next σ.nx none 0 0 E.ok) (dT w1 b (.mapIter (some bm) sn (seen.push e.born) clock)) (.tuple #[.bool true,e.key,e.val]):=by
      refine sS hs1.heap hf.one hlive hcb _ rfl rfl (fun E' c1 c2 c3 hr hd=>?_) fun hr=>?_
      ·refine ⟨c3.trans hlen,b,bm,sn,seen.push e.born,clock,c1,p7 _ (by rw [hheap];exact fa h2),⟨hclk,h5, ?_⟩,hr _ _ ?_⟩
       ·rw [Array.toList_push,List.reverse_append,List.map_append,h6,hborn];rfl
       ·rcases hw1 with rfl | rfl
        ·exact h4
        ·exact (hs.drawn (w.drawn+1)).heap.at_ _ _ hg |>.2.2.elim fun b2 hb2=>by
          obtain ⟨bm2,sn2,seen2,c2,q1,q2,q3,q4⟩:=hb2
          have q2':w.heap[b2]? = some (.mapIter (some bm2) sn2 seen2 c2):=q2
          rw [hcb] at q1;cases q1
          rw [h2] at q2'; cases q2'
          exact q4
      ·have ev:aj E w1 e.val (encV vt (gD vs p vt.z)):=by
        rcases hw1 with rfl | rfl
        ·exact a2.rep
        ·have hx2:=(hs.drawn (w.drawn+1)).heap.at_ _ _ hg2
         obtain ⟨_,_,_,bm2,es2,clock2,q3,q4,_,_,q7,_⟩:=hx2
         have q4':w.heap[bm2]? = some (.map es2 clock2):=q4
         rw [hc2] at q3;cases q3
         rw [g4] at q4'; cases q4'
         exact (q7 p e hp).2.rep
       refine .tup [.bool true,e.key,e.val] _ rfl fun i v d hv hd=>?_
       match i,hv,hd with
       | 0,hv,hd=>cases hv;cases hd;exact .lit _
       | 1,hv,hd=>cases hv;cases hd;rw [a1];exact IS hkt _
       | 2,hv,hd=>cases hv;cases hd;exact hr _ _ ev
     exact hK _ _ _ _ hkp (ui (rc:=LM σ o (.ptr q kk i0 j0) (Ed q m s l kt vt ks vs p)) hs1 (Nat.le_add_right _ _) (Nat.le_refl _) hP rfl hd (.inl rfl))
   ·cases h
  ·cases h
 ·cases h
theorem bF.of_wp {P:Program} {N:Nat} {c:Code} {K:Exit→St→Prop} {σ:St} (h:∀ (B:fh) (E:au) (a:Act) (w:World),bn N B σ E a w→c.wp P (KS N B K) a w):bF P N c K σ:=⟨h⟩
theorem Qb {R:Type} {Tb:jT} {X:XT} {N:Nat} {id:Nat} {ops:Array Oper} {dr:Bool} {σ:St} {k:St→Option R} {y:R} (hm:Tb.P.follows .mixedOrders = true) (hC:∀ f,bz Tb.P f (eT Tb X f))
  (h:Jg Tb X N ops dr σ k = some y):bF Tb.P N (.region id ops dr) (fun e σ'=>e = .normal∧k σ' = some y) σ:=by
 have hM:∀ f con,(fun f=>some (eT Tb X f)) f = some con→bz Tb.P f con:=by
  intro f con hc
  cases hc
  exact hC f
 refine .of_wp fun B E a w hs=>?_
 unfold Jg at h
 cases dr with
 | true =>
  rw [cond_true] at h
  obtain ⟨rs,σ',a1,a3⟩:=Gj h _ fun _=>rfl
  rw [List.nil_append] at a3
  cases hc:(o6 0 ops.toList&&vn (Ak ops.toList []) [] rs) with
  | false=>rw [hc] at a3;cases a3
  | true =>
   rw [hc,cond_true] at a3
   rw [Bool.and_eq_true] at hc
   exact Ep hm hM a1 hc.1 hc.2 hs fun E' a' w' hs'=>⟨σ',E',⟨rfl,a3⟩,hs'⟩
 | false =>
  rw [cond_false] at h
  split at h
  ·next o x r hno =>
   obtain ⟨e1,e2,e3⟩:=J9 hno
   refine wp_region ?_
   rw [List.range_eq_range',show ops.size = r.length+1 by rw [← Array.length_toList,e1];rfl,List.range'_succ,wpOps_cons]
   have hi:ops[0]? = some o:=by rw [← Array.getElem?_toList,e1];rfl
   refine Og e2 e3 h hs hi fun σ1 E1 a1 w1 hk hs1=>?_
   obtain ⟨σ',a1',a3⟩:=BY hk _ fun _=>rfl
   exact BF hM r 1 σ1 σ' E1 a1 w1 (by rw [e1];rfl) a1' hs1 fun E' a' w' hs'=>⟨σ',E',⟨rfl,a3⟩,hs'⟩
  next hno =>
  cases he:(ops.toList.any fun o=>o.guard.isSome&&Rd o) with
  | true =>
   rw [he,cond_true] at h
   exact LH hM (FP h) hs fun σ' E' a' w' hk hs'=>⟨σ',E',⟨rfl,hk⟩,hs'⟩
  | false =>
   rw [he,cond_false] at h
   obtain ⟨σ',a1,a3⟩:=BY h _ fun _=>rfl
   exact MS hM a1 hs fun E' a' w' hs'=>⟨σ',E',⟨rfl,a3⟩,hs'⟩
abbrev KX (R:Type):=Exit→St→Option R
def qy {R:Type} (id:Nat) (κ:KX R):KX R
 | .exit id',σ=>bif Nat.beq id' id then κ .normal σ else κ (.exit id') σ
 | e,σ=>κ e σ
def lK {R:Type} (Jc:(T:Tm)→HP T.tys→Option R) (T:Tm) (σ:St):Option R:=(zI T σ).bind (Jc T)
def IG {R:Type} (J:(π:Nat)→(T:Tm)→HP T.tys→Option R) (cuts:List (Nat × Tm)) (π:Nat) (go:St→Option R) (κ:KX R):KX R
 | .normal,σ=>match cB cuts π with | some T=>lK (J π) T σ | none=>go σ
 | e,σ=>κ e σ
def z7 {R:Type} (J:(π:Nat)→(T:Tm)→HP T.tys→Option R) (cuts:List (Nat × Tm)) (π:Nat) (κ:KX R):KX R
 | .normal,σ=>match cB cuts π with | some T=>lK (J π) T σ | none=>none
 | e,σ=>κ e σ
section
variable {R:Type} (Tb:jT) (X:XT) (N:Nat) (J:(π:Nat)→(T:Tm)→HP T.tys→Option R) (cuts:List (Nat × Tm)) (hd:List (Nat × JR))
noncomputable def xe:Code→Nat→KX R→St→Option R
 | .skip,_,κ,σ=>κ .normal σ
 | .label _,_,κ,σ=>κ .normal σ
 | .region _ ops dr,_,κ,σ=>Jg Tb X N ops dr σ (κ .normal)
 | .seq x y,π,κ,σ=>xe x (2*π) (IG J cuts (2*π+1) (xe y (2*π+1) κ) κ) σ
 | .cond c x y,π,κ,σ=>match bM σ [] c with
  | some (.c (.lit (.bool b)))=>bif b then xe x (2*π) κ σ else xe y (2*π+1) κ σ
  | _=>none
 | .block id x,π,κ,σ=>match cB hd π with
  | some h=>((zI h.T σ).bind h.f).bind fun y=>κ .normal (tS h.T' y)
  | none=>xe x (2*π) (qy id κ) σ
 | .exit id,_,κ,σ=>κ (.exit id) σ
 | .ret,_,κ,σ=>κ .ret σ
 | .loop _,π,_,σ=>match cB cuts π with | some T=>lK (J π) T σ | none=>none
 | _,_,_,_=>none
noncomputable def AU:List Bool→Code→Nat→KX R→Option (St→Option R)
 | [], .loop x,π,κ=>some (xe Tb X N J cuts hd x (2*π) (z7 J cuts π κ))
 | [],c,π,κ=>some (xe Tb X N J cuts hd c π κ)
 | true :: r, .seq _ y,π,κ=>AU r y (2*π+1) κ
 | false :: r, .seq x y,π,κ=>AU r x (2*π) (IG J cuts (2*π+1) (xe Tb X N J cuts hd y (2*π+1) κ) κ)
 | true :: r, .cond _ _ y,π,κ=>AU r y (2*π+1) κ
 | false :: r, .cond _ x _,π,κ=>AU r x (2*π) κ
 | false :: r, .block id x,π,κ=>AU r x (2*π) (qy id κ)
 | false :: r, .loop x,π,κ=>AU r x (2*π) (z7 J cuts π κ)
 | _,_,_,_=>none
end
def nO (π:Nat):List Bool:=((List.range (Nat.log2 π)).map fun i=>Nat.testBit π i).reverse
def cS.rdR (o:cS) (σ:St) (v:V):Option (HP o.tys):=bif o.isGen then o.rdG σ v else o.rd σ.hp v
def yR (P:Program) (σ:St):List ResultVar→List Bool
 | []=>[]
 | .tmp _ :: r=>yR P σ r
 | .cell s T :: r=>(match bM σ [] (.tmp s) with | some x=>(match nQ P σ.hp T x with | some q=>q.dec.bools | none=>[]) | none=>[])++yR P σ r
theorem xA {P:Program} {σ:St}:∀ {rs:List ResultVar},(∀ b∈yR P σ rs,b = true)→∀ x∈rs,yq P σ x
 | [],_,x,hx=>by simp at hx
 | .tmp t :: r,h,x,hx=>by
  rcases List.mem_cons.1 hx with rfl | hx
  ·trivial
  ·exact xA (rs:=r) h x hx
 | .cell s T :: r,h,x,hx=>by
  rcases List.mem_cons.1 hx with rfl | hx
  ·intro y q h1 h2
   refine tZ q.dec fun b hb=>h b ?_
   rw [yR,h1]
   simp only [h2]
   exact List.mem_append_left _ hb
  ·exact xA (rs:=r) (fun b hb=>h b (List.mem_append_right _ hb)) x hx
def yC (P:Program) (fi:FI):KX (HP fi.out.tys)
 | .ret,σ=>(match mB P σ fi.fn.results.toList with | some v=>gL (yR P σ fi.fn.results.toList) (fi.out.rdR σ v) | none=>none)
 | .normal,σ=>(match mB P σ fi.fn.results.toList with | some v=>gL (yR P σ fi.fn.results.toList) (fi.out.rdR σ v) | none=>none)
 | _,_=>none
def Jo (fi:FI):Bool:=(fi.out.isGen||Nat.ble fi.ins.sl.length fi.fn.ntmps)&&Nat.ble fi.fn.ntmps 1000000
def Pm {R:Type} (b:Option (St→Option R)) (σ:St):Option R:=match b with | some go=>go σ | none=>none
noncomputable def Af (Tb:jT) (J:JT) (fi:FI) (π:Nat) (T:Tm) (s:HP T.tys):Option (HP fi.out.tys) :=
 bif Jo fi then Pm (AU Tb (fun fi a=>J fi 1 fi.ins a) fi.fn.ntmps (J fi) fi.cuts fi.hd (nO π) fi.c 1 (yC Tb.P fi)) (tS T s) else none
noncomputable def Jn (Tb:jT):Nat→JT
 | 0=>fun _ _ _ _=>none
 | n+1=>fun fi π T s=>Af Tb (Jn Tb n) fi π T s
end Go.Ax
