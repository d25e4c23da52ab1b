import Derived.Test.YtbjfcadcipfolaaGreatZB7
set_option linter.all false
/- Regions, code, functions: the evaluation is sound. -/
namespace Go.Ax
open Go.RowKit
section
variable {R:Type} (Tb:iE) (X:XT) (N:Nat) (all:List Oper)
def Cl:List Oper→St→(St→Option R)→Option R
 | [],σ,k=>k { σ with tm:=lW σ.tm }
 | o :: r,σ,k=>CE Tb X N all σ σ.nx o fun σ rc=>Cl r { after σ rc with nx:=σ.nx+8 } k
def yO:List Oper→Nat→St→List bj→(List bj→St→Option R)→Option R
 | [],_,σ,rcs,k=>k rcs { σ with tm:=lW σ.tm }
 | o :: r,nid,σ,rcs,k=>CE Tb X N all σ nid o fun σ rc=>yO r (nid+8) (after σ rc) (rcs++[rc]) k
def tH (σ:St) (o:Oper) (k:St→Option R):Option R:=CE Tb X N all σ σ.nx { o with guard:=none } fun σ rc=>k { after σ rc with nx:=σ.nx+8 }
def uw (σ:St) (o:Oper) (ch:aL) (k:St→Option R):Option R :=
 bif gg N o.dst&&fQ o.dst ch then k { after σ (AG o ch σ.nx) with nx:=σ.nx+8 } else none
def kY:List Oper→St→(St→Option R)→Option R
 | [],σ,k=>k { σ with tm:=lW σ.tm }
 | o :: r,σ,k=>match o.guard with
  | none=>tH Tb X N all σ o fun σ'=>kY r σ' k
  | some g =>
   match ce all σ.tm (some g) with
   | some ((t,w) :: ch)=>bif ((t,w) :: ch).all (fun x=>cU σ.tm ((t,w) :: ch) x.1) then
     (match au σ.tm t with
     | some ⟨c0, .c (.lit (.bool b))⟩ =>
      bif holds σ.tm ch then
       (bif b then
        (bif w then tH Tb X N all { σ with tm:=fo σ.tm t ⟨c0,bl true⟩ } o fun σ'=>kY r σ' k
        else uw N { σ with tm:=fo σ.tm t ⟨c0,bl true⟩ } o ((t,w) :: ch) fun σ'=>kY r σ' k)
       else
        (bif w then uw N { σ with tm:=fo σ.tm t ⟨c0,bl false⟩ } o ((t,w) :: ch) fun σ'=>kY r σ' k
        else tH Tb X N all { σ with tm:=fo σ.tm t ⟨c0,bl false⟩ } o fun σ'=>kY r σ' k))
      else uw N σ o ((t,w) :: ch) fun σ'=>kY r σ' k
     | _=>none) else none
   | _=>none
end
open Classical in
noncomputable def oN {R:Type} (l:List Nat) (f:Nat→Option R):Option R:=if h:∃ r,l≠[]∧∀ p∈l,f p = some r then some h.choose else none
theorem pb {R:Type} {l:List Nat} {f:Nat→Option R} {r:R} (h:oN l f = some r):l≠[]∧∀ p∈l,f p = some r:=by
 unfold oN at h
 split at h
 ·next hh=>cases h;exact hh.choose_spec
 ·cases h
theorem pU {R:Type} {l:List Nat} {f:Nat→Option R} {r:R} (hl:l≠[]) (h:∀ p∈l,f p = some r):oN l f = some r:=by
 have hh:∃ r,l≠[]∧∀ p∈l,f p = some r:=⟨r,hl,h⟩
 unfold oN
 rw [dif_pos hh]
 obtain ⟨p,hp⟩:=List.exists_mem_of_ne_nil l hl
 have h1:=hh.choose_spec.2 p hp
 rw [h p hp] at h1
 exact h1.symm
def gF (n:Nat) (l:List Int):List Nat:=(List.range n).filter fun p=>!(l.contains (p:Int))
def H1 (σ:St) (o:Oper) (v:V) (r:aB):bj:={ dst:=o.dst,rds:=[],ch:=[],nid:=σ.nx,vs:=[v],reach:=[],rws:=(true,[]),res:=r }
def Bw (q:Nat) (m:V) (s:Int) (l:List Int) (kt vt:Ty) (ks:List kt.T) (vs:List vt.T) (p:Nat):aB:={ val:=.tup [bl true,encV kt (gD ks p kt.z),encV vt (gD vs p vt.z)],eff:=[(q,some (.iter m s ((p:Int) :: l)))] }
def A3:aB:={ val:=.tup [bl false] }
noncomputable def wL {R:Type} (N:Nat) (σ:St) (o:Oper) (x:Operand) (k:St→Option R):Option R :=
 bif gg N o.dst then (match bC σ [] x with
 | some (.ptr q kk i j)=>(match ab.get σ.hp q with
  | some (.iter m s l)=>bif Nat.beq (i*kk+j) 0 then (match kS σ.hp m with
   | some (_, .map _ kt vt ks vs)=>bif kt.key then gL [ak ks.length s] (bif (gF ks.length l).isEmpty then k { after σ (H1 σ o (.ptr q kk i j) A3) with nx:=σ.nx+8 }
     else oN (gF ks.length l) fun p=>k { after σ (H1 σ o (.ptr q kk i j) (Bw q m s l kt vt ks vs p)) with nx:=σ.nx+8 }) else none
   | _=>none) else none
  | _=>none)
 | _=>none) else none
def D5 (o:Oper):Option Operand:=match o.op with | .next x false=>bif o.guard.isNone then some x else none | _=>none
def EE (ops:List Oper):Option (Oper × Operand × List Oper):=match ops with
 | o :: r=>(match D5 o with | some x=>some (o,x,r) | none=>none)
 | []=>none
section
variable {R:Type} {Tb:iE} {X:XT} {N:Nat} {all:List Oper} {y:R}
theorem yy:∀ {l:List Oper} {σ:St} {k:St→Option R},Cl Tb X N all l σ k = some y→∀ C:FuncId→Option CC,(∀ f,C f = some (dN Tb X f))→∃ σ',wG Tb.P C N all l σ σ'∧k σ' = some y
 | [],σ,k,h,C,_=>⟨_, .nil σ,h⟩
 | o :: l,σ,k,h,C,hC=>by
  unfold Cl at h
  obtain ⟨rc,h1,h5⟩:=yF h
  obtain ⟨σ',a1,a3⟩:=yy h1 C hC
  exact ⟨σ', .cons o l σ σ' rc (h5 C hC).1 (h5 C hC).2 a1,a3⟩
theorem CA:∀ {l:List Oper} {nid:Nat} {σ:St} {rcs:List bj} {k:List bj→St→Option R},yO Tb X N all l nid σ rcs k = some y→∀ C:FuncId→Option CC,(∀ f,C f = some (dN Tb X f)) →
  ∃ rs σ',Ha Tb.P C N all l nid σ rs σ'∧k (rcs++rs) σ' = some y
 | [],nid,σ,rcs,k,h,C,_=>⟨[],_, .nil nid σ,by rw [List.append_nil];exact h⟩
 | o :: l,nid,σ,rcs,k,h,C,hC=>by
  unfold yO at h
  obtain ⟨rc,h1,h5⟩:=yF h
  obtain ⟨rs,σ',a1,a3⟩:=CA h1 C hC
  exact ⟨rc :: rs,σ', .cons o l nid σ σ' rc rs (h5 C hC).1 (h5 C hC).2 a1,by rw [List.append_assoc] at a3;exact a3⟩
theorem zn:∀ {ps:List Prop} {K:Prop},(∀ p∈ps,p)→K→AP ps K
 | [],_,_,h=>h
 | p :: ps,_,hp,h=>⟨hp p (by simp),zn (fun q hq=>hp q (by simp [hq])) h⟩
theorem tn {σ:St} {o:Oper} {k:St→Option R} (h:tH Tb X N all σ o k = some y):nb Tb.P (fun f=>some (dN Tb X f)) N all σ o fun σ'=>k σ' = some y:=by
 unfold tH at h
 obtain ⟨rc,h1,h5⟩:=yF h
 obtain ⟨h7,h8⟩:=h5 _ fun _=>rfl
 have h9:mr Tb.P (fun f=>some (dN Tb X f)) N all σ σ.nx { o with guard:=none } = some rc∧rc.ch = []:=by
  rcases h7 with ⟨h7,_⟩ | ⟨_,_,e,_,_,hf⟩
  ·obtain ⟨_,e,_⟩:=lJ h7
   have hch:rc.ch = []:=by simpa [ce] using e.symm
   unfold mr
   rw [h7]
   simp only [wA,hch,List.isEmpty_nil,Bool.true_or,cond_true,and_self]
  ·have hch:rc.ch = []:=by simpa [ce] using e.symm
   rw [hch] at hf
   cases hf
 obtain ⟨h7,hch⟩:=h9
 unfold nb
 rw [h7]
 refine zn (fun p hp=>?_) h1
 have:=h8 p
 rw [hch] at this
 exact this hp
theorem s6 {σ:St} {o:Oper} {ch:aL} {k:St→Option R} (h:uw N σ o ch k = some y):nf N σ o ch fun σ'=>k σ' = some y:=by
 unfold uw at h
 unfold nf
 cases hc:(gg N o.dst&&fQ o.dst ch) with
 | false=>rw [hc] at h;cases h
 | true=>rw [hc] at h;exact h
theorem CJ:∀ {l:List Oper} {σ:St} {k:St→Option R},kY Tb X N all l σ k = some y→qB Tb.P (fun f=>some (dN Tb X f)) N all l σ fun σ'=>k σ' = some y
 | [],σ,k,h=>h
 | o :: l,σ,k,h=>by
  unfold kY at h
  unfold qB
  have rec_:∀ σ',kY Tb X N all l σ' k = some y→qB Tb.P (fun f=>some (dN Tb X f)) N all l σ' fun σ'=>k σ' = some y:=fun σ' h=>CJ h
  split at h
  ·next hg =>
   rw [hg]
   exact tw rec_ (tn h)
  ·next g hg =>
   rw [hg]
   simp only
   split at h
   ·next t w ch hch =>
    rw [hch]
    simp only
    cases ha:(((t,w) :: ch).all fun x=>cU σ.tm ((t,w) :: ch) x.1) with
    | false=>rw [ha] at h;cases h
    | true =>
     rw [ha,cond_true] at h
     rw [cond_true]
     split at h
     ·next c0 b hgt =>
      rw [hgt]
      simp only
      cases hh:holds σ.tm ch with
      | false=>rw [hh,cond_false] at h;exact sP rec_ (s6 h)
      | true =>
       rw [hh,cond_true] at h
       rw [cond_true]
       cases b with
       | true =>
        cases w with
        | true=>exact tw rec_ (tn h)
        | false=>exact sP rec_ (s6 h)
       | false =>
        cases w with
        | true=>exact sP rec_ (s6 h)
        | false=>exact tw rec_ (tn h)
     ·cases h
   ·cases h
end
def Na (o:Oper):Bool:=match o.op with
 | .alloc _=>true
 | .box _ _=>true
 | .store ..=>true
 | .buildSlice ..=>true
 | .makeSlice ..=>true
 | .makeMap ..=>true
 | .mapUpdate ..=>true
 | .range ..=>true
 | .next ..=>true
 | .call { callee:=.builtin .append, .. }=>true
 | .call { callee:=.builtin .clear, .. }=>true
 | .call { callee:=.value _, .. }=>true
 | _=>false
noncomputable def Fx {R:Type} (Tb:iE) (X:XT) (N:Nat) (ops:Array Oper) (dr:Bool) (σ:St) (k:St→Option R):Option R :=
 bif dr then yO Tb X N ops.toList ops.toList σ.nx { σ with nx:=σ.nx+8*ops.toList.length } [] fun rcs σ'=>bif mQ 0 ops.toList&&su (wT ops.toList []) [] rcs then k σ' else none
 else match EE ops.toList with
 | some (o,x,r)=>wL N σ o x fun σ'=>Cl Tb X N ops.toList r σ' k
 | none=>bif ops.toList.any fun o=>o.guard.isSome&&Na o then kY Tb X N ops.toList ops.toList σ k
 else Cl Tb X N ops.toList ops.toList σ k
theorem Gv {o:Oper} {x:Operand} (h:D5 o = some x):o.op = .next x false∧o.guard = none:=by
 unfold D5 at h
 split at h
 ·next x' hx =>
  cases hg:o.guard with
  | none=>rw [hg] at h;cases h;exact ⟨hx,rfl⟩
  | some g=>rw [hg] at h;cases h
 ·cases h
theorem GK {ops:List Oper} {o:Oper} {x:Operand} {r:List Oper} (h:EE ops = some (o,x,r)):ops = o :: r∧o.op = .next x false∧o.guard = none:=by
 unfold EE at h
 split at h
 ·next o' r' =>
  split at h
  ·next x' hx=>cases h;exact ⟨rfl,Gv hx⟩
  ·cases h
 ·cases h
theorem ln {n:Nat} {l:List Int} {p:Nat}:p∈gF n l↔p < n∧(p:Int) ∉ l:=by
 unfold gF
 rw [List.mem_filter,List.mem_range]
 simp
theorem sK {E:ar} {w:World} {v:Value} {o k i j:Nat} (h:af E w v (.ptr o k i j)):∃ b,v = .pointer (some ⟨b,i*k+j,none⟩)∧E.live o∧E.conc o = some b:=by
 generalize hd:V.ptr o k i j = d at h
 cases h with
 | ptr _ _ _ _ b hn hb hi=>cases hd;exact ⟨b,rfl,hn,hb⟩
 | _=>cases hd
theorem Ll {R:Type} {P:Program} {N:Nat} {B:eL} {σ:St} {E:ar} {a:Act} {w:World} {o:Oper} {x:Operand} {k:St→Option R} {y:R} (ho:o.op = .next x false) (hgu:o.guard = none) (h:wL N σ o x k = some y) (hs:bd N B σ E a w)
  {ops:Array Oper} {i:Nat} (hi:ops[i]? = some o) {K:Act→World→Prop} {Q:Exit→Act→World→Prop} (hK:∀ σ' E' a' w',k σ' = some y→bd N B σ' E' a' w'→K a' w'):wpOp P ops Q i K a w:=by
 unfold wL at h
 cases hd:gg N o.dst with
 | false=>rw [hd] at h;cases h
 | true =>
 rw [hd,cond_true] at h
 split at h
 ·next q kk i0 j0 hop =>
  split at h
  ·next m s l hg =>
   cases hb0:Nat.beq (i0*kk+j0) 0 with
   | false=>rw [hb0] at h;cases h
   | true =>
   rw [hb0,cond_true] at h
   have h0:=Nat.eq_of_beq_eq_true hb0
   split at h
   ·next q2 tm kt vt ks vs hm =>
    cases hkt:kt.key with
    | false=>rw [hkt] at h;cases h
    | true =>
    rw [hkt,cond_true] at h
    obtain ⟨hbs,h⟩:=pj h
    have hks:(ks.length:Int) = s:=by have:=hbs (ak ks.length s) (by simp);simpa [ak] using this
    have hrep:=bX hs (ch:=[]) rfl hop
    obtain ⟨b,hx,hlive,hcb⟩:=sK hrep
    rw [h0] at hx
    obtain ⟨_,hlen,b',bm,sn,seen,c,h1,h2,⟨h3,h5,h6⟩,h4⟩:=hs.heap.at_ _ _ hg
    rw [hcb] at h1;cases h1
    obtain ⟨bm',e1,hl2,hc2,hg2⟩:=fX hs.heap h4 hm
    cases e1
    obtain ⟨_,_,k2,bm',es,clock,g3,g4,g5,g6,g7,g8,g9⟩:=hs.heap.at_ _ _ hg2
    rw [hc2] at g3;cases g3
    have hold:∀ e∈es.toList,e.born < sn:=by
     intro e he
     obtain ⟨p,hp⟩:=List.getElem?_of_mem he
     have hp:es[p]? = some e:=by simpa using hp
     have:=(Array.getElem?_eq_some_iff.1 hp).1
     rw [g9 p e hp];omega
    have hmem:∀ p:Nat,(p:Int)∈l↔p∈seen.toList:=by
     intro p
     rw [← h6,List.mem_map]
     constructor
     ·rintro ⟨q,hq,e⟩
      have:q = p:=by omega
      subst this
      simpa using hq
     ·intro hp;exact ⟨p,by simpa using hp,rfl⟩
    have hmk:∀ (v:Value) (w':World),(Instr.next (.pointer (some ⟨b,0,none⟩)) false o.type).run P w = .ok v w'→K (a.put o.dst v) w'→wpOp P ops Q i K a w:=by
     intro v w' hr hk
     unfold wpOp
     rw [hi]
     simp only
     rw [ky hs (ch:=[]) (by simp [ce,hgu]) rfl,if_pos (by rfl)]
     left
     unfold Oper.wp
     have hrun:(execOp a.eval o).run P w = .ok (.value v) w':=by
      simp only [execOp,ho,hx,Sem.run_bind,hr,Result.andThen_ok]
      rfl
     rw [hrun]
     exact hk
    have hrn:=run_next_at (P:=P) w o.type b bm sn c seen es clock h2 g4 hold (by omega)
    rcases hrn with ⟨hz,hr⟩ | ⟨e,he,w1,hw1,hr⟩
    ·
     have hemp:(gF ks.length l).isEmpty = true:=by
      rw [List.isEmpty_iff]
      refine List.eq_nil_iff_forall_not_mem.2 fun p hp=>?_
      obtain ⟨p1,p2⟩:=ln.1 hp
      have hp':es[p]? = some es[p]:=Array.getElem?_eq_getElem (by omega)
      have:es[p]∈leftOf es seen:=by
       unfold leftOf
       rw [Array.mem_filter]
       refine ⟨by simp, ?_⟩
       rw [g9 p _ hp']
       have:=fun h=>p2 ((hmem p).2 h)
       simpa using this
      have:=Array.size_pos_of_mem this
      omega
     rw [hemp,cond_true] at h
     refine hmk _ _ hr ?_
     have hf:eA E σ.nx:=.of hs.live (Nat.le_refl _)
     have hP:bU E w σ.hp σ.nx A3 (E.next σ.nx none 0 0 E.ok) w (.tuple #[.bool false]):=by
      have hS:cQ E w [] (E.next σ.nx none 0 0 E.ok) w:=ck hf.one none 0 0 E.ok (.refl _ _) (by simp) (fun _ h=>h) (fun _ h=>.inl h)
      exact ⟨hS,cB hf.one hs.heap (.refl _ _) (by simp) (fun _ h=>h) (fun _ h=>.inl h) hs.heap.oklt, .tup [.bool false] [bl false] rfl (fun i v d hv hd=>by
       match i,hv,hd with
       | 0,hv,hd=>cases hv;cases hd;exact .lit _),bA⟩
     exact hK _ _ _ _ h (qQ (rc:=H1 σ o (.ptr q kk i0 j0) A3) hs (Nat.le_add_right _ _) (Nat.le_refl _) hP rfl hd (.inl rfl))
    ·
     unfold leftOf at he
     have he:=Array.mem_filter.1 (Array.mem_toList_iff.1 he)
     obtain ⟨p,hp⟩:=Array.getElem?_of_mem he.1
     have hplt:p < es.size:=(Array.getElem?_eq_some_iff.1 hp).1
     have hborn:=g9 p e hp
     have hns:(p:Int) ∉ l:=by
      rw [hmem, ← hborn]
      have:=he.2
      simpa using this
     have hpl:p∈gF ks.length l:=ln.2 ⟨by omega,hns⟩
     have hemp:(gF ks.length l).isEmpty = false:=by
      cases hh:gF ks.length l with
      | nil=>rw [hh] at hpl;simp at hpl
      | cons=>rfl
     rw [hemp,cond_false] at h
     have hkp:=(pb h).2 p hpl
     have hs1:bd N B σ E a w1:=by
      rcases hw1 with rfl | rfl
      ·exact hs
      ·exact hs.drawn _
     have hheap:w1.heap = w.heap:=by rcases hw1 with rfl | rfl <;> rfl
     refine hmk _ _ hr ?_
     have hf:eA E σ.nx:=.of hs.live (Nat.le_refl _)
     obtain ⟨a1,a2⟩:=g7 p e hp
     have hclk:clock = sn:=by omega
     have hP:bU E w1 σ.hp σ.nx (Bw q m s l kt vt ks vs p) (E.next σ.nx none 0 0 E.ok) (dv w1 b (.mapIter (some bm) sn (seen.push e.born) clock)) (.tuple #[.bool true,e.key,e.val]):=by
      refine qg hs1.heap hf.one hlive hcb _ rfl rfl (fun E' c1 c2 c3 hr hd=>?_) fun hr=>?_
      ·refine ⟨c3.trans hlen,b,bm,sn,seen.push e.born,clock,c1,nE _ (by rw [hheap];exact dP h2),⟨hclk,h5, ?_⟩,hr _ _ ?_⟩
       ·rw [Array.toList_push,List.reverse_append,List.map_append,h6,hborn];rfl
       ·rcases hw1 with rfl | rfl
        ·exact h4
        ·exact (hs.drawn (w.drawn+1)).heap.at_ _ _ hg |>.2.2.elim fun b2 hb2=>by
          obtain ⟨bm2,sn2,seen2,c2,q1,q2,q3,q4⟩:=hb2
          have q2':w.heap[b2]? = some (.mapIter (some bm2) sn2 seen2 c2):=q2
          rw [hcb] at q1;cases q1
          rw [h2] at q2'; cases q2'
          exact q4
      ·have ev:af E w1 e.val (encV vt (gD vs p vt.z)):=by
        rcases hw1 with rfl | rfl
        ·exact a2.rep
        ·have hx2:=(hs.drawn (w.drawn+1)).heap.at_ _ _ hg2
         obtain ⟨_,_,_,bm2,es2,clock2,q3,q4,_,_,q7,_⟩:=hx2
         have q4':w.heap[bm2]? = some (.map es2 clock2):=q4
         rw [hc2] at q3;cases q3
         rw [g4] at q4'; cases q4'
         exact (q7 p e hp).2.rep
       refine .tup [.bool true,e.key,e.val] _ rfl fun i v d hv hd=>?_
       match i,hv,hd with
       | 0,hv,hd=>cases hv;cases hd;exact .lit _
       | 1,hv,hd=>cases hv;cases hd;rw [a1];exact Eb hkt _
       | 2,hv,hd=>cases hv;cases hd;exact hr _ _ ev
     exact hK _ _ _ _ hkp (qQ (rc:=H1 σ o (.ptr q kk i0 j0) (Bw q m s l kt vt ks vs p)) hs1 (Nat.le_add_right _ _) (Nat.le_refl _) hP rfl hd (.inl rfl))
   ·cases h
  ·cases h
 ·cases h
theorem bh.of_wp {P:Program} {N:Nat} {c:Code} {K:Exit→St→Prop} {σ:St} (h:∀ (B:eL) (E:ar) (a:Act) (w:World),bd N B σ E a w→c.wp P (KS N B K) a w):bh P N c K σ:=⟨h⟩
theorem Mr {R:Type} {Tb:iE} {X:XT} {N:Nat} {id:Nat} {ops:Array Oper} {dr:Bool} {σ:St} {k:St→Option R} {y:R} (hm:Tb.P.follows .mixedOrders = true) (hC:∀ f,bq Tb.P f (dN Tb X f))
  (h:Fx Tb X N ops dr σ k = some y):bh Tb.P N (.region id ops dr) (fun e σ'=>e = .normal∧k σ' = some y) σ:=by
 have hM:∀ f con,(fun f=>some (dN Tb X f)) f = some con→bq Tb.P f con:=by
  intro f con hc
  cases hc
  exact hC f
 refine .of_wp fun B E a w hs=>?_
 unfold Fx at h
 cases dr with
 | true =>
  rw [cond_true] at h
  obtain ⟨rs,σ',a1,a3⟩:=CA h _ fun _=>rfl
  rw [List.nil_append] at a3
  cases hc:(mQ 0 ops.toList&&su (wT ops.toList []) [] rs) with
  | false=>rw [hc] at a3;cases a3
  | true =>
   rw [hc,cond_true] at a3
   rw [Bool.and_eq_true] at hc
   exact Bj hm hM a1 hc.1 hc.2 hs fun E' a' w' hs'=>⟨σ',E',⟨rfl,a3⟩,hs'⟩
 | false =>
  rw [cond_false] at h
  split at h
  ·next o x r hno =>
   obtain ⟨e1,e2,e3⟩:=GK hno
   refine wp_region ?_
   rw [List.range_eq_range',show ops.size = r.length+1 by rw [← Array.length_toList,e1];rfl,List.range'_succ,wpOps_cons]
   have hi:ops[0]? = some o:=by rw [← Array.getElem?_toList,e1];rfl
   refine Ll e2 e3 h hs hi fun σ1 E1 a1 w1 hk hs1=>?_
   obtain ⟨σ',a1',a3⟩:=yy hk _ fun _=>rfl
   exact yS hM r 1 σ1 σ' E1 a1 w1 (by rw [e1];rfl) a1' hs1 fun E' a' w' hs'=>⟨σ',E',⟨rfl,a3⟩,hs'⟩
  next hno =>
  cases he:(ops.toList.any fun o=>o.guard.isSome&&Na o) with
  | true =>
   rw [he,cond_true] at h
   exact HQ hM (CJ h) hs fun σ' E' a' w' hk hs'=>⟨σ',E',⟨rfl,hk⟩,hs'⟩
  | false =>
   rw [he,cond_false] at h
   obtain ⟨σ',a1,a3⟩:=yy h _ fun _=>rfl
   exact J3 hM a1 hs fun E' a' w' hs'=>⟨σ',E',⟨rfl,a3⟩,hs'⟩
abbrev KX (R:Type):=Exit→St→Option R
def nU {R:Type} (id:Nat) (κ:KX R):KX R
 | .exit id',σ=>bif Nat.beq id' id then κ .normal σ else κ (.exit id') σ
 | e,σ=>κ e σ
def ka {R:Type} (Jc:(T:Tm)→HP T.tys→Option R) (T:Tm) (σ:St):Option R:=(sI T σ).bind (Jc T)
def DV {R:Type} (J:(π:Nat)→(T:Tm)→HP T.tys→Option R) (cuts:List (Nat × Tm)) (π:Nat) (go:St→Option R) (κ:KX R):KX R
 | .normal,σ=>match bK cuts π with | some T=>ka (J π) T σ | none=>go σ
 | e,σ=>κ e σ
def wM {R:Type} (J:(π:Nat)→(T:Tm)→HP T.tys→Option R) (cuts:List (Nat × Tm)) (π:Nat) (κ:KX R):KX R
 | .normal,σ=>match bK cuts π with | some T=>ka (J π) T σ | none=>none
 | e,σ=>κ e σ
section
variable {R:Type} (Tb:iE) (X:XT) (N:Nat) (J:(π:Nat)→(T:Tm)→HP T.tys→Option R) (cuts:List (Nat × Tm)) (hd:List (Nat × zN))
noncomputable def xe:Code→Nat→KX R→St→Option R
 | .skip,_,κ,σ=>κ .normal σ
 | .label _,_,κ,σ=>κ .normal σ
 | .region _ ops dr,_,κ,σ=>Fx Tb X N ops dr σ (κ .normal)
 | .seq x y,π,κ,σ=>match bK hd π with
  | some h=>((sI h.T σ).bind h.f).bind fun y=>κ .normal (mq h.T' y)
  | none=>xe x (2*π) (DV J cuts (2*π+1) (xe y (2*π+1) κ) κ) σ
 | .cond c x y,π,κ,σ=>match bC σ [] c with
  | some (.c (.lit (.bool b)))=>bif b then xe x (2*π) κ σ else xe y (2*π+1) κ σ
  | _=>none
 | .block id x,π,κ,σ=>match bK hd π with
  | some h=>((sI h.T σ).bind h.f).bind fun y=>κ .normal (mq h.T' y)
  | none=>xe x (2*π) (nU id κ) σ
 | .exit id,_,κ,σ=>κ (.exit id) σ
 | .ret,_,κ,σ=>κ .ret σ
 | .loop _,π,_,σ=>match bK cuts π with | some T=>ka (J π) T σ | none=>none
 | _,_,_,_=>none
noncomputable def xm:List Bool→Code→Nat→KX R→Option (St→Option R)
 | [], .loop x,π,κ=>some (xe Tb X N J cuts hd x (2*π) (wM J cuts π κ))
 | [],c,π,κ=>some (xe Tb X N J cuts hd c π κ)
 | true :: r, .seq _ y,π,κ=>xm r y (2*π+1) κ
 | false :: r, .seq x y,π,κ=>xm r x (2*π) (DV J cuts (2*π+1) (xe Tb X N J cuts hd y (2*π+1) κ) κ)
 | true :: r, .cond _ _ y,π,κ=>xm r y (2*π+1) κ
 | false :: r, .cond _ x _,π,κ=>xm r x (2*π) κ
 | false :: r, .block id x,π,κ=>xm r x (2*π) (nU id κ)
 | false :: r, .loop x,π,κ=>xm r x (2*π) (wM J cuts π κ)
 | _,_,_,_=>none
end
def iG (π:Nat):List Bool:=((List.range (Nat.log2 π)).map fun i=>Nat.testBit π i).reverse
def cq.rdR (o:cq) (σ:St) (v:V):Option (HP o.tys):=bif o.isGen then o.rdG σ v else o.rd σ.hp v
def vM (P:Program) (σ:St):List ResultVar→List Bool
 | []=>[]
 | .tmp _ :: r=>vM P σ r
 | .cell s T :: r=>(match bC σ [] (.tmp s) with | some x=>(match mi P σ.hp T x with | some q=>q.dec.bools | none=>[]) | none=>[])++vM P σ r
theorem tW {P:Program} {σ:St}:∀ {rs:List ResultVar},(∀ b∈vM P σ rs,b = true)→∀ x∈rs,vK P σ x
 | [],_,x,hx=>by simp at hx
 | .tmp t :: r,h,x,hx=>by
  rcases List.mem_cons.1 hx with rfl | hx
  ·trivial
  ·exact tW (rs:=r) h x hx
 | .cell s T :: r,h,x,hx=>by
  rcases List.mem_cons.1 hx with rfl | hx
  ·intro y q h1 h2
   refine qJ q.dec fun b hb=>h b ?_
   rw [vM,h1]
   simp only [h2]
   exact List.mem_append_left _ hb
  ·exact tW (rs:=r) (fun b hb=>h b (List.mem_append_right _ hb)) x hx
def wo (P:Program) (fi:FI):KX (HP fi.out.tys)
 | .ret,σ=>(match kP P σ fi.fn.results.toList with | some v=>gL (vM P σ fi.fn.results.toList) (fi.out.rdR σ v) | none=>none)
 | .normal,σ=>(match kP P σ fi.fn.results.toList with | some v=>gL (vM P σ fi.fn.results.toList) (fi.out.rdR σ v) | none=>none)
 | _,_=>none
def DI (fi:FI):Bool:=(fi.out.isGen||Nat.ble fi.ins.sl.length fi.fn.ntmps)&&Nat.ble fi.fn.ntmps 1000000
def Lj {R:Type} (b:Option (St→Option R)) (σ:St):Option R:=match b with | some go=>go σ | none=>none
noncomputable def wW (Tb:iE) (J:JT) (fi:FI) (π:Nat) (T:Tm) (s:HP T.tys):Option (HP fi.out.tys) :=
 bif DI fi then Lj (xm Tb (fun fi a=>J fi 1 fi.ins a) fi.fn.ntmps (J fi) fi.cuts fi.hd (iG π) fi.c 1 (wo Tb.P fi)) (mq T s) else none
noncomputable def Jn (Tb:iE):Nat→JT
 | 0=>fun _ _ _ _=>none
 | n+1=>fun fi π T s=>wW Tb (Jn Tb n) fi π T s
end Go.Ax
