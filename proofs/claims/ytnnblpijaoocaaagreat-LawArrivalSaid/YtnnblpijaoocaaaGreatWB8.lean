import Derived.Test.YtnnblpijaoocaaaGreatWB7
set_option linter.all false
/- Regions, code, functions: the evaluation is sound. -/
namespace Go.Ax
open Go.RowKit
section
variable {R:Type} (Tb:iW) (X:XT) (N:Nat) (all:List Oper)
def Fc:List Oper→St→List FuncId→List FuncId→(St→Option R)→Option R
 | [],σ,_,_,k=>k { σ with tm:=m5 σ.tm }
 | o :: r,σ,fT,fF,k=>FN Tb X N all σ σ.nx o fT fF fun σ rc fT fF=>Fc r { after σ rc with nx:=σ.nx+8 } fT fF k
def AC:List Oper→Nat→St→List FuncId→List FuncId→List bY→(List bY→St→Option R)→Option R
 | [],_,σ,_,_,rcs,k=>k rcs { σ with tm:=m5 σ.tm }
 | o :: r,nid,σ,fT,fF,rcs,k=>FN Tb X N all σ nid o fT fF fun σ rc fT fF=>AC r (nid+8) (after σ rc) fT fF (rcs++[rc]) k
def vJ (σ:St) (o:Oper) (k:St→Option R):Option R:=FN Tb X N all σ σ.nx { o with guard:=none } [] [] fun σ rc _ _=>k { after σ rc with nx:=σ.nx+8 }
def wd (σ:St) (o:Oper) (ch:aI) (k:St→Option R):Option R :=
 bif iq N o.dst&&fJ o.dst ch then k { after σ (EF o ch σ.nx) with nx:=σ.nx+8 } else none
def lX:List Oper→St→(St→Option R)→Option R
 | [],σ,k=>k { σ with tm:=m5 σ.tm }
 | o :: r,σ,k=>match o.guard with
  | none=>vJ Tb X N all σ o fun σ'=>lX r σ' k
  | some g =>
   match dB all σ.tm (some g) with
   | some ((t,w) :: ch)=>bif ((t,w) :: ch).all (fun x=>fg σ.tm ((t,w) :: ch) x.1) then
     (match ap σ.tm t with
     | some ⟨c0, .c (.lit (.bool b))⟩ =>
      bif holds σ.tm ch then
       (bif b then
        (bif w then vJ Tb X N all { σ with tm:=gq σ.tm t ⟨c0,bl true⟩ } o fun σ'=>lX r σ' k
        else wd N { σ with tm:=gq σ.tm t ⟨c0,bl true⟩ } o ((t,w) :: ch) fun σ'=>lX r σ' k)
       else
        (bif w then wd N { σ with tm:=gq σ.tm t ⟨c0,bl false⟩ } o ((t,w) :: ch) fun σ'=>lX r σ' k
        else vJ Tb X N all { σ with tm:=gq σ.tm t ⟨c0,bl false⟩ } o fun σ'=>lX r σ' k))
      else wd N σ o ((t,w) :: ch) fun σ'=>lX r σ' k
     | _=>none) else none
   | _=>none
end
open Classical in
noncomputable def rV {R:Type} (l:List Nat) (f:Nat→Option R):Option R:=if h:∃ r,l≠[]∧∀ p∈l,f p = some r then some h.choose else none
theorem pK {R:Type} {l:List Nat} {f:Nat→Option R} {r:R} (h:rV l f = some r):l≠[]∧∀ p∈l,f p = some r:=by
 unfold rV at h
 split at h
 ·next hh=>cases h;exact hh.choose_spec
 ·cases h
theorem vS {R:Type} {l:List Nat} {f:Nat→Option R} {r:R} (hl:l≠[]) (h:∀ p∈l,f p = some r):rV l f = some r:=by
 have hh:∃ r,l≠[]∧∀ p∈l,f p = some r:=⟨r,hl,h⟩
 unfold rV
 rw [dif_pos hh]
 obtain ⟨p,hp⟩:=List.exists_mem_of_ne_nil l hl
 have h1:=hh.choose_spec.2 p hp
 rw [h p hp] at h1
 exact h1.symm
def ip (n:Nat) (l:List Int):List Nat:=(List.range n).filter fun p=>!(l.contains (p:Int))
def Lm (σ:St) (o:Oper) (v:V) (r:av):bY:={ dst:=o.dst,rds:=[],ch:=[],nid:=σ.nx,vs:=[v],reach:=[],rws:=(true,[]),res:=r }
def DO (q:Nat) (m:V) (s:Int) (l:List Int) (kt vt:Ty) (ks:List kt.T) (vs:List vt.T) (p:Nat):av:={ val:=.tup [bl true,encV kt (gD ks p kt.z),encV vt (gD vs p vt.z)],eff:=[(q,some (.iter m s ((p:Int) :: l)))] }
def Dv:av:={ val:=.tup [bl false] }
noncomputable def zh {R:Type} (N:Nat) (σ:St) (o:Oper) (x:Operand) (k:St→Option R):Option R :=
 bif iq N o.dst then (match bA σ [] x with
 | some (.ptr q kk i j)=>(match ae.get σ.hp q with
  | some (.iter m s l)=>bif Nat.beq (i*kk+j) 0 then (match lK σ.hp m with
   | some (_, .map _ kt vt ks vs)=>bif kt.key then gL [af ks.length s] (bif (ip ks.length l).isEmpty then k { after σ (Lm σ o (.ptr q kk i j) Dv) with nx:=σ.nx+8 }
     else rV (ip ks.length l) fun p=>k { after σ (Lm σ o (.ptr q kk i j) (DO q m s l kt vt ks vs p)) with nx:=σ.nx+8 }) else none
   | _=>none) else none
  | _=>none)
 | _=>none) else none
def IX (o:Oper):Option Operand:=match o.op with | .next x false=>bif o.guard.isNone then some x else none | _=>none
def Jh (ops:List Oper):Option (Oper × Operand × List Oper):=match ops with
 | o :: r=>(match IX o with | some x=>some (o,x,r) | none=>none)
 | []=>none
section
variable {R:Type} {Tb:iW} {X:XT} {N:Nat} {all:List Oper} {y:R}
theorem AA:∀ {l:List Oper} {σ:St} {fT fF:List FuncId} {k:St→Option R},Fc Tb X N all l σ fT fF k = some y→(∀ f∈fT,f ∉ fF) →
  ∃ Tf Ff:List FuncId,(∀ f∈fT,f∈Tf)∧(∀ f∈fF,f∈Ff)∧(∀ f∈Tf,f ∉ Ff)∧∀ Ff':List FuncId,(∀ f∈Ff,f∈Ff')→(∀ f∈Tf,f ∉ Ff') →
   ∃ ps σ',lJ Tb.P (mK (et Tb X) Ff') N all l σ = some (ps,σ')∧(∀ p∈ps,p)∧k σ' = some y
 | [],σ,fT,fF,k,h,hd=>⟨fT,fF,fun _ h=>h,fun _ h=>h,hd,fun _ _ _=>⟨[],_,rfl,fun p hp=>by simp at hp,h⟩⟩
 | o :: l,σ,fT,fF,k,h,hd=>by
  unfold Fc at h
  obtain ⟨rc,fT',fF',h1,h2,h3,h4,_,h5⟩:=A2 h
  obtain ⟨Tf,Ff,g1,g2,g3,g4⟩:=AA h1 (h4 hd)
  refine ⟨Tf,Ff,fun f hf=>g1 f (h2 f hf),fun f hf=>g2 f (h3 f hf),g3,fun Ff' e1 e2=>?_⟩
  obtain ⟨ps,σ',a1,a2,a3⟩:=g4 Ff' e1 e2
  obtain ⟨b1,b2⟩:=h5 Ff' (fun f hf=>e1 f (g2 f hf)) fun f hf=>e2 f (g1 f hf)
  refine ⟨jo σ.tm rc.ch rc.res.pre++ps,σ', ?_,fun p hp=>?_,a3⟩
  ·rw [lJ,b1]
   simp only [a1]
  ·rcases List.mem_append.1 hp with hp | hp
   ·exact b2 p hp
   ·exact a2 p hp
theorem FQ:∀ {l:List Oper} {nid:Nat} {σ:St} {fT fF:List FuncId} {rcs:List bY} {k:List bY→St→Option R},AC Tb X N all l nid σ fT fF rcs k = some y→(∀ f∈fT,f ∉ fF) →
  ∃ Tf Ff:List FuncId,(∀ f∈fT,f∈Tf)∧(∀ f∈fF,f∈Ff)∧(∀ f∈Tf,f ∉ Ff)∧∀ Ff':List FuncId,(∀ f∈Ff,f∈Ff')→(∀ f∈Tf,f ∉ Ff') →
   ∃ ps rs σ',GY Tb.P (mK (et Tb X) Ff') N all l nid σ = some (ps,rs,σ')∧(∀ p∈ps,p)∧k (rcs++rs) σ' = some y
 | [],nid,σ,fT,fF,rcs,k,h,hd=>⟨fT,fF,fun _ h=>h,fun _ h=>h,hd,fun _ _ _=>⟨[],[],_,rfl,fun p hp=>by simp at hp,by rw [List.append_nil];exact h⟩⟩
 | o :: l,nid,σ,fT,fF,rcs,k,h,hd=>by
  unfold AC at h
  obtain ⟨rc,fT',fF',h1,h2,h3,h4,_,h5⟩:=A2 h
  obtain ⟨Tf,Ff,g1,g2,g3,g4⟩:=FQ h1 (h4 hd)
  refine ⟨Tf,Ff,fun f hf=>g1 f (h2 f hf),fun f hf=>g2 f (h3 f hf),g3,fun Ff' e1 e2=>?_⟩
  obtain ⟨ps,rs,σ',a1,a2,a3⟩:=g4 Ff' e1 e2
  obtain ⟨b1,b2⟩:=h5 Ff' (fun f hf=>e1 f (g2 f hf)) fun f hf=>e2 f (g1 f hf)
  refine ⟨jo σ.tm rc.ch rc.res.pre++ps,rc :: rs,σ', ?_,fun p hp=>?_,by rw [List.append_assoc] at a3;exact a3⟩
  ·rw [GY,b1]
   simp only [a1]
  ·rcases List.mem_append.1 hp with hp | hp
   ·exact b2 p hp
   ·exact a2 p hp
theorem CT:∀ {ps:List Prop} {K:Prop},(∀ p∈ps,p)→K→Ds ps K
 | [],_,_,h=>h
 | p :: ps,_,hp,h=>⟨hp p (by simp),CT (fun q hq=>hp q (by simp [hq])) h⟩
theorem uL {σ:St} {o:Oper} {k:St→Option R} (h:vJ Tb X N all σ o k = some y):oh Tb.P (mK (et Tb X) []) N all σ o fun σ'=>k σ' = some y:=by
 unfold vJ at h
 obtain ⟨rc,fT',fF',h1,_,_,h4,h6,h5⟩:=A2 h
 have hF:=h6 rfl
 subst hF
 obtain ⟨h7,h8⟩:=h5 [] (fun f hf=>hf) fun f _=>by simp
 have hch:rc.ch = []:=by
  obtain ⟨_,e,_⟩:=fM h7
  simpa [dB] using e.symm
 unfold oh
 rw [h7]
 refine CT (fun p hp=>?_) h1
 have:=h8 p
 rw [hch] at this
 exact this hp
theorem v7 {σ:St} {o:Oper} {ch:aI} {k:St→Option R} (h:wd N σ o ch k = some y):n9 N σ o ch fun σ'=>k σ' = some y:=by
 unfold wd at h
 unfold n9
 cases hc:(iq N o.dst&&fJ o.dst ch) with
 | false=>rw [hc] at h;cases h
 | true=>rw [hc] at h;exact h
theorem Fq:∀ {l:List Oper} {σ:St} {k:St→Option R},lX Tb X N all l σ k = some y→sG Tb.P (mK (et Tb X) []) N all l σ fun σ'=>k σ' = some y
 | [],σ,k,h=>h
 | o :: l,σ,k,h=>by
  unfold lX at h
  unfold sG
  have rec_:∀ σ',lX Tb X N all l σ' k = some y→sG Tb.P (mK (et Tb X) []) N all l σ' fun σ'=>k σ' = some y:=fun σ' h=>Fq h
  split at h
  ·next hg =>
   rw [hg]
   exact vY rec_ (uL h)
  ·next g hg =>
   rw [hg]
   simp only
   split at h
   ·next t w ch hch =>
    rw [hch]
    simp only
    cases ha:(((t,w) :: ch).all fun x=>fg σ.tm ((t,w) :: ch) x.1) with
    | false=>rw [ha] at h;cases h
    | true =>
     rw [ha,cond_true] at h
     rw [cond_true]
     split at h
     ·next c0 b hgt =>
      rw [hgt]
      simp only
      cases hh:holds σ.tm ch with
      | false=>rw [hh,cond_false] at h;exact vF rec_ (v7 h)
      | true =>
       rw [hh,cond_true] at h
       rw [cond_true]
       cases b with
       | true =>
        cases w with
        | true=>exact vY rec_ (uL h)
        | false=>exact vF rec_ (v7 h)
       | false =>
        cases w with
        | true=>exact vF rec_ (v7 h)
        | false=>exact vY rec_ (uL h)
     ·cases h
   ·cases h
end
def Q8 (o:Oper):Bool:=match o.op with
 | .alloc _=>true
 | .box _ _=>true
 | .store ..=>true
 | .buildSlice ..=>true
 | .makeSlice ..=>true
 | .makeMap ..=>true
 | .mapUpdate ..=>true
 | .range ..=>true
 | .next ..=>true
 | .call { callee:=.builtin .append, .. }=>true
 | .call { callee:=.builtin .clear, .. }=>true
 | .call { callee:=.value _, .. }=>true
 | _=>false
noncomputable def o9 {R:Type} (Tb:iW) (X:XT) (N:Nat) (ops:Array Oper) (dr:Bool) (σ:St) (k:St→Option R):Option R :=
 bif dr then AC Tb X N ops.toList ops.toList σ.nx { σ with nx:=σ.nx+8*ops.toList.length } [] [] [] fun rcs σ'=>bif nF 0 ops.toList&&tE (zj ops.toList []) [] rcs then k σ' else none
 else match Jh ops.toList with
 | some (o,x,r)=>zh N σ o x fun σ'=>Fc Tb X N ops.toList r σ' [] [] k
 | none=>bif ops.toList.any fun o=>o.guard.isSome&&Q8 o then lX Tb X N ops.toList ops.toList σ k
 else Fc Tb X N ops.toList ops.toList σ [] [] k
theorem Jm {o:Oper} {x:Operand} (h:IX o = some x):o.op = .next x false∧o.guard = none:=by
 unfold IX at h
 split at h
 ·next x' hx =>
  cases hg:o.guard with
  | none=>rw [hg] at h;cases h;exact ⟨hx,rfl⟩
  | some g=>rw [hg] at h;cases h
 ·cases h
theorem JG {ops:List Oper} {o:Oper} {x:Operand} {r:List Oper} (h:Jh ops = some (o,x,r)):ops = o :: r∧o.op = .next x false∧o.guard = none:=by
 unfold Jh at h
 split at h
 ·next o' r' =>
  split at h
  ·next x' hx=>cases h;exact ⟨rfl,Jm hx⟩
  ·cases h
 ·cases h
theorem oK {n:Nat} {l:List Int} {p:Nat}:p∈ip n l↔p < n∧(p:Int) ∉ l:=by
 unfold ip
 rw [List.mem_filter,List.mem_range]
 simp
theorem pZ {E:an} {w:World} {v:Value} {o k i j:Nat} (h:ai E w v (.ptr o k i j)):∃ b,v = .pointer (some ⟨b,i*k+j,none⟩)∧E.live o∧E.conc o = some b:=by
 generalize hd:V.ptr o k i j = d at h
 cases h with
 | ptr _ _ _ _ b hn hb hi=>cases hd;exact ⟨b,rfl,hn,hb⟩
 | _=>cases hd
theorem Oo {R:Type} {P:Program} {N:Nat} {B:dT} {σ:St} {E:an} {a:Act} {w:World} {o:Oper} {x:Operand} {k:St→Option R} {y:R} (ho:o.op = .next x false) (hgu:o.guard = none) (h:zh N σ o x k = some y) (hs:aP N B σ E a w)
  {ops:Array Oper} {i:Nat} (hi:ops[i]? = some o) {K:Act→World→Prop} {Q:Exit→Act→World→Prop} (hK:∀ σ' E' a' w',k σ' = some y→aP N B σ' E' a' w'→K a' w'):wpOp P ops Q i K a w:=by
 unfold zh at h
 cases hd:iq N o.dst with
 | false=>rw [hd] at h;cases h
 | true =>
 rw [hd,cond_true] at h
 split at h
 ·next q kk i0 j0 hop =>
  split at h
  ·next m s l hg =>
   cases hb0:Nat.beq (i0*kk+j0) 0 with
   | false=>rw [hb0] at h;cases h
   | true =>
   rw [hb0,cond_true] at h
   have h0:=Nat.eq_of_beq_eq_true hb0
   split at h
   ·next q2 tm kt vt ks vs hm =>
    cases hkt:kt.key with
    | false=>rw [hkt] at h;cases h
    | true =>
    rw [hkt,cond_true] at h
    obtain ⟨hbs,h⟩:=pX h
    have hks:(ks.length:Int) = s:=by have:=hbs (af ks.length s) (by simp);simpa [af] using this
    have hrep:=bn hs (ch:=[]) rfl hop
    obtain ⟨b,hx,hlive,hcb⟩:=pZ hrep
    rw [h0] at hx
    obtain ⟨_,hlen,b',bm,sn,seen,c,h1,h2,⟨h3,h5,h6⟩,h4⟩:=hs.heap.at_ _ _ hg
    rw [hcb] at h1;cases h1
    obtain ⟨bm',e1,hl2,hc2,hg2⟩:=ii hs.heap h4 hm
    cases e1
    obtain ⟨_,_,k2,bm',es,clock,g3,g4,g5,g6,g7,g8,g9⟩:=hs.heap.at_ _ _ hg2
    rw [hc2] at g3;cases g3
    have hold:∀ e∈es.toList,e.born < sn:=by
     intro e he
     obtain ⟨p,hp⟩:=List.getElem?_of_mem he
     have hp:es[p]? = some e:=by simpa using hp
     have:=(Array.getElem?_eq_some_iff.1 hp).1
     rw [g9 p e hp];omega
    have hmem:∀ p:Nat,(p:Int)∈l↔p∈seen.toList:=by
     intro p
     rw [← h6,List.mem_map]
     constructor
     ·rintro ⟨q,hq,e⟩
      have:q = p:=by omega
      subst this
      simpa using hq
     ·intro hp;exact ⟨p,by simpa using hp,rfl⟩
    have hmk:∀ (v:Value) (w':World),(Instr.next (.pointer (some ⟨b,0,none⟩)) false o.type).run P w = .ok v w'→K (a.put o.dst v) w'→wpOp P ops Q i K a w:=by
     intro v w' hr hk
     unfold wpOp
     rw [hi]
     simp only
     rw [oq hs (ch:=[]) (by simp [dB,hgu]) rfl,if_pos (by rfl)]
     left
     unfold Oper.wp
     have hrun:(execOp a.eval o).run P w = .ok (.value v) w':=by
      simp only [execOp,ho,hx,Sem.run_bind,hr,Result.andThen_ok]
      rfl
     rw [hrun]
     exact hk
    have hrn:=run_next_at (P:=P) w o.type b bm sn c seen es clock h2 g4 hold (by omega)
    rcases hrn with ⟨hz,hr⟩ | ⟨e,he,w1,hw1,hr⟩
    ·
     have hemp:(ip ks.length l).isEmpty = true:=by
      rw [List.isEmpty_iff]
      refine List.eq_nil_iff_forall_not_mem.2 fun p hp=>?_
      obtain ⟨p1,p2⟩:=oK.1 hp
      have hp':es[p]? = some es[p]:=Array.getElem?_eq_getElem (by omega)
      have:es[p]∈leftOf es seen:=by
       unfold leftOf
       rw [Array.mem_filter]
       refine ⟨by simp, ?_⟩
       rw [g9 p _ hp']
       have:=fun h=>p2 ((hmem p).2 h)
       simpa using this
      have:=Array.size_pos_of_mem this
      omega
     rw [hemp,cond_true] at h
     refine hmk _ _ hr ?_
     have hf:fy E σ.nx:=.of hs.live (Nat.le_refl _)
     have hP:co E w σ.hp σ.nx Dv (E.next σ.nx none 0 0 E.ok) w (.tuple #[.bool false]):=by
      have hS:dc E w [] (E.next σ.nx none 0 0 E.ok) w:=cw hf.one none 0 0 E.ok (.refl _ _) (by simp) (fun _ h=>h) (fun _ h=>.inl h)
      exact ⟨hS,cI hf.one hs.heap (.refl _ _) (by simp) (fun _ h=>h) (fun _ h=>.inl h) hs.heap.oklt, .tup [.bool false] [bl false] rfl (fun i v d hv hd=>by
       match i,hv,hd with
       | 0,hv,hd=>cases hv;cases hd;exact .lit _),bC⟩
     exact hK _ _ _ _ h (rL (rc:=Lm σ o (.ptr q kk i0 j0) Dv) hs (Nat.le_add_right _ _) (Nat.le_refl _) hP rfl hd (.inl rfl))
    ·
     unfold leftOf at he
     have he:=Array.mem_filter.1 (Array.mem_toList_iff.1 he)
     obtain ⟨p,hp⟩:=Array.getElem?_of_mem he.1
     have hplt:p < es.size:=(Array.getElem?_eq_some_iff.1 hp).1
     have hborn:=g9 p e hp
     have hns:(p:Int) ∉ l:=by
      rw [hmem, ← hborn]
      have:=he.2
      simpa using this
     have hpl:p∈ip ks.length l:=oK.2 ⟨by omega,hns⟩
     have hemp:(ip ks.length l).isEmpty = false:=by
      cases hh:ip ks.length l with
      | nil=>rw [hh] at hpl;simp at hpl
      | cons=>rfl
     rw [hemp,cond_false] at h
     have hkp:=(pK h).2 p hpl
     have hs1:aP N B σ E a w1:=by
      rcases hw1 with rfl | rfl
      ·exact hs
      ·exact hs.drawn _
     have hheap:w1.heap = w.heap:=by rcases hw1 with rfl | rfl <;> rfl
     refine hmk _ _ hr ?_
     have hf:fy E σ.nx:=.of hs.live (Nat.le_refl _)
     obtain ⟨a1,a2⟩:=g7 p e hp
     have hclk:clock = sn:=by omega
     have hP:co E w1 σ.hp σ.nx (DO q m s l kt vt ks vs p) (E.next σ.nx none 0 0 E.ok) (dO w1 b (.mapIter (some bm) sn (seen.push e.born) clock)) (.tuple #[.bool true,e.key,e.val]):=by
      refine qT hs1.heap hf.one hlive hcb _ rfl rfl (fun E' c1 c2 c3 hr hd=>?_) fun hr=>?_
      ·refine ⟨c3.trans hlen,b,bm,sn,seen.push e.born,clock,c1,oX _ (by rw [hheap];exact dt h2),⟨hclk,h5, ?_⟩,hr _ _ ?_⟩
       ·rw [Array.toList_push,List.reverse_append,List.map_append,h6,hborn];rfl
       ·rcases hw1 with rfl | rfl
        ·exact h4
        ·exact (hs.drawn (w.drawn+1)).heap.at_ _ _ hg |>.2.2.elim fun b2 hb2=>by
          obtain ⟨bm2,sn2,seen2,c2,q1,q2,q3,q4⟩:=hb2
          have q2':w.heap[b2]? = some (.mapIter (some bm2) sn2 seen2 c2):=q2
          rw [hcb] at q1;cases q1
          rw [h2] at q2'; cases q2'
          exact q4
      ·have ev:ai E w1 e.val (encV vt (gD vs p vt.z)):=by
        rcases hw1 with rfl | rfl
        ·exact a2.rep
        ·have hx2:=(hs.drawn (w.drawn+1)).heap.at_ _ _ hg2
         obtain ⟨_,_,_,bm2,es2,clock2,q3,q4,_,_,q7,_⟩:=hx2
         have q4':w.heap[bm2]? = some (.map es2 clock2):=q4
         rw [hc2] at q3;cases q3
         rw [g4] at q4'; cases q4'
         exact (q7 p e hp).2.rep
       refine .tup [.bool true,e.key,e.val] _ rfl fun i v d hv hd=>?_
       match i,hv,hd with
       | 0,hv,hd=>cases hv;cases hd;exact .lit _
       | 1,hv,hd=>cases hv;cases hd;rw [a1];exact Ia hkt _
       | 2,hv,hd=>cases hv;cases hd;exact hr _ _ ev
     exact hK _ _ _ _ hkp (rL (rc:=Lm σ o (.ptr q kk i0 j0) (DO q m s l kt vt ks vs p)) hs1 (Nat.le_add_right _ _) (Nat.le_refl _) hP rfl hd (.inl rfl))
   ·cases h
  ·cases h
 ·cases h
theorem bf.of_wp {P:Program} {N:Nat} {c:Code} {K:Exit→St→Prop} {σ:St} (h:∀ (B:dT) (E:an) (a:Act) (w:World),aP N B σ E a w→c.wp P (KS N B K) a w):bf P N c K σ:=⟨h⟩
theorem KI {R:Type} {Tb:iW} {X:XT} {N:Nat} {id:Nat} {ops:Array Oper} {dr:Bool} {σ:St} {k:St→Option R} {y:R} (hm:Tb.P.follows .mixedOrders = true) (hC:∀ f,aQ Tb.P f (et Tb X f))
  (h:o9 Tb X N ops dr σ k = some y):bf Tb.P N (.region id ops dr) (fun e σ'=>e = .normal∧k σ' = some y) σ:=by
 have hM:∀ Ff, ∀ f con,mK (et Tb X) Ff f = some con→aQ Tb.P f con:=by
  intro Ff f con hc
  unfold mK at hc
  cases hb:dR f Ff with
  | true =>
   rw [hb] at hc;cases hc
   intro ok w xs vs p out _ _ h1 h2
   cases h1;cases h2
  | false=>rw [hb] at hc;cases hc;exact hC f
 refine .of_wp fun B E a w hs=>?_
 unfold o9 at h
 cases dr with
 | true =>
  rw [cond_true] at h
  obtain ⟨Tf,Ff,_,_,g3,g4⟩:=FQ h (by simp)
  obtain ⟨ps,rs,σ',a1,a2,a3⟩:=g4 Ff (fun _ h=>h) g3
  rw [List.nil_append] at a3
  cases hc:(nF 0 ops.toList&&tE (zj ops.toList []) [] rs) with
  | false=>rw [hc] at a3;cases a3
  | true =>
   rw [hc,cond_true] at a3
   rw [Bool.and_eq_true] at hc
   exact C3 hm (hM Ff) a1 hc.1 hc.2 a2 hs fun E' a' w' hs'=>⟨σ',E',⟨rfl,a3⟩,hs'⟩
 | false =>
  rw [cond_false] at h
  split at h
  ·next o x r hno =>
   obtain ⟨e1,e2,e3⟩:=JG hno
   refine wp_region ?_
   rw [List.range_eq_range',show ops.size = r.length+1 by rw [← Array.length_toList,e1];rfl,List.range'_succ,wpOps_cons]
   have hi:ops[0]? = some o:=by rw [← Array.getElem?_toList,e1];rfl
   refine Oo e2 e3 h hs hi fun σ1 E1 a1 w1 hk hs1=>?_
   obtain ⟨Tf,Ff,_,_,g3,g4⟩:=AA hk (by simp)
   obtain ⟨ps,σ',a1',a2,a3⟩:=g4 Ff (fun _ h=>h) g3
   exact Bb (hM Ff) r 1 σ1 σ' ps E1 a1 w1 (by rw [e1];rfl) a1' a2 hs1 fun E' a' w' hs'=>⟨σ',E',⟨rfl,a3⟩,hs'⟩
  next hno =>
  cases he:(ops.toList.any fun o=>o.guard.isSome&&Q8 o) with
  | true =>
   rw [he,cond_true] at h
   exact KR (hM []) (Fq h) hs fun σ' E' a' w' hk hs'=>⟨σ',E',⟨rfl,hk⟩,hs'⟩
  | false =>
   rw [he,cond_false] at h
   obtain ⟨Tf,Ff,_,_,g3,g4⟩:=AA h (by simp)
   obtain ⟨ps,σ',a1,a2,a3⟩:=g4 Ff (fun _ h=>h) g3
   exact MH (hM Ff) a1 a2 hs fun E' a' w' hs'=>⟨σ',E',⟨rfl,a3⟩,hs'⟩
abbrev KX (R:Type):=Exit→St→Option R
def oQ {R:Type} (id:Nat) (κ:KX R):KX R
 | .exit id',σ=>bif Nat.beq id' id then κ .normal σ else κ (.exit id') σ
 | e,σ=>κ e σ
def kP {R:Type} (Jc:(T:Tm)→HP T.tys→Option R) (T:Tm) (σ:St):Option R:=(xQ T σ).bind (Jc T)
def Hc {R:Type} (J:(π:Nat)→(T:Tm)→HP T.tys→Option R) (cuts:List (Nat × Tm)) (π:Nat) (go:St→Option R) (κ:KX R):KX R
 | .normal,σ=>match cA cuts π with | some T=>kP (J π) T σ | none=>go σ
 | e,σ=>κ e σ
def yV {R:Type} (J:(π:Nat)→(T:Tm)→HP T.tys→Option R) (cuts:List (Nat × Tm)) (π:Nat) (κ:KX R):KX R
 | .normal,σ=>match cA cuts π with | some T=>kP (J π) T σ | none=>none
 | e,σ=>κ e σ
section
variable {R:Type} (Tb:iW) (X:XT) (N:Nat) (J:(π:Nat)→(T:Tm)→HP T.tys→Option R) (cuts:List (Nat × Tm)) (hd:List (Nat × CJ))
noncomputable def xe:Code→Nat→KX R→St→Option R
 | .skip,_,κ,σ=>κ .normal σ
 | .label _,_,κ,σ=>κ .normal σ
 | .region _ ops dr,_,κ,σ=>o9 Tb X N ops dr σ (κ .normal)
 | .seq x y,π,κ,σ=>xe x (2*π) (Hc J cuts (2*π+1) (xe y (2*π+1) κ) κ) σ
 | .cond c x y,π,κ,σ=>match bA σ [] c with
  | some (.c (.lit (.bool b)))=>bif b then xe x (2*π) κ σ else xe y (2*π+1) κ σ
  | _=>none
 | .block id x,π,κ,σ=>match cA hd π with
  | some h=>((xQ h.T σ).bind h.f).bind fun y=>κ .normal (na h.T' y)
  | none=>xe x (2*π) (oQ id κ) σ
 | .exit id,_,κ,σ=>κ (.exit id) σ
 | .ret,_,κ,σ=>κ .ret σ
 | .loop _,π,_,σ=>match cA cuts π with | some T=>kP (J π) T σ | none=>none
 | _,_,_,_=>none
noncomputable def Ab:List Bool→Code→Nat→KX R→Option (St→Option R)
 | [], .loop x,π,κ=>some (xe Tb X N J cuts hd x (2*π) (yV J cuts π κ))
 | [],c,π,κ=>some (xe Tb X N J cuts hd c π κ)
 | true :: r, .seq _ y,π,κ=>Ab r y (2*π+1) κ
 | false :: r, .seq x y,π,κ=>Ab r x (2*π) (Hc J cuts (2*π+1) (xe Tb X N J cuts hd y (2*π+1) κ) κ)
 | true :: r, .cond _ _ y,π,κ=>Ab r y (2*π+1) κ
 | false :: r, .cond _ x _,π,κ=>Ab r x (2*π) κ
 | false :: r, .block id x,π,κ=>Ab r x (2*π) (oQ id κ)
 | false :: r, .loop x,π,κ=>Ab r x (2*π) (yV J cuts π κ)
 | _,_,_,_=>none
end
def iM (π:Nat):List Bool:=((List.range (Nat.log2 π)).map fun i=>Nat.testBit π i).reverse
def cP.rdR (o:cP) (σ:St) (v:V):Option (HP o.tys):=bif o.isGen then o.rdG σ v else o.rd σ.hp v
def yg (P:Program) (σ:St):List ResultVar→List Bool
 | []=>[]
 | .tmp _ :: r=>yg P σ r
 | .cell s T :: r=>(match bA σ [] (.tmp s) with | some x=>(match mB P σ.hp T x with | some q=>q.dec.bools | none=>[]) | none=>[])++yg P σ r
theorem vQ {P:Program} {σ:St}:∀ {rs:List ResultVar},(∀ b∈yg P σ rs,b = true)→∀ x∈rs,xI P σ x
 | [],_,x,hx=>by simp at hx
 | .tmp t :: r,h,x,hx=>by
  rcases List.mem_cons.1 hx with rfl | hx
  ·trivial
  ·exact vQ (rs:=r) h x hx
 | .cell s T :: r,h,x,hx=>by
  rcases List.mem_cons.1 hx with rfl | hx
  ·intro y q h1 h2
   refine sA q.dec fun b hb=>h b ?_
   rw [yg,h1]
   simp only [h2]
   exact List.mem_append_left _ hb
  ·exact vQ (rs:=r) (fun b hb=>h b (List.mem_append_right _ hb)) x hx
def xZ (P:Program) (fi:FI):KX (HP fi.out.tys)
 | .ret,σ=>(match lI P σ fi.fn.results.toList with | some v=>gL (yg P σ fi.fn.results.toList) (fi.out.rdR σ v) | none=>none)
 | .normal,σ=>(match lI P σ fi.fn.results.toList with | some v=>gL (yg P σ fi.fn.results.toList) (fi.out.rdR σ v) | none=>none)
 | _,_=>none
def Iz (fi:FI):Bool:=(fi.out.isGen||Nat.ble fi.ins.sl.length fi.fn.ntmps)&&Nat.ble fi.fn.ntmps 1000000
def O4 {R:Type} (b:Option (St→Option R)) (σ:St):Option R:=match b with | some go=>go σ | none=>none
noncomputable def yQ (Tb:iW) (J:JT) (fi:FI) (π:Nat) (T:Tm) (s:HP T.tys):Option (HP fi.out.tys) :=
 bif Iz fi then O4 (Ab Tb (fun fi a=>J fi 1 fi.ins a) fi.fn.ntmps (J fi) fi.cuts fi.hd (iM π) fi.c 1 (xZ Tb.P fi)) (na T s) else none
noncomputable def Jn (Tb:iW):Nat→JT
 | 0=>fun _ _ _ _=>none
 | n+1=>fun fi π T s=>yQ Tb (Jn Tb n) fi π T s
end Go.Ax
