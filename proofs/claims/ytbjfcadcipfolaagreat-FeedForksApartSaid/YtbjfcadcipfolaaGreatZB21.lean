import Derived.Test.YtbjfcadcipfolaaGreatZB16
import Derived.Shelf.Bytes.SlClone
import Derived.Shelf.SlMaps.Clone
set_option linter.all false
/- bytes.Clone, the library's comparison of bytes, maps.Clone. -/
namespace Go.Ax
open Go.RowKit Go.Sort Go.Lib Go.Shelf Go.Proofs
section
variable {P:Program} {w:World}
theorem CH {ok:Nat→Prop} {v:Value} {l:List Int} (h:af (dw ok) w v (.c (.sl (.i .u8) l))):∃ a c,v = .slice a l.length c∧(0 < l.length→∃ ad,a = some ad∧∀ i,i < l.length→w.cell? (ad.add i) = some (.int .u8 (l.getD i 0))):=by
 cases h with
 | c _ _ h =>
 cases h with
 | sl _ _ a n c k el u hn hk he hc hm ha ho hl hu =>
  subst hn
  refine ⟨a,c,rfl,fun h0=>?_⟩
  obtain ⟨ad,rfl,_,hcell⟩:=ha h0
  have hk1:k = 1:=hk
  subst hk1
  refine ⟨ad,rfl,fun i hi=>?_⟩
  have h1:=hcell i 0 hi (by omega)
  rw [Nat.mul_one,Nat.add_zero] at h1
  rw [h1]
  have h2:=hu i 0 (.lit (.int .u8 (l.getD i 0))) hi (by rw [he i hi];rfl)
  generalize u i 0 = x at h2
  cases h2 with
  | lit=>rfl
theorem zm {ρ:Ren} (L:SlLaysK.n4 P ρ) {f e:Nat} (hf:f = ρ.f 4) (he:e = ρ.t 5) (eS:∀ args w,(callFunc f args).run P w = .ok (.enter f args) w) {ok:Nat→Prop} {v:Value} {l:List Int}
  (h:af (dw ok) w v (.c (.sl (.i .u8) l))) (hl:l.length≤140737488355328):ik P f #[v] w fun v' w'=>Below w.heap.size w w'∧tV ok w w' v' (.own true e (.i .u8) l):=by
 subst hf he
 obtain ⟨a,c,rfl,ha⟩:=CH h
 cases a with
 | none =>
  have h0:l = []:=by
   cases l with
   | nil=>rfl
   | cons x r=>obtain ⟨ad,e,_⟩:=ha (by simp);cases e
  subst h0
  refine .inl ⟨eS _ _,(Any.bytes_Clone_nil L 0 c w).mono ?_⟩
  rintro e w' ⟨rfl,rfl⟩
  exact ⟨_,rfl, .refl _ _,[],⟨rfl, .inl ⟨rfl,rfl⟩⟩,fun i j u hi=>absurd hi (by simp),fun i j d u hi=>absurd hi (by simp)⟩
 | some ad =>
  have hc:∀ i,i < l.length→w.cell? (ad.add i) = some (.int .u8 (l.getD i 0)):=fun i hi=>by
   obtain ⟨ad',e,h1⟩:=ha (by omega)
   cases e
   exact h1 i hi
  refine .inl ⟨eS _ _,(Any.bytes_Clone_at L ad l.length c l w rfl hl hc).mono ?_⟩
  rintro e w' ⟨v',rfl,hown,_,hb⟩
  refine ⟨v',rfl,hb,l.map (Value.int .u8),hown,fun i j u hi hj hu=>?_,fun i j d u hi hd hu=>?_⟩
  ·obtain ⟨x,_,rfl⟩:=List.mem_map.1 (List.mem_of_getElem? hu)
   rfl
  ·match j,hd with
   | 0,hd =>
    cases hd
    have hu:(List.map (Value.int .u8) l)[i*1+0]? = some u:=hu
    rw [Nat.mul_one,Nat.add_zero,List.getElem?_map,List.getElem?_eq_getElem hi] at hu
    cases hu
    have e:gD l i (Ty.i IntKind.u8).z = l[i]:=lX (List.getElem?_eq_getElem hi)
    rw [e]
    exact .lit _
theorem uK:∀ (l:List Int) (a:Addr) (acc:ByteArray),(∀ (j:Nat) (m:Int),l[j]? = some m→w.cell? (a.add j) = some (.int .u8 m))→(Extern.Bytes.loadBytes a l.length acc).run P w = .ok (acc++bg l) w
 | [],a,acc,h=>by
  show Result.ok acc w = Result.ok (acc++bg []) w
  congr 1
  apply ByteArray.ext
  simp [bg]
 | n :: ns,a,acc,h=>by
  have h0:=h 0 n rfl
  have h0':w.cell? a = some (.int .u8 n):=by simpa [Addr.add] using h0
  have ih:=uK ns (a.add 1) (acc.push n.toNat.toUInt8) (fun j m hj=>by
   rw [lG,Nat.add_comm]
   exact h (j+1) m (by simpa using hj))
  simp only [List.length_cons,Extern.Bytes.loadBytes,Sem.run_bind]
  rw [show (load a).run P w = .ok (.int .u8 n) w by simp [run_load,h0']]
  simp only [Result.andThen_ok,ih]
  congr 1
  apply ByteArray.ext
  simp [bg,ByteArray.push]
theorem xj {ok:Nat→Prop} {v:Value} {l:List Int} (h:af (dw ok) w v (.c (.sl (.i .u8) l))):(Extern.Bytes.bytesOf v).run P w = .ok (bg l) w:=by
 obtain ⟨a,c,rfl,ha⟩:=CH h
 cases l with
 | nil =>
  cases a with
  | none=>rfl
  | some a=>rfl
 | cons x r =>
  obtain ⟨ad,rfl,hc⟩:=ha (by simp)
  have:=uK (P:=P) (x :: r) ad .empty fun j m hj=>by
   have hj':=(List.getElem?_eq_some_iff.1 hj)
   obtain ⟨h1,h2⟩:=hj'
   rw [hc j h1,List.getD_eq_getElem?_getD,hj];rfl
  rw [show Extern.Bytes.bytesOf (.slice (some ad) (x :: r).length c) = Extern.Bytes.loadBytes ad (x :: r).length .empty from rfl,this]
  congr 1
theorem Fb {f:FuncId} {fn:Func} (hf:P.funcs[f]? = some fn) (hname:(fn.name == "runtime.NumGoroutine") = false) (hb:fn.body.isNone = true) (hn:Extern.findNext fn = none) (he:Extern.find fn = some Extern.BytealgCompare.compare)
  {ok:Nat→Prop} {u v:Value} {a b:List Int} (h1:af (dw ok) w u (.c (.sl (.i .u8) a))) (h2:af (dw ok) w v (.c (.sl (.i .u8) b))):(callFunc f #[u,v]).run P w = .ok (.value (.int .i64 (fm a b))) w:=by
 rw [run_callFunc_extern hf hname hb hn he]
 have:(Extern.BytealgCompare.compare #[u,v]).run P w = .ok (.int .i64 (fm a b)) w:=by
  change Sem.run P (do pure (goInt (Extern.BytealgCompare.cmp (← Extern.Bytes.bytesOf u) (← Extern.Bytes.bytesOf v)))) w = _
  simp only [Sem.run_bind,xj h1,xj h2,Result.andThen_ok,Sem.run_pure,Lib.cmp_eq]
  rfl
 rw [this]
 rfl
theorem E8 {f:FuncId} (hent:∀ args w,(callFunc f args).run P w = .ok (.enter f args) w)
  (hrun:∀ (b:Nat) (es:Array MapEntry) (clock:Nat) (w:World),w.heap[b]? = some (.map es clock)→Calls P f #[.map (some b)] w fun e w'=>e = .returned (.map (some w.heap.size))∧w' = w.alloc (.map es clock)):bq P f (.mut Ab):=by
 intro E w H0 nid xs args r hH0 hfn hx hmc hp
 have hfn0:¬ E.live nid:=hfn 0 (by omega)
 have hH:=mx hH0 (aO H0 args)
 generalize bu (aO H0 args) H0 = H at hmc hH
 unfold Ab at hmc
 split at hmc
 ·next m =>
  split at hmc
  ·next o t kt vt ks vs hm =>
   cases hmc
   obtain ⟨u0,rfl⟩:∃ u0,xs = [u0]:=by
    match xs,hx.1 with
    | [u0],_=>exact ⟨u0,rfl⟩
   have h0:=hx.2 0 u0 _ rfl rfl
   obtain ⟨b,rfl,hl,hc,hg'⟩:=fX hH h0 hm
   obtain ⟨_,g1,g2,b',es,clock,g3,g4,g5,g6,g7,g8⟩:=hH.at_ _ _ hg'
   rw [hc] at g3;cases g3
   refine .inl ⟨hent _ _,(hrun b es clock w g4).mono ?_⟩
   rintro e w' ⟨rfl,rfl⟩
   have hb:Below w.heap.size w (w.alloc (.map es clock)):=(Below.refl _ _).alloc (Nat.le_refl _) _
   have hcc:∀ b,some w.heap.size = some b→w.heap.size≤b∧b < (w.alloc (.map es clock)).heap.size∧¬ E.ok b:=by
    intro b e;cases e
    exact ⟨Nat.le_refl _,by simp,fun h=>by have:=hH0.oklt _ h;omega⟩
   have hS:cQ E w [] (E.next nid (some w.heap.size) 0 1 E.ok) (w.alloc (.map es clock)):=ck hfn0 _ 0 1 E.ok hb (fun b h=>(hcc b h).1) (fun _ h=>h) (fun _ h=>.inl h)
   have hN:=cB (cap:=0) (len:=1) hfn0 hH0 hb hcc (fun _ h=>h) (fun _ h=>.inl h) (fun b h=>by have:=hH0.oklt b h;simp;omega)
   have hnx:(E.next nid (some w.heap.size) 0 1 E.ok).live nid:=.inl rfl
   have e1:(E.next nid (some w.heap.size) 0 1 E.ok).conc nid = some w.heap.size:=by simp [ar.next]
   have e3:(E.next nid (some w.heap.size) 0 1 E.ok).len nid = 1:=by simp [ar.next]
   have hob:gJ (E.next nid (some w.heap.size) 0 1 E.ok) (w.alloc (.map es clock)) nid (.map t kt vt ks vs) :=
    ⟨e3,g2,_,es,clock,e1,heap_alloc_new _ _,g5,g6,fun i e he=>⟨(g7 i e he).1,(g7 i e he).2.mp fun v d hd=>hd.mono (fun _ h=>h) fun b hb'=>hb.block b (hH0.oklt b hb')⟩,g8⟩
   refine ⟨_,rfl,_,hS,ic (by simpa [dt] using hN) hnx hob, ?_,bA⟩
   have h1:=af.ptr (E:=E.next nid (some w.heap.size) 0 1 E.ok) (w:=w.alloc (.map es clock)) nid 1 0 0 w.heap.size hnx e1 (by rw [e3];omega)
   exact .fn 2000000000 [.pointer (some ⟨w.heap.size,0,none⟩)] [.ptr nid 1 0 0] rfl fun i v d hv hd=>by
    match i,hv,hd with
    | 0,hv,hd=>cases hv;cases hd;simpa using h1
  ·cases hmc
 ·cases hmc
end
end Go.Ax
