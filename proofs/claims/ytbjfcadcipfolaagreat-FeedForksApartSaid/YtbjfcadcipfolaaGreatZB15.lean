import Derived.Test.YtbjfcadcipfolaaGreatZB14
import Derived.Shelf.Sort.Plain
import Derived.Shelf.Slices.In.SortNone
import Derived.Shelf.Slices.CompactI
import Derived.Lib.RowBridge
set_option linter.all false
/- A library function at one own row of ints: sorted where it lies, or cut and handed back. -/
namespace Go.Ax
open Go.RowKit Go.Sort Go.Proofs
def GW (P:Program) (f:FuncId) (e:TypeId) (back:Bool) (G:List Int→List Int):Prop :=
 ∀ (w:World) (v:Value) (l:List Int),w.ownsRow 0 e 1 v l.length (l.map (Value.int .i64))→l.length < 4611686018427387904→ik P f #[v] w fun v' w' =>
  ∃ v2,v' = (bif back then v2 else .tuple #[])∧w'.ownsRow 0 e 1 v2 (G l).length ((G l).map (Value.int .i64))∧w.grownBy w' v.ownBlock∧v2.ownBlock = v.ownBlock∧(back = false→v2 = v∧(G l).length = l.length)
section
variable {P:Program} {E:ar} {w w':World} {r:aB} {H:ab} {nid:Nat}
theorem Hx {ok:Nat→Prop} {l:List Int} {xs:List Value} (hx:xs.length = l.length*1) (h8:∀ i j d u,i < l.length→(els (.i .i64) l i)[j]? = some d→xs[i*1+j]? = some u→aG ok w u d):xs = l.map (Value.int .i64):=by
 apply List.ext_getElem
 ·simp [hx]
 ·intro i h1 h2
  have hi:i < l.length:=by simpa using h2
  have h3:=h8 i 0 (.lit (.int .i64 (l.getD i 0))) xs[i] hi rfl (by rw [Nat.mul_one,Nat.add_zero];exact List.getElem?_eq_getElem h1)
  have h4:=(af.c (E:=⟨fun _=>none,fun _=>0,fun _=>0,fun _=>False,ok⟩) (w:=w) _ _ h3).lit_inv
  rw [h4]
  simp [List.getD_eq_getElem?_getD,List.getElem?_eq_getElem hi]
theorem Hd {l:List Int}:(∀ i j u,i < l.length→j < (Ty.i .i64).k→(l.map (Value.int .i64))[i*(Ty.i .i64).k+j]? = some u→u.oneCell' = true) ∧
  ∀ {ok:Nat→Prop} {w:World} i j d u,i < l.length→(els (.i .i64) l i)[j]? = some d→(l.map (Value.int .i64))[i*(Ty.i .i64).k+j]? = some u→aG ok w u d:=by
 have key:∀ i j u,i < l.length→j < 1→(l.map (Value.int .i64))[i*(Ty.i .i64).k+j]? = some u→j = 0∧u = .int .i64 (l.getD i 0):=by
  intro i j u hi hj hu
  have:j = 0:=by omega
  subst this
  rw [show (Ty.i .i64).k = 1 from rfl,Nat.mul_one,Nat.add_zero,List.getElem?_map,List.getElem?_eq_getElem hi] at hu
  refine ⟨rfl, ?_⟩
  have:=Option.some.inj hu
  rw [← this,List.getD_eq_getElem?_getD,List.getElem?_eq_getElem hi];rfl
 refine ⟨fun i j u hi hj hu=>?_,fun i j d u hi hd hu=>?_⟩
 ·rw [(key i j u hi hj hu).2];rfl
 ·have hj:j < 1:=(List.getElem?_eq_some_iff.1 hd).1
  obtain ⟨rfl,rfl⟩:=key i j u hi hj hu
  have hd:some (D.lit (.int .i64 (l.getD i 0))) = some d:=hd
  cases hd
  exact .lit _
theorem GI {f:FuncId} (hR:∀ e,GW P f e false gH):bq P f (.mut DE):=by
 intro E w H0 nid xs args r hH0 hfn hx hmc hp
 have hH:=mx hH0 (aO H0 args)
 have hres:∀ o ob,ab.get (bu (aO H0 args) H0) o = some ob→ab.get H0 o = some ob:=fun o ob h=>(nL h).1
 generalize bu (aO H0 args) H0 = H at hmc hH hres
 unfold DE at hmc
 split at hmc
 ·next o k =>
  split at hmc
  ·next e l hg =>
   cases hb:Nat.beq k 1 with
   | false=>rw [hb] at hmc;cases hmc
   | true =>
    rw [hb,cond_true] at hmc
    have:=Nat.eq_of_beq_eq_true hb
    subst this
    cases hmc
    have hsm:l.length≤1000000:=hp _ (by simp)
    obtain ⟨u0,rfl⟩:∃ u0,xs = [u0]:=by
     match xs,hx.1 with
     | [u0],_=>exact ⟨u0,rfl⟩
    have h0:af E w u0 (.row o (Ty.i .i64).k):=hx.2 0 u0 _ rfl rfl
    obtain ⟨xs0,hown,hbl,h7,h8⟩:=Bu hH hg h0
    have hxs:=Hx hown.1 h8
    subst hxs
    refine (hR e w u0 l hown (by omega)).mono fun v' w' hw=>?_
    obtain ⟨v2,rfl,h1,h2,h3,h4⟩:=hw
    obtain ⟨rfl,hll⟩:=h4 rfl
    refine p8 hH0 (hfn 0 (by omega)) (hres _ _ hg) hll (by rw [← hbl];exact h2) (fun b C hb hC=>?_) rfl rfl (fun E'=>.tup [] [] rfl fun i v d h=>by simp at h)
    rcases h1.2 with ⟨hn,_⟩ | ⟨g,cap,cur,hv,_,hc,hc2,_,hc4,hc5⟩
    ·rw [hn] at hbl;rw [← hbl] at hb;cases hb
    ·rw [hv] at hbl
     have:g = b:=by rw [← hbl] at hb;cases hb;rfl
     subst this
     have hCs:C.size = cur.size:=by
      rcases hown.2 with ⟨hn,_⟩ | ⟨g',cap',cur',hv',_,hc',hc2',_,hc4',hc5'⟩
      ·rw [hn] at hv;cases hv
      ·rw [hv] at hv'
       injection hv' with e1 e2 e3
       injection e1 with e1
       injection e1 with e1
       subst e1 e3
       rw [hC] at hc'
       cases hc'
       rw [hc4,hc4']
       rfl
     have hget:∀ i j u,i < (gH l).length→j < 1→cur[i*(Ty.i .i64).k+j]? = some u→((gH l).map (Value.int .i64))[i*(Ty.i .i64).k+j]? = some u:=by
      intro i j u hi hj hu
      rw [← hc5,List.getElem?_take,if_pos (by show i*1+j < _*1;omega),Array.getElem?_toList]
      exact hu
     refine ⟨cur,hc,hCs.symm,fun i j u hi hj hu=>Hd.1 i j u hi hj (hget i j u hi hj hu),fun i j d u hi hd hu=>Hd.2 i j d u hi hd (hget i j u hi (List.getElem?_eq_some_iff.1 hd).1 hu)⟩
  ·cases hmc
 ·cases hmc
end
theorem vq (x:Int):∀ l,(AY x l).Perm (x :: l)
 | []=>.refl _
 | y :: r=>by
  unfold AY
  cases aa (x≤y) with
  | true=>exact .refl _
  | false=>exact ((vq x r).cons y).trans (.swap x y r)
theorem nz:∀ l,(gH l).Perm l
 | []=>.refl _
 | x :: r=>(vq x _).trans ((nz r).cons x)
theorem xq {x:Int}:∀ {l:List Int},l.Pairwise (·≤·)→(AY x l).Pairwise (·≤·)
 | [],_=>List.pairwise_singleton _ _
 | y :: r,h=>by
  unfold AY
  rw [List.pairwise_cons] at h
  by_cases hxy:x≤y
  ·rw [show aa (x≤y) = true from decide_eq_true hxy,cond_true]
   exact .cons (fun z hz=>by rcases List.mem_cons.1 hz with rfl | hz;exact hxy;exact Int.le_trans hxy (h.1 z hz)) (.cons h.1 h.2)
  ·rw [show aa (x≤y) = false from decide_eq_false hxy,cond_false]
   refine .cons (fun z hz=>?_) (xq h.2)
   rcases List.mem_cons.1 ((vq x r).mem_iff.1 hz) with rfl | hz
   ·omega
   ·exact h.1 z hz
theorem oz:∀ l,(gH l).Pairwise (·≤·)
 | []=>.nil
 | x :: r=>xq (oz r)
theorem Ge:∀ {a b:List Int},a.Perm b→a.Pairwise (·≤·)→b.Pairwise (·≤·)→a = b:=fun h h1 h2=>h.eq_of_pairwise (fun x y _ _ hx hy=>Int.le_antisymm hx hy) h1 h2
theorem DR (l:List Int):gH l = l.mergeSort fun x y=>decide (x≤y) :=
 Ge ((nz l).trans (List.mergeSort_perm l _).symm) (oz l) ((List.pairwise_mergeSort (fun a b c h1 h2=>by simp at *; omega) (fun a b=>by simp;omega) l).imp fun h=>by simpa using h)
end Go.Ax
