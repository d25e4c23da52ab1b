import Derived.Test.YtbjfcadcipfolaaGreatZB1
import Derived.MapKept
set_option linter.all false
/- What abstract values, heaps say of a world;and that it stays. -/
namespace Go.Ax
open Go.RowKit
structure ar where
  conc:Nat→Option Nat
  cap:Nat→Nat
  len:Nat→Nat
  live:Nat→Prop
  ok:Nat→Prop
def FR:List Value→Value
 | [.pointer (some a)]=>.map (some a.block)
 | _=>.map none
def lS (f:Nat) (vs:List Value):Value:=bif Nat.blt f 1000000000 then .func (.func f) #[] vs.toArray else bif Nat.blt f 2000000000 then .iface (f - 1000000000) (vs.headD undef) else FR vs
theorem pW {f:Nat} (h:Nat.blt f 1000000000 = true) (vs:List Value):lS f vs = .func (.func f) #[] vs.toArray:=by unfold lS;rw [h];rfl
theorem JL (f:Nat) (vs:List Value):(lS f vs).oneCell' = true:=by
 unfold lS
 cases Nat.blt f 1000000000 with
 | true=>rfl
 | false=>cases Nat.blt f 2000000000 with
  | true=>rfl
  | false =>
   show (FR vs).oneCell' = true
   unfold FR
   split <;> rfl
def Aj (b:Bool) (us:List Value):Value:=bif b then .tuple (.bool true :: us).toArray else .tuple #[.bool false]
theorem Et:∀ (ts:List Ty) (x:HP ts),(eX ts x).length = ts.length
 | [],_=>rfl
 | [_],_=>rfl
 | _ :: u :: r,x=>by rw [eX,List.length_cons,Et (u :: r)];rfl
theorem Ec {α β:Type} (f:α→List β) (k:Nat):∀ l:List α,(∀ x∈l,(f x).length = k)→(l.flatMap f).length = l.length*k
 | [],_=>by simp
 | x :: l,h=>by
  rw [List.flatMap_cons,List.length_append,Ec f k l fun y hy=>h y (by simp [hy]),h x (by simp),List.length_cons,Nat.add_mul,Nat.one_mul,Nat.add_comm]
theorem kc:∀ (t:Ty) (x:t.T),(t.enc x).length = t.k
 | .i _,_=>rfl
 | .b,_=>rfl
 | .s,_=>rfl
 | .ls _,_=>rfl
 | .st k,x=>Et _ _
 | .arr n t,l=>by
  show ((List.range n).flatMap fun i=>t.enc (l.getD i t.z)).length = n*t.k
  rw [Ec _ t.k _ fun i _=>kc t _,List.length_range]
theorem d7 (t:Ty) (l:List t.T) (i:Nat):els t l i = t.enc (l.getD i t.z):=rfl
theorem dB (t:Ty) (l:List t.T) (i:Nat):(els t l i).length = t.k:=kc t _
inductive aG (ok:Nat→Prop) (w:World):Value→D→Prop
  | unk (v:Value):aG ok w v .unk
  | nil:aG ok w (.slice none 0 0) .nil
  | lit (v:Value):aG ok w v (.lit v)
  | opt (b:Bool) (us:List Value):aG ok w (Aj b us) (.opt b us)
  | any (v:Value) (h1:v.oneCell' = true):aG ok w v .any
  | sl (t:Ty) (xs:List t.T) (a:Option Addr) (n c k:Nat) (el:Nat→List D) (u:Nat→Nat→Value) (hn:n = xs.length) (hk:k = t.k) (he:∀ i,i < n→el i = els t xs i)
      (hc:n≤c) (hm:c≤maxLen)
      (ha:0 < n→∃ ad,a = some ad∧ok ad.block∧∀ i j,i < n→j < k→w.cell? (ad.add (i*k+j)) = some (u i j))
      (ho:∀ i j,i < n→j < k→(u i j).oneCell' = true)
      (hl:∀ i,i < n→(el i).length = k)
      (hu:∀ i j d,i < n→(el i)[j]? = some d→aG ok w (u i j) d):aG ok w (.slice a n c) (.sl t xs)
inductive af (E:ar) (w:World):Value→V→Prop
  | c (v:Value) (d:D) (h:aG E.ok w v d):af E w v (.c d)
  | agg (vs:List Value) (ds:List V) (hl:vs.length = ds.length) (h:∀ (i:Nat) (v:Value) (d:V),vs[i]? = some v→ds[i]? = some d→af E w v d):af E w (.agg vs.toArray) (.agg ds)
  | tup (vs:List Value) (ds:List V) (hl:vs.length = ds.length) (h:∀ (i:Nat) (v:Value) (d:V),vs[i]? = some v→ds[i]? = some d→af E w v d):af E w (.tuple vs.toArray) (.tup ds)
  | ptr (o k i j b:Nat) (hn:E.live o) (hb:E.conc o = some b) (hi:i < E.len o):af E w (.pointer (some ⟨b,i*k+j,none⟩)) (.ptr o k i j)
  | row (o k:Nat) (a:Option Addr) (n c:Nat) (hn:E.live o) (hl:n = E.len o) (hc:n≤c) (hm:c≤maxLen)
      (h0:(a = none∧n = 0∧c = 0∧E.conc o = none)∨∃ b,E.conc o = some b∧a = some ⟨b,0,none⟩∧c = E.cap o):af E w (.slice a n c) (.row o k)
  | sub (o k off n:Nat) (a:Option Addr) (c:Nat) (hn:E.live o) (hc:n≤c) (hm:c≤maxLen) (hl:off+n≤E.len o)
      (ha:0 < n→∃ b,E.conc o = some b∧a = some ⟨b,off*k,none⟩):af E w (.slice a n c) (.sub o k off n)
  | dptr (k:Nat) (cs:List D) (j:Nat) (ad:Addr) (u:Nat→Value) (hok:E.ok ad.block)
      (hcell:∀ i,i < k→w.cell? (ad.add i) = some (u i)) (hl:cs.length = k) (hu:∀ i d,cs[i]? = some d→aG E.ok w (u i) d):af E w (.pointer (some (ad.add j))) (.dptr k cs j)
  | fn (f:FuncId) (vs:List Value) (ds:List V) (hl:vs.length = ds.length) (h:∀ (i:Nat) (v:Value) (d:V),vs[i]? = some v→ds[i]? = some d→af E w v d):af E w (lS f vs) (.fn f ds)
def aI (E:ar) (w:World) (vs:List Value) (ds:List V):Prop :=
 vs.length = ds.length∧∀ (i:Nat) (v:Value) (d:V),vs[i]? = some v→ds[i]? = some d→af E w v d
def zD (E:ar) (w:World) (o:Nat) (t:TypeId) (k n:Nat) (el:Nat→List D):Prop:=E.len o = n∧((E.conc o = none∧n = 0) ∨
   ∃ b C,E.conc o = some b∧w.heap[b]? = some (.cells C t (0,0))∧C.size = E.cap o*k∧n≤E.cap o∧E.cap o≤maxLen ∧
    (∀ i,i < n→(el i).length = k)∧(∀ i j u,i < n→j < k→C[i*k+j]? = some u→u.oneCell' = true)∧∀ i j d u,i < n→(el i)[j]? = some d→C[i*k+j]? = some u→aG E.ok w u d)
def kN (ok:Nat→Prop) (w:World) (v:Value):(t:Ty)→t.T→Prop
 | .st k,x=>∃ cs:List Value,v = .agg cs.toArray∧cs.length = (Ty.enc (.st k) x).length∧∀ (j:Nat) (u:Value) (d:D),cs[j]? = some u→(Ty.enc (.st k) x)[j]? = some d→aG ok w u d
 | .arr n t,x=>∃ cs:List Value,v = .agg cs.toArray∧cs.length = (Ty.enc (.arr n t) x).length∧∀ (j:Nat) (u:Value) (d:D),cs[j]? = some u→(Ty.enc (.arr n t) x)[j]? = some d→aG ok w u d
 | .i k,x=>aG ok w v (iQ (.i k) x)
 | .b,x=>aG ok w v (iQ .b x)
 | .s,x=>aG ok w v (iQ .s x)
 | .ls t,x=>aG ok w v (.sl t x)
theorem kN.mp {ok ok':Nat→Prop} {w w':World} (hd:∀ v d,aG ok w v d→aG ok' w' v d) {v:Value}:∀ {t:Ty} {x:t.T},kN ok w v t x→kN ok' w' v t x
 | .st _,_,h=>by obtain ⟨cs,h1,h2,h3⟩:=h;exact ⟨cs,h1,h2,fun j u d a b=>hd _ _ (h3 j u d a b)⟩
 | .arr _ _,_,h=>by obtain ⟨cs,h1,h2,h3⟩:=h;exact ⟨cs,h1,h2,fun j u d a b=>hd _ _ (h3 j u d a b)⟩
 | .i _,_,h=>hd _ _ h
 | .b,_,h=>hd _ _ h
 | .s,_,h=>hd _ _ h
 | .ls _,_,h=>hd _ _ h
def nv (E:ar) (w:World) (o:Nat) (kt vt:Ty) (ks:List kt.T) (vs:List vt.T):Prop :=
 E.len o = 1∧ks.length = vs.length∧∃ b es clock,E.conc o = some b∧w.heap[b]? = some (.map es clock)∧Go.MapKept.Stamped es clock∧es.size = ks.length ∧
  (∀ i e,es[i]? = some e→e.key = d6 kt (gD ks i kt.z)∧kN E.ok w e.val vt (gD vs i vt.z))∧clock = es.size∧∀ (i:Nat) (e:MapEntry),es[i]? = some e→e.born = i
theorem nv.mp {E E':ar} {w w':World} {o o':Nat} {kt vt:Ty} {ks:List kt.T} {vs:List vt.T} (h:nv E w o kt vt ks vs) (hc:E'.conc o' = E.conc o) (hl:E'.len o' = E.len o) (hb:∀ b,E.conc o = some b→w'.heap[b]? = w.heap[b]?)
  (hd:∀ v d,aG E.ok w v d→aG E'.ok w' v d):nv E' w' o' kt vt ks vs:=by
 obtain ⟨h1,h2,b,es,clock,h3,h4,h5,h6,h7,h8⟩:=h
 exact ⟨hl.trans h1,h2,b,es,clock,hc.trans h3,(hb b h3).trans h4,h5,h6,fun i e he=>⟨(h7 i e he).1,(h7 i e he).2.mp hd⟩,h8⟩
def gJ (E:ar) (w:World) (o:Nat):Ob→Prop
 | .box cs=>E.len o = 1∧∃ b C t,E.conc o = some b∧w.heap[b]? = some (.cells C t (0,0))∧aI E w C.toList cs
 | .raw x=>E.len o = 1∧∃ b,E.conc o = some b∧w.heap[b]? = some x
 | .row e t l=>zD E w o e t.k l.length (els t l)
 | .map _ kt vt ks vs=>nv E w o kt vt ks vs
 | .iter m s l=>E.len o = 1∧∃ b bm sn seen c,E.conc o = some b∧w.heap[b]? = some (.mapIter (some bm) sn seen c)∧(c = sn∧(sn:Int) = s∧seen.toList.reverse.map (fun q:Nat=>(q:Int)) = l)∧af E w (.map (some bm)) m
structure aw (E:ar) (w:World) (H:ab):Prop where
  at_:∀ o ob,H.get o = some ob→E.live o∧gJ E w o ob
  inj:∀ o o' b,E.live o→E.live o'→E.conc o = some b→E.conc o' = some b→o = o'
  sep:∀ o b,E.live o→E.conc o = some b→¬ E.ok b
  lt:∀ o b,E.live o→E.conc o = some b→b < w.heap.size
  oklt:∀ b,E.ok b→b < w.heap.size
theorem dP {w:World} {b:Nat} {x:Obj} (h:w.heap[b]? = some x):b < w.heap.size:=(Array.getElem?_eq_some_iff.1 h).1
theorem lG (a:Addr) (i j:Nat):(a.add i).add j = a.add (i+j):=by
 unfold Addr.add
 by_cases hi:i = 0 <;> by_cases hj:j = 0 <;> simp [hi,hj,Nat.add_assoc]
theorem oe (a:Addr) (n:Nat):(a.add n).block = a.block:=by unfold Addr.add;split <;> rfl
theorem bQ (b o n:Nat):(Addr.add ⟨b,o,none⟩ n) = ⟨b,o+n,none⟩:=by
 unfold Addr.add;split
 ·next h=>subst h;rfl
 ·rfl
structure cQ (E:ar) (w:World) (kl:List Nat) (E':ar) (w':World):Prop where
  os:w'.os = w.os
  tape:w'.tape = w.tape
  output:w'.output = w.output
  size:w.heap.size≤w'.heap.size
  live:∀ o,E.live o→E'.live o
  blk:∀ b,b < w.heap.size→(∀ o,E.live o→E.conc o≠some b)→w'.heap[b]? = w.heap[b]?
  ok:∀ b,E.ok b→E'.ok b
  okold:∀ b,E'.ok b→E.ok b∨w.heap.size≤b∨∃ o,E.live o∧E.conc o = some b
  conc:∀ o,E.live o→o ∉ kl→E'.conc o = E.conc o∧E'.cap o = E.cap o∧E'.len o = E.len o
  concnew:∀ o b,E'.live o→E'.conc o = some b→(∃ q,E.live q∧E.conc q = some b)∨w.heap.size≤b
theorem vC {w w':World} {a:Addr} (h:w'.heap[a.block]? = w.heap[a.block]?):w'.cell? a = w.cell? a:=by simp [World.cell?,h]
def D.isOne:D→Bool
 | .unk=>false
 | .opt _ _=>false
 | .lit u=>u.oneCell'
 | _=>true
theorem aG.one {ok:Nat→Prop} {w:World} {v:Value} {d:D} (h:aG ok w v d) (h1:d.isOne = true):v.oneCell' = true:=by
 cases h with
 | unk=>cases h1
 | nil=>rfl
 | lit=>exact h1
 | opt=>cases h1
 | any _ h=>exact h
 | sl=>rfl
inductive ve:D→D→Prop
  | unk (d:D):ve d .unk
  | refl (d:D):ve d d
  | nilsl (t:Ty):ve .nil (.sl t [])
  | any (d:D) (h:d.isOne = true):ve d .any
def dF (ds ds':List D):Prop:=ds.length = ds'.length∧∀ (j:Nat) (d d':D),ds[j]? = some d→ds'[j]? = some d'→ve d d'
theorem dF.refl (ds:List D):dF ds ds:=⟨rfl,fun j d d' h h'=>by rw [h] at h'; cases h'; exact .refl _⟩
theorem dF.nil:dF [] []:=.refl _
theorem dF.cons {d d':D} {ds ds':List D} (h:ve d d') (hs:dF ds ds'):dF (d :: ds) (d' :: ds') :=
 ⟨by simp [hs.1],fun j e e' h1 h2=>by
  cases j with
  | zero=>simp at h1 h2;subst h1 h2;exact h
  | succ j=>exact hs.2 j e e' (by simpa using h1) (by simpa using h2)⟩
theorem dF.app {a a' b b':List D} (h:dF a a') (hs:dF b b'):dF (a++b) (a'++b') :=
 ⟨by simp [h.1,hs.1],fun j d d' h1 h2=>by
  rw [List.getElem?_append] at h1 h2
  rw [← h.1] at h2
  split at h1
  ·next hj=>rw [if_pos hj] at h2;exact h.2 j d d' h1 h2
  ·next hj=>rw [if_neg hj] at h2;exact hs.2 _ d d' h1 h2⟩
theorem aG.le {ok:Nat→Prop} {w:World} {v:Value} {d d':D} (h:aG ok w v d) (hd:ve d d'):aG ok w v d':=by
 cases hd with
 | unk=>exact .unk v
 | refl=>exact h
 | any _ h1=>exact .any v (h.one h1)
 | nilsl t =>
  cases h
  exact .sl t [] none 0 0 t.k (els t []) (fun _ _=>undef) rfl rfl (fun _ _=>rfl) (Nat.le_refl _) (by simp [maxLen]) (fun h=>by omega) (fun i j h=>by omega) (fun i h=>by omega) fun i j d h=>by omega
theorem jV {t' t:Ty} {l:List t'.T} {l':List t.T} (h:kL t' t l = some l'):∃ e:t' = t,l' = e ▸ l:=by
 unfold kL at h
 split at h
 ·next e=>cases h;exact ⟨e,rfl⟩
 ·cases h
theorem fZ {t:Ty} {d:D} {x:t.T} (h:uC t d = some x):ve d (iQ t x):=by
 unfold uC at h
 split at h
 ·split at h
  ·next hk=>cases h;subst hk;exact .refl _
  ·cases h
 ·cases h;exact .refl _
 ·cases h;exact .refl _
 ·obtain ⟨e,rfl⟩:=jV h
  subst e;exact .refl _
 ·cases h;exact .nilsl _
 ·cases h
theorem Jt:∀ (ts:List Ty) (ds:List D) (p:HP ts),zI ts ds = some p→dF ds (eX ts p)
 | [],[],_,_=>.nil
 | [],_ :: _,_,h=>by simp [zI] at h
 | [t],[d],p,h=>.cons (fZ h) .nil
 | [t],[],p,h=>by simp [zI] at h
 | [t],_ :: _ :: _,p,h=>by simp [zI] at h
 | t :: u :: r,[],p,h=>by simp [zI] at h
 | t :: u :: r,d :: ds,p,h=>by
  rw [zI] at h
  split at h
  ·next x y hx hy =>
   cases h
   exact .cons (fZ hx) (Jt (u :: r) ds y hy)
  ·cases h
theorem qO {α:Type} {f:List D→Option α} {g:α→List D} {k:Nat} (hf:∀ cs x,f cs = some x→dF cs (g x)) (hg:∀ x,(g x).length = k):∀ (n:Nat) (ds:List D) (l:List α),rE f k n ds = some l →
  l.length = n∧ds.length = n*k∧∀ i x,l[i]? = some x→dF ((ds.drop (i*k)).take k) (g x)
 | 0,ds,l,h=>by
  rw [rE] at h
  cases ds with
  | nil=>simp at h;subst h;simp
  | cons d ds=>simp at h
 | n+1,ds,l,h=>by
  rw [rE] at h
  split at h
  ·next x l' hx hl' =>
   cases h
   obtain ⟨h1,h2,h3⟩:=qO hf hg n _ l' hl'
   have hx':=hf _ _ hx
   have hk:(ds.take k).length = k:=hx'.1.trans (hg x)
   rw [List.length_take] at hk
   rw [List.length_drop] at h2
   refine ⟨by simp [h1],by rw [Nat.add_mul];omega,fun i y hy=>?_⟩
   cases i with
   | zero =>
    simp at hy;subst hy
    simpa using hx'
   | succ i =>
    have:=h3 i y (by simpa using hy)
    rw [List.drop_drop] at this
    rw [Nat.add_mul,Nat.one_mul,Nat.add_comm]
    exact this
  ·cases h
theorem Es {α:Type} {g:α→List D} {z:α} {k:Nat}:∀ (n:Nat) (ds:List D) (l:List α),l.length = n→ds.length = n*k→(∀ i x,l[i]? = some x→dF ((ds.drop (i*k)).take k) (g x))→dF ds ((List.range n).flatMap fun i=>g (l.getD i z))
 | 0,ds,l,h1,h2,h3=>by
  have:ds = []:=List.eq_nil_of_length_eq_zero (by simpa using h2)
  subst this
  exact .nil
 | n+1,ds,l,h1,h2,h3=>by
  cases l with
  | nil=>simp at h1
  | cons x l =>
   rw [List.range_succ_eq_map,List.flatMap_cons,List.flatMap_map]
   have e:ds = ds.take k++ds.drop k:=(List.take_append_drop k ds).symm
   rw [e]
   refine .app (by simpa using h3 0 x rfl) ?_
   have:=Es (g:=g) (z:=z) (k:=k) n (ds.drop k) l (by simpa using h1) (by rw [List.length_drop,h2,Nat.add_mul];omega) fun i y hy=>by
    have:=h3 (i+1) y (by simpa using hy)
    rw [Nat.add_mul,Nat.one_mul,Nat.add_comm, ← List.drop_drop] at this
    exact this
   simpa using this
theorem kA:∀ (t:Ty) (ds:List D) (x:t.T),je t ds = some x→dF ds (t.enc x)
 | .st k,ds,x,h=>by
  rw [je] at h
  cases hp:zI (lf k) ds with
  | none=>rw [hp] at h;cases h
  | some p =>
   rw [hp] at h;cases h
   have:=Jt _ _ _ hp
   show dF ds (eX (lf k) (Cp k (Hl k p)))
   rw [IF];exact this
 | .arr n t,ds,x,h=>by
  rw [je] at h
  obtain ⟨h1,h2,h3⟩:=qO (g:=t.enc) (kA t) (kc t) n ds x h
  exact Es n ds x h1 h2 h3
 | .i k,[d],x,h=>.cons (fZ (t:=.i k) h) .nil
 | .b,[d],x,h=>.cons (fZ (t:=.b) h) .nil
 | .s,[d],x,h=>.cons (fZ (t:=.s) h) .nil
 | .ls t,[d],x,h=>.cons (fZ (t:=.ls t) h) .nil
 | .i _,[],_,h=>by simp [je] at h
 | .b,[],_,h=>by simp [je] at h
 | .s,[],_,h=>by simp [je] at h
 | .ls _,[],_,h=>by simp [je] at h
 | .i _,_ :: _ :: _,_,h=>by simp [je] at h
 | .b,_ :: _ :: _,_,h=>by simp [je] at h
 | .s,_ :: _ :: _,_,h=>by simp [je] at h
 | .ls _,_ :: _ :: _,_,h=>by simp [je] at h
theorem dF.at {ds ds':List D} (h:dF ds ds') {j:Nat} {d':D} (hd:ds'[j]? = some d'):∃ d,ds[j]? = some d∧ve d d':=by
 have hl:j < ds.length:=by rw [h.1];exact (List.getElem?_eq_some_iff.1 hd).1
 exact ⟨ds[j],List.getElem?_eq_getElem hl,h.2 j _ _ (List.getElem?_eq_getElem hl) hd⟩
theorem A4 {t:Ty} {k n:Nat} {ds:List D} {l:List t.T} (hk:t.k = k) (h:rE (je t) k n ds = some l):l.length = n∧ds.length = n*k:=by
 subst hk
 obtain ⟨h1,h2,_⟩:=qO (kA t) (kc t) n ds l h
 exact ⟨h1,h2⟩
theorem A5 {t:Ty} {k n:Nat} {ds:List D} {l:List t.T} (hk:t.k = k) (h:rE (je t) k n ds = some l) {i j:Nat} {d':D} (hi:i < n) (hd:(els t l i)[j]? = some d'):j < k∧∃ d,ds[i*k+j]? = some d∧ve d d':=by
 subst hk
 obtain ⟨h1,h2,h3⟩:=qO (kA t) (kc t) n ds l h
 have hi':i < l.length:=by omega
 have hj:j < t.k:=by rw [← dB t l i];exact (List.getElem?_eq_some_iff.1 hd).1
 have e:els t l i = t.enc l[i]:=by rw [d7,List.getD_eq_getElem?_getD,List.getElem?_eq_getElem hi'];rfl
 rw [e] at hd
 obtain ⟨d,g1,g2⟩:=(h3 i l[i] (List.getElem?_eq_getElem hi')).at hd
 rw [List.getElem?_take,if_pos hj,List.getElem?_drop] at g1
 exact ⟨hj,d,g1,g2⟩
theorem JX {T:Type} {l:List T} {off n i:Nat} {z:T} (h:i < n):(aj l off n).getD i z = l.getD (off+i) z:=by
 rw [aj,List.getD_eq_getElem?_getD,List.getD_eq_getElem?_getD,List.getElem?_take,if_pos h,List.getElem?_drop]
theorem Ho {t:Ty} {l:List t.T} {off n i:Nat} (h:i < n):els t (aj l off n) i = els t l (off+i):=by rw [d7,d7,JX h]
theorem x7 {T:Type} {l:List T} {off n:Nat} (h:off+n≤l.length):(aj l off n).length = n:=by rw [aj,List.length_take,List.length_drop];omega
theorem AO {t:Ty} {l l':List t.T} {i:Nat}:els t (l++l') i = if i < l.length then els t l i else els t l' (i - l.length):=by
 rw [d7,List.getD_eq_getElem?_getD,List.getElem?_append]
 split <;> rw [d7,List.getD_eq_getElem?_getD]
theorem L5 {t:Ty} {l:List t.T} {i j:Nat} {x:t.T} (h:j < l.length):els t (l.set j x) i = if i = j then t.enc x else els t l i:=by
 rw [d7,List.getD_eq_getElem?_getD,List.getElem?_set]
 by_cases e:j = i
 ·subst e;rw [if_pos rfl,if_pos rfl,if_pos h];rfl
 ·rw [if_neg e,if_neg (fun e'=>e e'.symm),d7,List.getD_eq_getElem?_getD]
theorem Bg {t:Ty} {n i:Nat} {x:t.T} (h:i < n):els t (List.replicate n x) i = t.enc x:=by
 rw [d7,List.getD_eq_getElem?_getD,List.getElem?_replicate,if_pos h];rfl
theorem zD.congr {E:ar} {w:World} {o:Nat} {e:TypeId} {k k' n n':Nat} {el el':Nat→List D} (h:zD E w o e k n el) (hk:k = k') (hn:n = n') (he:∀ i,i < n→dF (el i) (el' i)):zD E w o e k' n' el':=by
 subst hk hn
 obtain ⟨h1,h2⟩:=h
 refine ⟨h1,h2.imp id fun ⟨b,C,h3,h4,h5,h6,h7,h8,h9,h10⟩=>⟨b,C,h3,h4,h5,h6,h7,fun i hi=>by rw [← (he i hi).1];exact h8 i hi,h9,fun i j d u hi hd hu=>?_⟩⟩
 obtain ⟨d0,g1,g2⟩:=(he i hi).at hd
 exact (h10 i j d0 u hi g1 hu).le g2
theorem aG.mono {ok ok':Nat→Prop} {w w':World} (hok:∀ b,ok b→ok' b) (hw:∀ b,ok b→w'.heap[b]? = w.heap[b]?) {v:Value} {d:D} (h:aG ok w v d):aG ok' w' v d:=by
 induction h with
 | unk v=>exact .unk v
 | nil=>exact .nil
 | lit v=>exact .lit v
 | opt b us=>exact .opt b us
 | any v h1=>exact .any v h1
 | sl t xs a n c k el u hn hk he hc hm ha ho hl hu ih =>
  refine .sl t xs a n c k el u hn hk he hc hm (fun hn=>?_) ho hl ih
  obtain ⟨ad,h1,h2,h3⟩:=ha hn
  exact ⟨ad,h1,hok _ h2,fun i j hi hj=>(vC (by rw [oe];exact hw _ h2)).trans (h3 i j hi hj)⟩
theorem gZ (o:Nat):∀ vs:List V,(V.kills o vs).length = vs.length
 | []=>rfl
 | _ :: r=>by simp [V.kills,gZ o r]
theorem lz (o:Nat):∀ (vs:List V) (i:Nat),(V.kills o vs)[i]? = (vs[i]?).map (V.kill o)
 | [],i=>by simp [V.kills]
 | v :: r,0=>by simp [V.kills]
 | v :: r,i+1=>by simp [V.kills,lz o r i]
def V.killAll:List Nat→V→V
 | [],v=>v
 | o :: r,v=>V.killAll r (v.kill o)
theorem af.kill1 {E:ar} {w:World} (o:Nat) {v:Value} {d:V} (h:af E w v d):af E w v (d.kill o):=by
 induction h with
 | c v d h=>exact .c v d h
 | agg vs ds hl h ih =>
  rw [V.kill]
  refine .agg _ _ (by rw [gZ,hl]) fun i v d hv hd=>?_
  rw [lz] at hd
  cases hx:ds[i]? with
  | none=>rw [hx] at hd;cases hd
  | some x=>rw [hx] at hd;cases hd;exact ih i v x hv hx
 | tup vs ds hl h ih =>
  rw [V.kill]
  refine .tup _ _ (by rw [gZ,hl]) fun i v d hv hd=>?_
  rw [lz] at hd
  cases hx:ds[i]? with
  | none=>rw [hx] at hd;cases hd
  | some x=>rw [hx] at hd;cases hd;exact ih i v x hv hx
 | ptr o' k i j b hn hb hi =>
  rw [V.kill]
  cases Nat.beq o' o
  ·exact .ptr o' k i j b hn hb hi
  ·exact .c _ _ (.unk _)
 | row o' k a n c hn hl hc hm h0 =>
  rw [V.kill]
  cases Nat.beq o' o
  ·exact .row o' k a n c hn hl hc hm h0
  ·exact .c _ _ (.unk _)
 | sub o' k off n a c hn hc hm hl ha =>
  rw [V.kill]
  cases Nat.beq o' o
  ·exact .sub o' k off n a c hn hc hm hl ha
  ·exact .c _ _ (.unk _)
 | dptr k cs j ad u hok hcell hl hu=>exact .dptr k cs j ad u hok hcell hl hu
 | fn f vs ds hl h ih =>
  rw [V.kill]
  refine .fn _ _ _ (by rw [gZ,hl]) fun i v d hv hd=>?_
  rw [lz] at hd
  cases hx:ds[i]? with
  | none=>rw [hx] at hd;cases hd
  | some x=>rw [hx] at hd;cases hd;exact ih i v x hv hx
theorem af.killAll {E:ar} {w:World} {v:Value}:∀ (kl:List Nat) {d:V},af E w v d→af E w v (d.killAll kl)
 | [],_,h=>h
 | o :: r,_,h=>af.killAll r (h.kill1 o)
def IR (kl:List Nat) (d:V):Prop:=∀ o∈d.refs,o ∉ kl
theorem bS {o:Nat}:∀ {vs:List V} {i:Nat} {v:V},vs[i]? = some v→o∈v.refs→o∈V.refss vs
 | [],i,v,h,_=>by simp at h
 | x :: r,0,v,h,ho=>by simp at h;subst h;simp [V.refss,ho]
 | x :: r,i+1,v,h,ho=>by
  simp only [V.refss,List.mem_append]
  exact .inr (bS (by simpa using h) ho)
theorem af.mono {E E':ar} {w w':World} {kl:List Nat} (hok:∀ b,E.ok b→E'.ok b) (hw:∀ b,E.ok b→w'.heap[b]? = w.heap[b]?) (hlive:∀ o,E.live o→E'.live o)
  (hc:∀ o,E.live o→o ∉ kl→E'.conc o = E.conc o∧E'.cap o = E.cap o∧E'.len o = E.len o) {v:Value} {d:V} (h:af E w v d) (hd:IR kl d):af E' w' v d:=by
 induction h with
 | c v d h=>exact .c v d (h.mono hok hw)
 | agg vs ds hl h ih=>exact .agg _ _ hl fun i v d hv hd'=>ih i v d hv hd' fun o ho=>hd o (by rw [V.refs];exact bS hd' ho)
 | tup vs ds hl h ih=>exact .tup _ _ hl fun i v d hv hd'=>ih i v d hv hd' fun o ho=>hd o (by rw [V.refs];exact bS hd' ho)
 | ptr o k i j b hn hb hi =>
  obtain ⟨h1,_,h3⟩:=hc o hn (hd o (by simp [V.refs]))
  exact .ptr o k i j b (hlive o hn) (h1.trans hb) (by rw [h3];exact hi)
 | row o k a n c hn hl hcc hm h0 =>
  obtain ⟨h1,h2,h3⟩:=hc o hn (hd o (by simp [V.refs]))
  exact .row o k a n c (hlive o hn) (by rw [h3];exact hl) hcc hm (by rw [h1,h2];exact h0)
 | sub o k off n a c hn hcc hm hl ha =>
  obtain ⟨h1,h2,h3⟩:=hc o hn (hd o (by simp [V.refs]))
  exact .sub o k off n a c (hlive o hn) hcc hm (by rw [h3];exact hl) (by rw [h1];exact ha)
 | dptr k cs j ad u hok' hcell hl hu =>
  exact .dptr k cs j ad u (hok _ hok') (fun i hi=>(vC (by rw [oe];exact hw _ hok')).trans (hcell i hi)) hl fun i d hd'=>(hu i d hd').mono hok hw
 | fn f vs ds hl h ih=>exact .fn _ _ _ hl fun i v d hv hd'=>ih i v d hv hd' fun o ho=>hd o (by rw [V.refs];exact bS hd' ho)
mutual
theorem kill_refs (o:Nat):∀ d:V, ∀ x∈(d.kill o).refs,x∈d.refs∧x≠o
 | .c _=>by simp [V.kill,V.refs]
 | .agg vs=>by simp only [V.kill,V.refs];exact kills_refs o vs
 | .tup vs=>by simp only [V.kill,V.refs];exact kills_refs o vs
 | .ptr o' k i j=>by
  intro x hx
  rw [V.kill] at hx
  cases h:Nat.beq o' o
  ·rw [h] at hx
   simp [V.refs] at hx ⊢
   subst hx
   exact ⟨rfl,fun e=>by subst e;simp at h⟩
  ·rw [h] at hx;simp [V.refs] at hx
 | .row o' k=>by
  intro x hx
  rw [V.kill] at hx
  cases h:Nat.beq o' o
  ·rw [h] at hx
   simp [V.refs] at hx ⊢
   subst hx
   exact ⟨rfl,fun e=>by subst e;simp at h⟩
  ·rw [h] at hx;simp [V.refs] at hx
 | .sub o' k i j=>by
  intro x hx
  rw [V.kill] at hx
  cases h:Nat.beq o' o
  ·rw [h] at hx
   simp [V.refs] at hx ⊢
   subst hx
   exact ⟨rfl,fun e=>by subst e;simp at h⟩
  ·rw [h] at hx;simp [V.refs] at hx
 | .dptr ..=>by simp [V.kill,V.refs]
 | .fn _ vs=>by simp only [V.kill,V.refs];exact kills_refs o vs
theorem kills_refs (o:Nat):∀ vs:List V, ∀ x∈V.refss (V.kills o vs),x∈V.refss vs∧x≠o
 | []=>by simp [V.kills,V.refss]
 | v :: r=>by
  intro x hx
  simp only [V.kills,V.refss,List.mem_append] at hx ⊢
  rcases hx with hx | hx
  ·exact ⟨.inl (kill_refs o v x hx).1,(kill_refs o v x hx).2⟩
  ·exact ⟨.inr (kills_refs o r x hx).1,(kills_refs o r x hx).2⟩
end
theorem uD:∀ (kl:List Nat) (d:V),(∀ x∈(d.killAll kl).refs,x∈d.refs)∧IR kl (d.killAll kl)
 | [],d=>⟨fun _ h=>h,fun _ _=>by simp⟩
 | o :: r,d=>by
  obtain ⟨h1,h2⟩:=uD r (d.kill o)
  refine ⟨fun x hx=>(kill_refs o d x (h1 x hx)).1,fun x hx=>?_⟩
  have:=(kill_refs o d x (h1 x hx)).2
  simp [this,h2 x hx]
theorem af.step {E E':ar} {w w':World} {kl:List Nat} (H:cQ E w kl E' w') (hsep:∀ o b,E.live o→E.conc o = some b→¬ E.ok b) (hlt:∀ b,E.ok b→b < w.heap.size)
  {v:Value} {d:V} (h:af E w v d):af E' w' v (d.killAll kl) :=
 (h.killAll kl).mono H.ok (fun b hb=>H.blk b (hlt b hb) fun o ho hc=>hsep o b ho hc hb) H.live H.conc (uD kl d).2
end Go.Ax
namespace Go.Ax
open Go.RowKit
theorem af.lit_inv {E:ar} {w:World} {v u:Value} (h:af E w v (.c (.lit u))):v = u:=by
 cases h with | c _ _ h=>cases h;rfl
theorem af.nil_inv {E:ar} {w:World} {v:Value} (h:af E w v (.c .nil)):v = .slice none 0 0:=by
 cases h with | c _ _ h=>cases h;rfl
theorem af.lit {E:ar} {w:World} (v:Value):af E w v (.c (.lit v)):=.c _ _ (.lit v)
theorem af.unk {E:ar} {w:World} (v:Value):af E w v (.c .unk):=.c _ _ (.unk v)
theorem af.agg_inv {E:ar} {w:World} {v:Value} {ds:List V} (h:af E w v (.agg ds)):∃ vs:List Value,v = .agg vs.toArray∧aI E w vs ds:=by
 cases h with | agg vs _ hl h=>exact ⟨vs,rfl,hl,h⟩
def s7 (P:Program) (ρ:Operand→Value) (o:Oper) (E:ar) (w:World) (d:V):Prop :=
 ∃ v,(execOp ρ o).run P w = .ok (.value v) w∧af E w v d
section
variable {P:Program} {ρ:Operand→Value} {E:ar} {w:World}
theorem H3 {o:Oper} {x:Operand} (ho:o.op = .move x) {d:V} (h:af E w (ρ x) d):s7 P ρ o E w d :=
 ⟨ρ x,by simp [execOp,ho],h⟩
theorem Fo {o:Oper} {x:Operand} (ho:o.op = .assign x) {d:V} (h:af E w (ρ x) d):s7 P ρ o E w d :=
 ⟨ρ x,by simp [execOp,ho],h⟩
theorem Id {op:BinOp} {k:IntKind} {a b:Int} {t:TypeId} {r:aB} (h:FU op k a b = some r) (hp:∀ p∈r.pre,p) :
    ∃ u,r.val = .c (.lit u)∧r.eff = []∧r.kill = []∧(binOp op t (.int k a) (.int k b)).run P w = .ok u w:=by
  cases op <;> simp only [FU,Option.some.injEq,reduceCtorEq] at h <;> subst h <;> refine ⟨_,rfl,rfl,rfl, ?_⟩ <;>
    first
      | (have hb:b≠0:=hp _ (List.mem_singleton.2 rfl);simp [binOp,Op.intDiv,hb];done)
      | (simp [binOp,Op.intArith,Op.intCmp,Op.intBits];done)
      | (simp [binOp,Op.intArith,Op.intCmp,Op.intBits,Ba,p9,jl,He];done)
theorem vA {op:BinOp} {k k':IntKind} {a b:Int} {t:TypeId} {r:aB} (h:tK op k a b = some r) (hp:∀ p∈r.pre,p) :
    ∃ u,r.val = .c (.lit u)∧r.eff = []∧r.kill = []∧(binOp op t (.int k a) (.int k' b)).run P w = .ok u w:=by
  cases op <;> simp only [tK,Option.some.injEq,reduceCtorEq] at h <;> subst h <;> refine ⟨_,rfl,rfl,rfl, ?_⟩ <;>
    (have hb:0≤b:=hp _ (List.mem_singleton.2 rfl);have hb':¬ b < 0:=by omega
     simp [binOp,Op.shift,hb'])
theorem HW {op:BinOp} {a b:ByteArray} {t:TypeId} {r:aB} (h:DW op a b = some r) (hp:∀ p∈r.pre,p) :
    ∃ u,r.val = .c (.lit u)∧r.eff = []∧r.kill = []∧(binOp op t (.string a) (.string b)).run P w = .ok u w:=by
  cases op <;> simp only [DW,Option.some.injEq,reduceCtorEq] at h <;> subst h <;> refine ⟨_,rfl,rfl,rfl, ?_⟩ <;>
    first
      | (have hb:a.size+b.size≤9223372036854775807:=hp _ (List.mem_singleton.2 rfl)
         have hb':¬ (((a.size+b.size:Nat):Int) > IntKind.i64.max):=by
           have:IntKind.i64.max = 9223372036854775807:=by decide
           rw [this];omega
         simp only [binOp,Op.stringOp];rw [if_neg hb'];simp;done)
      | (simp [binOp,Op.stringOp];done)
theorem qc {t:TypeId} (h:dJ P t = true):∃ d,P.underlying t = some d:=by
 unfold dJ ee sz at h
 cases hu:P.underlying t with
 | some d=>exact ⟨d,rfl⟩
 | none=>rw [hu] at h;simp at h
theorem qN {t:TypeId} (h:dJ P t = true):(isAgg t).run P w = .ok (ee P t) w:=by
 obtain ⟨d,hd⟩:=qc h
 unfold isAgg ee
 simp only [Sem.run_bind,run_underlying hd,Result.andThen_ok,hd]
 cases d <;> simp
theorem Cm {t:TypeId} {d:TypeDesc} (h:P.underlying t = some d):∃ i,P.info? t = some i:=by
 cases hi:P.info? t with
 | some i=>exact ⟨i,rfl⟩
 | none=>simp [Program.underlying,hi] at h
theorem Hy {t:TypeId} {d:TypeDesc} {i:TypeInfo} (h:P.underlying t = some d) (hi:P.info? t = some i):sz P t = i.size:=by simp [sz,h,hi]
theorem br {t:TypeId} {d:TypeDesc} (h:P.underlying t = some d):(sizeOf t).run P w = .ok (sz P t) w:=by
 obtain ⟨i,hi⟩:=Cm h
 simp [sizeOf,typeInfo,hi,Hy h hi]
theorem uL (cs:Array Value) (a n:Nat):(cs.extract a (a+n)).toList = (cs.toList.drop a).take n:=by
 rw [Array.toList_extract,List.extract_eq_take_drop];congr 1;omega
theorem aI.get {vs:List Value} {ds:List V} (h:aI E w vs ds) {i:Nat} {d:V} (hd:ds[i]? = some d):∃ v,vs[i]? = some v∧af E w v d:=by
 have hl:i < vs.length:=by rw [h.1];exact (List.getElem?_eq_some_iff.1 hd).1
 exact ⟨vs[i],List.getElem?_eq_getElem hl,h.2 i _ _ (List.getElem?_eq_getElem hl) hd⟩
theorem aI.take {vs:List Value} {ds:List V} (h:aI E w vs ds) (a n:Nat):aI E w ((vs.drop a).take n) ((ds.drop a).take n):=by
 refine ⟨by simp [h.1],fun i v d hv hd=>?_⟩
 rw [List.getElem?_take] at hv hd
 split at hv
 ·next hi =>
  rw [if_pos hi] at hd
  rw [List.getElem?_drop] at hv hd
  exact h.2 _ _ _ hv hd
 ·cases hv
theorem mO {t:TypeId} {cs:Array Value} {ds:List V} {off:Nat} (h:aI E w cs.toList ds) (ht:dJ P t = true) (hl:off+sz P t≤ds.length) :
  ∃ v,(part t cs off).run P w = .ok v w∧af E w v (j7 (ee P t) ds off (sz P t)):=by
 obtain ⟨d,hd⟩:=qc ht
 unfold part j7
 simp only [Sem.run_bind,qN ht,Result.andThen_ok]
 cases hag:ee P t with
 | true =>
  simp only [if_true,Sem.run_bind,br hd,Result.andThen_ok,Sem.run_pure,cond_true]
  refine ⟨_,rfl, ?_⟩
  have:=aI.take h off (sz P t)
  rw [← uL] at this
  exact .agg _ _ this.1 this.2
 | false =>
  have hs:0 < sz P t:=by simp [dJ,hag] at ht;omega
  have hlt:off < ds.length:=by omega
  obtain ⟨v,hv,hr⟩:=h.get (List.getElem?_eq_getElem hlt)
  have hv':cs[off]? = some v:=by rw [← Array.getElem?_toList];exact hv
  simp only [Bool.false_eq_true,if_false,hv',Sem.run_pure,cond_false]
  refine ⟨_,rfl, ?_⟩
  rw [List.drop_eq_getElem_cons hlt]
  exact hr
theorem AL:∀ (d m:Nat) (t:TypeId) (x y:V) (b:Bool) (vx vy:Value),zM P d t x y = some b→af E w vx x→af E w vy y →
  (Op.equalIn (d+m) t vx vy).run P w = .ok b w:=by
 intro d
 induction d with
 | zero=>intro m t x y b vx vy h;simp [zM] at h
 | succ d ih =>
  intro m t x y b vx vy h hx hy
  rw [show d+1+m = (d+m)+1 by omega]
  unfold zM at h
  split at h
  ·next hu =>
   cases hx.lit_inv;cases hy.lit_inv
   split at h
   ·next hk=>subst hk;cases h;exact run_equalIn_int w _ t _ _ _ _ hu
   ·cases h
  ·next hu=>cases hx.lit_inv;cases hy.lit_inv;cases h;exact run_equalIn_bool' w _ t _ _ hu
  ·next hu=>cases hx.lit_inv;cases hy.lit_inv;cases h;exact run_equalIn_string w _ t _ _ hu
  ·next fs xs ys hu =>
   obtain ⟨us,rfl,hus⟩:=hx.agg_inv
   obtain ⟨zs,rfl,hzs⟩:=hy.agg_inv
   cases hst:P.stoodInHeld t with
   | true=>simp [hst] at h
   | false =>
    simp only [hst,cond_false] at h
    have hf:P.fieldsOf t = fs:=by simp [Program.fieldsOf,hu]
    rw [run_equalIn_struct w _ t _ _ (by rw [hf];exact hu) hst,hf]
    generalize fs.toList = L at h
    clear hf hu
    induction L generalizing b with
    | nil=>simp at h;subst h;simp [Op.eqFields]
    | cons f L ihL =>
     rw [List.foldr_cons] at h
     cases hn:f.name == "_" with
     | true=>simp [hn] at h
     | false =>
      simp only [hn,cond_false] at h
      cases hc:(Nat.ble (f.offset+sz P f.type) xs.length&&Nat.ble (f.offset+sz P f.type) ys.length&&dJ P f.type) with
      | false=>simp [hc] at h
      | true =>
       simp only [hc,cond_true] at h
       simp only [Bool.and_eq_true,Nat.ble_eq] at hc
       split at h
       ·next a c ha hr =>
        cases h
        obtain ⟨p,hp,rp⟩:=mO (cs:=us.toArray) (by simpa using hus) hc.2 hc.1.1
        obtain ⟨q,hq,rq⟩:=mO (cs:=zs.toArray) (by simpa using hzs) hc.2 hc.1.2
        have hne:f.name ≠ "_" := by simpa using hn
        have:=ih m f.type _ _ _ p q ha rp rq
        unfold Op.eqFields
        rw [if_pos hne]
        simp only [Sem.run_bind,hp,hq,this,Result.andThen_ok]
        cases a
        ·simp
        ·simp [ihL _ hr]
       ·cases h
  ·next len e xs ys hu =>
   obtain ⟨us,rfl,hus⟩:=hx.agg_inv
   obtain ⟨zs,rfl,hzs⟩:=hy.agg_inv
   cases hc:(Nat.ble (len*sz P e) xs.length&&Nat.ble (len*sz P e) ys.length&&dJ P e) with
   | false=>rw [hc] at h;cases h
   | true =>
    simp only [hc,cond_true] at h
    simp only [Bool.and_eq_true,Nat.ble_eq] at hc
    obtain ⟨de,hde⟩:=qc hc.2
    obtain ⟨i,hi⟩:=Cm hde
    have hcells:P.cellsOf e = sz P e:=by rw [Hy hde hi];simp [Program.cellsOf,hi]
    rw [run_equalIn_array w _ _ _ hu hi,hcells]
    have key:∀ (L:List Nat) (b:Bool),(∀ q∈L,q < len)→L.foldr (fun i acc =>
      match zM P d e (j7 (ee P e) xs (i*sz P e) (sz P e)) (j7 (ee P e) ys (i*sz P e) (sz P e)),acc with
      | some a,some b=>some (a&&b)
      | _,_=>none) (some true) = some b→(Op.eqItems (d+m) e (sz P e) us.toArray zs.toArray L).run P w = .ok b w:=by
     intro L
     induction L with
     | nil=>intro b _ h;simp at h;subst h;simp [Op.eqItems]
     | cons j L ihL =>
      intro b hL h
      rw [List.foldr_cons] at h
      split at h
      ·next a c ha hr =>
       cases h
       have hj:=hL j (by simp)
       have hle:j*sz P e+sz P e≤len*sz P e:=by
        have:=Nat.mul_le_mul_right (sz P e) (show j+1≤len from hj)
        rw [Nat.add_mul,Nat.one_mul] at this;exact this
       obtain ⟨p,hp,rp⟩:=mO (cs:=us.toArray) (by simpa using hus) hc.2 (Nat.le_trans hle hc.1.1)
       obtain ⟨q,hq,rq⟩:=mO (cs:=zs.toArray) (by simpa using hzs) hc.2 (Nat.le_trans hle hc.1.2)
       have:=ih m e _ _ _ p q ha rp rq
       unfold Op.eqItems
       simp only [Sem.run_bind,hp,hq,this,Result.andThen_ok]
       cases a
       ·simp
       ·simp [ihL _ (fun q hq=>hL q (by simp [hq])) hr]
      ·cases h
    exact key _ _ (fun q hq=>List.mem_range.1 hq) h
  ·cases h
end
end Go.Ax
namespace Go.Ax
open Go.RowKit
def gX (P:Program) (ρ:Operand→Value) (o:Oper) (E:ar) (w:World) (r:aB):Prop :=
 r.eff = []∧r.kill = []∧s7 P ρ o E w r.val
section
variable {P:Program} {ρ:Operand→Value} {E:ar} {w:World} {o:Oper} {r:aB}
def JS:Value→Bool
 | .int _ _=>true
 | .bool _=>true
 | .string _=>true
 | _=>false
theorem kr (op:BinOp) (t:TypeId) (x y:Operand) (a b:Value) (h:JS a = true) :
  (eqGuard op t x y a b).run P w = .ok () w:=by
 cases a <;> simp [JS] at h <;> cases op <;> simp [eqGuard]
theorem z7 (op:BinOp) (t:TypeId) (x y:Operand) (xs ys:Array Value) (h:P.eqGuardType P.depth t = false) :
  (eqGuard op t x y (.agg xs) (.agg ys)).run P w = .ok () w:=by
 cases op <;> simp [eqGuard,h]
theorem mE {d:Nat} {t e:TypeId} {ad:Addr} (h:P.underlying t = some (.pointer e)) :
  (Op.equalIn (d+1) t (.pointer (some ad)) (.pointer none)).run P w = .ok false w:=by
 simp [Op.equalIn,run_underlying h]
theorem J7 {op:BinOp} {t ty:TypeId} {x y:Operand} (ho:o.op = .binOp op t x y ty) {vx vy:V} (hx:af E w (ρ x) vx) (hy:af E w (ρ y) vy)
  (h:Lo P op t vx vy = some r) (hp:∀ p∈r.pre,p):gX P ρ o E w r:=by
 have key:∀ u,(eqGuard op t x y (ρ x) (ρ y)).run P w = .ok () w→(binOp op t (ρ x) (ρ y)).run P w = .ok u w→(execOp ρ o).run P w = .ok (.value u) w:=by
  intro u h1 h2
  simp only [execOp,ho,Sem.run_bind,h1,h2,Result.andThen_ok,Sem.run_pure]
 unfold Lo at h
 split at h
 ·next k a k' b =>
  have ex:=hx.lit_inv;have ey:=hy.lit_inv
  have hg:(eqGuard op t x y (ρ x) (ρ y)).run P w = .ok () w:=kr _ _ _ _ _ _ (by rw [ex];rfl)
  have fin:(∃ u,r.val = .c (.lit u)∧r.eff = []∧r.kill = []∧(binOp op t (.int k a) (.int k' b)).run P w = .ok u w)→gX P ρ o E w r:=by
   rintro ⟨u,h1,h2,h3,h4⟩
   rw [← ex, ← ey] at h4
   exact ⟨h2,h3,u,key u hg h4,by rw [h1];exact .lit u⟩
  split at h
  ·exact fin (vA h hp)
  ·exact fin (vA h hp)
  ·next op h1 h2 =>
   split at h
   ·next hk=>subst hk;exact fin (Id h hp)
   ·cases h
 ·next a b =>
  have ex:=hx.lit_inv;have ey:=hy.lit_inv
  have hg:(eqGuard op t x y (ρ x) (ρ y)).run P w = .ok () w:=kr _ _ _ _ _ _ (by rw [ex];rfl)
  obtain ⟨u,h1,h2,h3,h4⟩:=HW (P:=P) (w:=w) (t:=t) h hp
  rw [← ex, ← ey] at h4
  exact ⟨h2,h3,u,key u hg h4,by rw [h1];exact .lit u⟩
 ·next a b =>
  have ex:=hx.lit_inv;have ey:=hy.lit_inv
  have hg:(eqGuard op t x y (ρ x) (ρ y)).run P w = .ok () w:=kr _ _ _ _ _ _ (by rw [ex];rfl)
  split at h
  ·next hu =>
   cases h
   refine ⟨rfl,rfl,_,key _ hg ?_, .lit _⟩
   rw [ex,ey]
   simp [binOp,Op.equal,Op.maxDepth,run_equalIn_bool' w _ t _ _ hu]
  ·next hu =>
   cases h
   refine ⟨rfl,rfl,_,key _ hg ?_, .lit _⟩
   rw [ex,ey]
   simp [binOp,Op.equal,Op.maxDepth,run_equalIn_bool' w _ t _ _ hu]
  ·cases h
 ·next xs ys =>
  obtain ⟨us,ex,hus⟩:=hx.agg_inv
  obtain ⟨zs,ey,hzs⟩:=hy.agg_inv
  cases hgt:P.eqGuardType P.depth t with
  | true=>simp [hgt] at h
  | false =>
   simp only [hgt,cond_false] at h
   have hg:(eqGuard op t x y (ρ x) (ρ y)).run P w = .ok () w:=by rw [ex,ey];exact z7 _ _ _ _ _ _ hgt
   split at h
   ·next b hb =>
    cases h
    have:=AL (P:=P) (w:=w) 10 9990 t _ _ b _ _ hb hx hy
    refine ⟨rfl,rfl,_,key _ hg ?_, .lit _⟩
    rw [ex,ey] at this ⊢
    simp only [binOp,Op.equal,Op.maxDepth,Sem.run_bind]
    rw [show (10000:Nat) = 10+9990 from rfl,this]
    rfl
   ·next b hb =>
    cases h
    have:=AL (P:=P) (w:=w) 10 9990 t _ _ b _ _ hb hx hy
    refine ⟨rfl,rfl,_,key _ hg ?_, .lit _⟩
    rw [ex,ey] at this ⊢
    simp only [binOp,Op.equal,Op.maxDepth,Sem.run_bind]
    rw [show (10000:Nat) = 10+9990 from rfl,this]
    rfl
   ·cases h
 ·next o' k i j =>
  have ey:=hy.lit_inv
  obtain ⟨ad,ex⟩:∃ ad,ρ x = .pointer (some ad):=by
   generalize ρ x = v at hx
   cases hx with
   | ptr _ _ _ _ b hn hb hi=>exact ⟨_,rfl⟩
  have hg:(eqGuard op t x y (ρ x) (ρ y)).run P w = .ok () w:=by rw [ex];cases op <;> simp [eqGuard]
  split at h
  ·next e hu =>
   cases h
   refine ⟨rfl,rfl,_,key _ hg ?_, .lit _⟩
   rw [ex,ey]
   simp only [binOp,show Op.equal t (.pointer (some ad)) (.pointer none) = Op.equalIn (9999+1) t (.pointer (some ad)) (.pointer none) from rfl,Sem.run_bind,mE hu,Result.andThen_ok,Sem.run_pure]
  ·next e hu =>
   cases h
   refine ⟨rfl,rfl,_,key _ hg ?_, .lit _⟩
   rw [ex,ey]
   simp only [binOp,show Op.equal t (.pointer (some ad)) (.pointer none) = Op.equalIn (9999+1) t (.pointer (some ad)) (.pointer none) from rfl,Sem.run_bind,mE hu,Result.andThen_ok,Sem.run_pure]
   rfl
  ·cases h
 ·cases h
theorem Kv {op:UnOp} {t:TypeId} {x:Operand} (ho:o.op = .unOp op t x) {vx:V} (hx:af E w (ρ x) vx) (h:M4 op vx = some r):gX P ρ o E w r:=by
 unfold M4 at h
 split at h
 ·cases h
  have ex:=hx.lit_inv
  exact ⟨rfl,rfl,_,by simp [execOp,ho,ex,Op.unary,Op.intArith], .lit _⟩
 ·cases h
  have ex:=hx.lit_inv
  exact ⟨rfl,rfl,_,by simp [execOp,ho,ex,Op.unary,Op.intBits,jl], .lit _⟩
 ·cases h
  have ex:=hx.lit_inv
  exact ⟨rfl,rfl,_,by simp [execOp,ho,ex,Op.unary], .lit _⟩
 ·cases h
theorem IL {s d:TypeId} {x:Operand} (ho:o.op = .convert s d x) {vx:V} (hx:af E w (ρ x) vx) (h:HJ P s d vx = some r):gX P ρ o E w r:=by
 unfold HJ at h
 split at h
 ·next hs hd =>
  cases h
  have ex:=hx.lit_inv
  exact ⟨rfl,rfl,_,by simp [execOp,ho,ex,convert,run_underlying hs,run_underlying hd,Conv.intToInt], .lit _⟩
 ·next hs hd =>
  cases h
  have ex:=hx.lit_inv
  exact ⟨rfl,rfl,_,by simp [execOp,ho,ex,convert,run_underlying hs,run_underlying hd], .lit _⟩
 ·cases h
theorem BD {x:Operand} (ho:o.op = .nilCheck x) {vx:V} (hx:af E w (ρ x) vx)
  (h:oh vx = some r):gX P ρ o E w r:=by
 have hx':=hx
 generalize hv:ρ x = v at hx
 cases hx with
 | fn f vs ds hl hh =>
  cases hlt:Nat.blt f 1000000000 with
  | false=>simp [oh,hlt] at h
  | true =>
   simp only [oh,hlt,cond_true,Option.some.injEq] at h
   subst h
   rw [pW hlt] at hv
   exact ⟨rfl,rfl,ρ x,by simp [execOp,ho,hv],hx'⟩
 | _=>simp only [oh,Option.some.injEq,reduceCtorEq] at h <;> subst h <;> exact ⟨rfl,rfl,ρ x,by simp [execOp,ho,hv],hx'⟩
theorem uJ {t:TypeId} {f off:Nat} {ft:TypeId} (h:tk P t f = some (off,ft)):∃ fs fl,P.underlying t = some (.struct fs)∧fs[f]? = some fl∧fl.offset = off∧fl.type = ft:=by
 unfold tk at h
 split at h
 ·next fs hu =>
  split at h
  ·next fl hf=>cases h;exact ⟨fs,fl,hu,hf,rfl,rfl⟩
  ·cases h
 ·cases h
theorem IS {t:TypeId} (h:sz P t≠0):∃ d,P.underlying t = some d:=by
 cases hu:P.underlying t with
 | some d=>exact ⟨d,rfl⟩
 | none=>simp [sz,hu] at h
theorem Ad {t:TypeId} {x:Operand} {f:Nat} (ho:o.op = .fieldAddr t x f) {vx:V} (hx:af E w (ρ x) vx)
  (h:tU P t f vx = some r):gX P ρ o E w r:=by
 unfold tU at h
 split at h
 ·next off ft hf =>
  obtain ⟨fs,fl,hu,hfl,rfl,rfl⟩:=uJ hf
  cases hs:Nat.beq (sz P fl.type) 0 with
  | true=>simp [hs] at h
  | false =>
   simp only [hs,cond_false] at h
   have hs':sz P fl.type≠0:=fun e=>by rw [e] at hs;simp at hs
   obtain ⟨d,hd⟩:=IS hs'
   have key:∀ a:Addr,ρ x = .pointer (some a)→(execOp ρ o).run P w = .ok (.value (.pointer (some (a.add fl.offset)))) w:=by
    intro a ha
    simp [execOp,ho,ha,Instr.fieldAt,run_underlying hu,hfl,Instr.sureAddr,fieldPlace,br hd,hs']
   generalize hv:ρ x = v at hx
   cases hx <;> simp only [Option.some.injEq,reduceCtorEq] at h <;> subst h
   ·next o' k i j b hn hb hi =>
    refine ⟨rfl,rfl,_,key _ hv, ?_⟩
    rw [bQ,Nat.add_assoc]
    exact .ptr o' k i _ b hn hb hi
   ·next k cs j ad u hok hcell hl hu' =>
    refine ⟨rfl,rfl,_,key _ hv, ?_⟩
    rw [lG]
    exact .dptr k cs _ ad u hok hcell hl hu'
 ·cases h
theorem GA {t:TypeId} {x:Operand} {f:Nat} (ho:o.op = .field t x f) {vx:V} (hx:af E w (ρ x) vx) (h:EH P t f vx = some r):gX P ρ o E w r:=by
 unfold EH at h
 split at h
 ·next cs off ft hf =>
  obtain ⟨fs,fl,hu,hfl,rfl,rfl⟩:=uJ hf
  cases hc:(Nat.ble (fl.offset+sz P fl.type) cs.length&&dJ P fl.type) with
  | false=>simp [hc] at h
  | true =>
   simp only [hc,cond_true] at h
   cases h
   simp only [Bool.and_eq_true,Nat.ble_eq] at hc
   obtain ⟨us,ex,hus⟩:=hx.agg_inv
   obtain ⟨v,hv,rv⟩:=mO (P:=P) (cs:=us.toArray) (by simpa using hus) hc.2 hc.1
   exact ⟨rfl,rfl,v,by simp [execOp,ho,ex,Instr.field,run_underlying hu,hfl,asAgg,hv],rv⟩
 ·cases h
theorem Dg {x:Operand} {ix:Nat} (ho:o.op = .extract x ix) {vx:V} (hx:af E w (ρ x) vx) (hr:yf ix vx = some r) (hp:∀ p∈r.pre,p):gX P ρ o E w r:=by
 unfold yf at hr
 split at hr
 ·next vs =>
  split at hr
  ·next d hd =>
   cases hr
   generalize hv:ρ x = v at hx
   cases hx with
   | tup us _ hl' h =>
    obtain ⟨u,hu,ru⟩:=aI.get ⟨hl',h⟩ hd
    exact ⟨rfl,rfl,u,by simp [execOp,ho,hv,Instr.extract,hu],ru⟩
  ·cases hr
 ·next b us =>
  generalize hv:ρ x = v at hx
  cases hx with
  | c _ _ hx =>
  cases hx
  split at hr
  ·cases hr
   refine ⟨rfl,rfl, .bool b, ?_, .lit _⟩
   cases b <;> simp [execOp,ho,hv,Aj,Instr.extract]
  ·next i =>
   split at hr
   ·next u hu =>
    cases hr
    have hb:b = true:=hp _ (by simp)
    subst hb
    refine ⟨rfl,rfl,u, ?_, .lit _⟩
    simp [execOp,ho,hv,Aj,Instr.extract,hu]
   ·cases hr
 ·cases hr
theorem Bt {f:FuncId} {first caps:Array Operand} (ho:o.op = .makeFunc (.func f) first caps) (hf:first.isEmpty = true) (hlt:Nat.blt f 1000000000 = true) {vs:List V}
  (hv:aI E w (caps.toList.map ρ) vs):s7 P ρ o E w (.fn f vs):=by
 have h0:first = #[]:=by simpa using hf
 refine ⟨.func (.func f) #[] (caps.map ρ),by simp [execOp,ho,Instr.makeFunc,h0], ?_⟩
 have:caps.map ρ = (caps.toList.map ρ).toArray:=by rw [← Array.toList_map,Array.toArray_toList]
 rw [this, ← pW hlt]
 exact .fn f _ _ hv.1 hv.2
theorem uR {t e:TypeId} {x:Operand} (ht:Nat.blt t 1000000000 = true) (ho:o.op = .makeInterface t x) (hu:P.underlying t = some (.slice e)) {v:V} (hv:af E w (ρ x) v):s7 P ρ o E w (.fn (1000000000+t) [v]):=by
 refine ⟨.iface t (ρ x),by simp [execOp,ho,Instr.makeInterface,run_underlying hu], ?_⟩
 have e:lS (1000000000+t) [ρ x] = .iface t (ρ x):=by
  unfold lS
  have:Nat.blt (1000000000+t) 1000000000 = false:=by
   cases h:Nat.blt (1000000000+t) 1000000000 with
   | false=>rfl
   | true=>rw [Nat.blt_eq] at h;omega
  have h2:Nat.blt (1000000000+t) 2000000000 = true:=by
   rw [Nat.blt_eq] at ht ⊢; omega
  rw [this,h2,cond_false,cond_true,Nat.add_sub_cancel_left]
  rfl
 rw [← e]
 refine .fn (1000000000+t) [ρ x] [v] rfl fun i u d hu hd=>?_
 match i with
 | 0=>simp at hu hd;subst hu hd;exact hv
 | i+1=>simp at hu
theorem fX {H:ab} {v:Value} {m:V} (hH:aw E w H) (h:af E w v m) {o':Nat} {ob:Ob} (hm:kS H m = some (o',ob)):∃ b,v = .map (some b)∧E.live o'∧E.conc o' = some b∧H.get o' = some ob:=by
 unfold kS at hm
 split at hm
 ·next f o1 k i j =>
  cases hb:Nat.beq f 2000000000 with
  | false=>rw [hb] at hm;cases hm
  | true =>
   rw [hb,cond_true] at hm
   have:=Nat.eq_of_beq_eq_true hb
   subst this
   split at hm
   ·next b hg =>
    cases hm
    generalize he:V.fn 2000000000 [V.ptr o' k i j] = d at h
    cases h with
    | fn f vs ds hl h =>
     cases he
     obtain ⟨u,rfl⟩:∃ u,vs = [u]:=by
      match vs,hl with
      | [u],_=>exact ⟨u,rfl⟩
     have h0:=h 0 u _ rfl rfl
     cases h0 with
     | ptr _ _ _ _ bl hn hb hi =>
      refine ⟨bl, ?_,hn,hb,hg⟩
      unfold lS
      rfl
    | _=>cases he
   ·cases hm
 ·cases hm
theorem Jr {H:ab} (hH:aw E w H) {c:Call} (ho:o.op = .call c) (hc:c.callee = .builtin .len) {x:Operand} (ha:c.args = #[x]) {t:TypeId} {d:TypeDesc} (ht:c.argTypes[0]? = some t) (hu:P.underlying t = some d)
  {vx:V} (hx:af E w (ρ x) vx) (h:tj P H t vx = some r):gX P ρ o E w r:=by
 have key:∀ n:Int,(Builtin.len_ c.argTypes o.type #[ρ x]).run P w = .ok (.int .i64 n) w→(execOp ρ o).run P w = .ok (.value (.int .i64 n)) w:=by
  intro n hn
  simp [execOp,ho,resolve,hc,ha,invoke,builtin,hn]
 unfold tj at h
 split at h
 ·next hu' =>
  cases h
  have ex:=hx.nil_inv
  refine ⟨rfl,rfl,_,key 0 ?_, .lit _⟩
  simp [Builtin.len_,ht,run_underlying hu',ex,goInt]
 ·next ty xs hu' =>
  cases h
  generalize hv:ρ x = v at hx key
  cases hx with
  | c _ _ h =>
   cases h with
   | sl _ _ a n c' k el u hn =>
    subst hn
    refine ⟨rfl,rfl,_,key _ ?_, .lit _⟩
    simp [Builtin.len_,ht,run_underlying hu',goInt]
 ·next o' k hu' =>
  split at h
  ·next e ty l hg =>
   cases h
   generalize hv:ρ x = v at hx key
   cases hx with
   | row _ _ a n c' hn hl hc' hm h0 =>
    have hlen:E.len o' = l.length:=(hH.at_ _ _ hg).2.1
    refine ⟨rfl,rfl,_,key _ ?_, .lit _⟩
    simp [Builtin.len_,ht,run_underlying hu',goInt,hl,hlen]
  ·cases h
 ·next hu' =>
  cases h
  generalize hv:ρ x = v at hx key
  cases hx
  refine ⟨rfl,rfl,_,key _ ?_, .lit _⟩
  simp [Builtin.len_,ht,run_underlying hu',goInt]
 ·next s hu' =>
  cases h
  have ex:=hx.lit_inv
  refine ⟨rfl,rfl,_,key _ ?_, .lit _⟩
  simp [Builtin.len_,ht,run_underlying hu',ex,goInt]
 ·next k e hu' =>
  split at h
  ·next o' tm kt vt ks vs hm =>
   cases h
   obtain ⟨b,ex,hl,hc,hg⟩:=fX hH hx hm
   obtain ⟨_,_,_,b',es,clock,h3,h4,h5,h6,_⟩:=hH.at_ _ _ hg
   rw [hc] at h3;cases h3
   refine ⟨rfl,rfl,_,key _ ?_, .lit _⟩
   simp [Builtin.len_,ht,run_underlying hu',ex,goInt,Go.MapKept.run_getObj_map h4,h6]
  ·cases h
 ·cases h
theorem xA:∀ (vs:List Value) (ds:List V) (x:Value) (d:V) (m:V),aI E w vs ds→af E w x d→ds.foldlM Bm d = some m→(∃ u,(vs.foldlM Builtin.min2 x).run P w = .ok u w∧af E w u m)
 | [],ds,x,d,m,h,hx,hm=>by
  have:ds = []:=List.eq_nil_of_length_eq_zero h.1.symm
  subst this
  simp at hm
  subst hm
  exact ⟨x,by simp,hx⟩
 | v :: vs,[],x,d,m,h,hx,hm=>by have:=h.1;simp at this
 | v :: vs,e :: ds,x,d,m,h,hx,hm=>by
  have hv:=h.2 0 v e rfl rfl
  have ht:aI E w vs ds:=⟨by have:=h.1;simpa using this,fun i v d a b=>h.2 (i+1) v d a b⟩
  simp only [List.foldlM_cons,Option.bind_eq_bind,Option.bind_eq_some_iff] at hm
  obtain ⟨a,ha,hm⟩:=hm
  unfold Bm at ha
  simp only [aa,Bool.cond_decide] at ha
  split at ha
  ·cases ha
   cases hx.lit_inv;cases hv.lit_inv
   obtain ⟨u,hu,ru⟩:=xA vs ds _ _ m ht (.lit _) hm
   exact ⟨u,by simpa [List.foldlM_cons,Builtin.min2] using hu,ru⟩
  ·cases ha
theorem xG:∀ (vs:List Value) (ds:List V) (x:Value) (d:V) (m:V),aI E w vs ds→af E w x d→ds.foldlM BO d = some m→(∃ u,(vs.foldlM Builtin.max2 x).run P w = .ok u w∧af E w u m)
 | [],ds,x,d,m,h,hx,hm=>by
  have:ds = []:=List.eq_nil_of_length_eq_zero h.1.symm
  subst this
  simp at hm
  subst hm
  exact ⟨x,by simp,hx⟩
 | v :: vs,[],x,d,m,h,hx,hm=>by have:=h.1;simp at this
 | v :: vs,e :: ds,x,d,m,h,hx,hm=>by
  have hv:=h.2 0 v e rfl rfl
  have ht:aI E w vs ds:=⟨by have:=h.1;simpa using this,fun i v d a b=>h.2 (i+1) v d a b⟩
  simp only [List.foldlM_cons,Option.bind_eq_bind,Option.bind_eq_some_iff] at hm
  obtain ⟨a,ha,hm⟩:=hm
  unfold BO at ha
  simp only [aa,Bool.cond_decide] at ha
  split at ha
  ·cases ha
   cases hx.lit_inv;cases hv.lit_inv
   obtain ⟨u,hu,ru⟩:=xG vs ds _ _ m ht (.lit _) hm
   exact ⟨u,by simpa [List.foldlM_cons,Builtin.max2] using hu,ru⟩
  ·cases ha
theorem Jk {c:Call} (ho:o.op = .call c) (hc:c.callee = .builtin .min) {vs:List V} (hx:aI E w (c.args.toList.map ρ) vs) {m:V} (h:Hz vs = some m):s7 P ρ o E w m:=by
 unfold Hz at h
 split at h
 ·cases h
 ·next d ds =>
  cases ha:c.args.toList with
  | nil=>rw [ha] at hx;have:=hx.1;simp at this
  | cons x xs =>
   rw [ha] at hx
   obtain ⟨u,hu,ru⟩:=xA (P:=P) (xs.map ρ) ds (ρ x) d m ⟨by have:=hx.1;simpa using this,fun i v d a b=>hx.2 (i+1) v d (by simpa using a) (by simpa using b)⟩ (hx.2 0 _ _ rfl rfl) h
   refine ⟨u, ?_,ru⟩
   have:(c.args.map ρ).toList = ρ x :: xs.map ρ:=by rw [Array.toList_map,ha];rfl
   simp only [execOp,ho,resolve,hc,invoke,builtin,Builtin.min_,this,Sem.run_bind,Sem.run_pure,Result.andThen_ok,hu]
theorem JC {c:Call} (ho:o.op = .call c) (hc:c.callee = .builtin .max) {vs:List V} (hx:aI E w (c.args.toList.map ρ) vs) {m:V} (h:IM vs = some m):s7 P ρ o E w m:=by
 unfold IM at h
 split at h
 ·cases h
 ·next d ds =>
  cases ha:c.args.toList with
  | nil=>rw [ha] at hx;have:=hx.1;simp at this
  | cons x xs =>
   rw [ha] at hx
   obtain ⟨u,hu,ru⟩:=xG (P:=P) (xs.map ρ) ds (ρ x) d m ⟨by have:=hx.1;simpa using this,fun i v d a b=>hx.2 (i+1) v d (by simpa using a) (by simpa using b)⟩ (hx.2 0 _ _ rfl rfl) h
   refine ⟨u, ?_,ru⟩
   have:(c.args.map ρ).toList = ρ x :: xs.map ρ:=by rw [Array.toList_map,ha];rfl
   simp only [execOp,ho,resolve,hc,invoke,builtin,Builtin.max_,this,Sem.run_bind,Sem.run_pure,Result.andThen_ok,hu]
end
end Go.Ax
namespace Go.Ax
open Go.RowKit
section
variable {P:Program} {ρ:Operand→Value} {E:ar} {w:World} {o:Oper} {r:aB}
theorem aI.nil:aI E w [] []:=⟨rfl,fun i v d h=>by simp at h⟩
structure MV (lo hi:Option Value) (l h:Int) (n:Int):Prop where
  lo:(∃ k,lo = some (.int k l))∨(lo = none∧l = 0)
  hi:(∃ k,hi = some (.int k h))∨(hi = none∧h = n)
theorem At {v:Value} {d:V} {n:Int} (h:Ar d = some n) (hr:af E w v d):∃ k,v = .int k n:=by
 unfold Ar at h
 split at h
 ·cases h;exact ⟨_,hr.lit_inv⟩
 ·cases h
theorem sO {lo hi:Option Operand} {dlo dhi:Option V} {l h n:Int} (hl:Ht dlo = some l) (hh:Hj n dhi = some h)
  (rl:∀ x,lo = some x→∃ d,dlo = some d∧af E w (ρ x) d) (nl:lo = none→dlo = none) (rh:∀ x,hi = some x→∃ d,dhi = some d∧af E w (ρ x) d) (nh:hi = none→dhi = none) :
  MV (lo.map ρ) (hi.map ρ) l h n:=by
 constructor
 ·cases lo with
  | none=>rw [nl rfl] at hl;cases hl;exact .inr ⟨rfl,rfl⟩
  | some x =>
   obtain ⟨d,rfl,hr⟩:=rl x rfl
   obtain ⟨k,hk⟩:=At hl hr
   exact .inl ⟨k,by simp [hk]⟩
 ·cases hi with
  | none=>rw [nh rfl] at hh;cases hh;exact .inr ⟨rfl,rfl⟩
  | some x =>
   obtain ⟨d,rfl,hr⟩:=rh x rfl
   obtain ⟨k,hk⟩:=At hh hr
   exact .inl ⟨k,by simp [hk]⟩
theorem lK {isSlice:Bool} {n cap:Nat} {lo hi:Option Value} {l h:Int} (hb:MV lo hi l h n) (h0:0≤l) (h1:l≤h) (h2:h≤n) (hc:n≤cap) :
  (Instr.sliceBounds isSlice n cap lo hi none).run P w = .ok (l.toNat,h.toNat,cap) w:=by
 unfold Instr.sliceBounds
 rcases hb.lo with ⟨k,rfl⟩ | ⟨rfl,rfl⟩ <;> rcases hb.hi with ⟨k',rfl⟩ | ⟨rfl,rfl⟩
 ·simp only [Sem.run_bind,Sem.run_pure,Result.andThen_ok,run_sliceBound w k' h cap _ (by omega) (by omega),run_sliceBound w k l h.toNat _ h0 (by omega)]
 ·simp only [Sem.run_bind,Sem.run_pure,Result.andThen_ok,run_sliceBound w k l n _ h0 (by omega)];simp
 ·simp only [Sem.run_bind,Sem.run_pure,Result.andThen_ok,run_sliceBound w k' h cap _ (by omega) (by omega)];simp
 ·simp
theorem m4 {H:ab} (hH:aw E w H) {t:TypeId} {x:Operand} {lo hi:Option Operand} (ho:o.op = .slice t x lo hi none) {vx:V} {dlo dhi:Option V} (hx:af E w (ρ x) vx)
  (rl:∀ x,lo = some x→∃ d,dlo = some d∧af E w (ρ x) d) (nl:lo = none→dlo = none) (rh:∀ x,hi = some x→∃ d,dhi = some d∧af E w (ρ x) d) (nh:hi = none→dhi = none)
  (h:lY P H t vx dlo dhi = some r) (hp:∀ p∈r.pre,p):gX P ρ o E w r:=by
 have key:∀ v,(Instr.slice t (ρ x) (lo.map ρ) (hi.map ρ) none).run P w = .ok v w→(∀ n e,P.underlying t≠some (.array n e))→(∃ d,P.underlying t = some d)→(execOp ρ o).run P w = .ok (.value v) w:=by
  intro v hv hna ⟨d,hd⟩
  have:(Instr.sliceAt t (ρ x) (lo.map ρ) (hi.map ρ) none).run P w = .ok v w:=by
   unfold Instr.sliceAt
   simp only [Sem.run_bind,run_underlying hd,Result.andThen_ok]
   cases d <;> first | exact (hna _ _ hd).elim | exact hv
  simp [execOp,ho,this]
 unfold lY at h
 split at h
 ·next e hu =>
  split at h
  ·next d l hh he h1 h2 =>
   cases h
   have p1:l = 0:=hp _ (by simp)
   have p2:hh = 0:=hp _ (by simp)
   subst p1;subst p2
   have hb:=sO (n:=((0:Nat):Int)) h1 h2 rl nl rh nh
   refine ⟨rfl,rfl, .slice none 0 0,key _ ?_ (by rw [hu];simp) ⟨_,hu⟩, .c _ _ .nil⟩
   rw [hx.nil_inv]
   simp [Instr.slice,run_underlying hu,lK (P:=P) (w:=w) (isSlice:=true) hb (by omega) (by omega) (by omega) (Nat.le_refl 0),br he]
  ·cases h
 ·next e ty xs hu =>
  cases hs:Nat.beq (sz P e) ty.k with
  | false=>simp [hs] at h
  | true =>
   have hs':sz P e = ty.k:=by simpa using hs
   simp only [hs,cond_true] at h
   split at h
   ·next d l hh he h1 h2 =>
    cases h
    have p1:0≤l:=hp _ (by simp)
    have p2:l≤hh:=hp _ (by simp)
    have p3:hh≤(xs.length:Int):=hp _ (by simp)
    have hb:=sO h1 h2 rl nl rh nh
    generalize hv:ρ x = v at hx key
    cases hx with
    | c _ _ hx =>
     cases hx with
     | sl _ _ a n c k el u hn hk hel hc hm ha hone hl hu' =>
      subst hn hk
      refine ⟨rfl,rfl, .slice (if c = l.toNat then a else a.map (·.add (l.toNat*ty.k))) (hh.toNat - l.toNat) (c - l.toNat),key _ ?_ (by rw [hu];simp) ⟨_,hu⟩, .c _ _ ?_⟩
      ·simp [Instr.slice,run_underlying hu,lK (P:=P) (w:=w) (isSlice:=true) hb p1 p2 p3 hc,br he,hs']
      ·have e1:hh.toNat - l.toNat = (hh - l).toNat:=by omega
       rw [e1]
       refine .sl ty _ _ _ _ ty.k (fun i=>el (l.toNat+i)) (fun i j=>u (l.toNat+i) j) (x7 (by omega)).symm rfl (fun i hi=>?_) (by omega) (by omega) (fun hn=>?_) (fun i j hi hj=>hone _ _ (by omega) hj) (fun i hi=>hl _ (by omega)) (fun i j d hi hd=>hu' _ j d (by omega) hd)
       ·rw [Ho hi];exact hel _ (by omega)
       ·obtain ⟨ad,rfl,hok,hcell⟩:=ha (by omega)
        rw [if_neg (by omega)]
        refine ⟨ad.add (l.toNat*ty.k),rfl,by rw [oe];exact hok,fun i j hi hj=>?_⟩
        rw [lG, ← hcell (l.toNat+i) j (by omega) hj]
        congr 2
        rw [Nat.add_mul,Nat.add_assoc]
   ·cases h
 ·next e o' k hu =>
  split at h
  ·next e' ty xs hg =>
   cases hs:Nat.beq (sz P e) k with
   | false=>simp [hs] at h
   | true =>
    have hs':sz P e = k:=by simpa using hs
    simp only [hs,cond_true] at h
    split at h
    ·next d l hh he h1 h2 =>
     cases h
     have p1:0≤l:=hp _ (by simp)
     have p2:l≤hh:=hp _ (by simp)
     have p3:hh≤(xs.length:Int):=hp _ (by simp)
     have hb:=sO h1 h2 rl nl rh nh
     have hlen:E.len o' = xs.length:=(hH.at_ _ _ hg).2.1
     generalize hv:ρ x = v at hx key
     cases hx with
     | row _ _ a n c hn hl hc hm h0 =>
      have hnx:n = xs.length:=hl.trans hlen
      subst hnx
      refine ⟨rfl,rfl, .slice (if c = l.toNat then a else a.map (·.add (l.toNat*k))) (hh.toNat - l.toNat) (c - l.toNat),key _ ?_ (by rw [hu];simp) ⟨_,hu⟩, ?_⟩
      ·simp [Instr.slice,run_underlying hu,lK (P:=P) (w:=w) (isSlice:=true) hb p1 p2 p3 hc,br he,hs']
      ·have e1:hh.toNat - l.toNat = (hh - l).toNat:=by omega
       rw [e1]
       refine .sub _ _ _ _ _ _ hn (by omega) (by omega) (by omega) (fun hn=>?_)
       rcases h0 with ⟨_,h0,_⟩ | ⟨b,hb1,rfl,_⟩
       ·omega
       ·rw [if_neg (by omega)]
        refine ⟨b,hb1, ?_⟩
        simp only [Option.map_some]
        rw [bQ,Nat.zero_add]
    ·cases h
  ·cases h
 ·next e o' k off n hu =>
  cases hs:Nat.beq (sz P e) k with
  | false=>simp [hs] at h
  | true =>
   have hs':sz P e = k:=by simpa using hs
   simp only [hs,cond_true] at h
   split at h
   ·next d l hh he h1 h2 =>
    cases h
    have p1:0≤l:=hp _ (by simp)
    have p2:l≤hh:=hp _ (by simp)
    have p3:hh≤(n:Int):=hp _ (by simp)
    have hb:=sO h1 h2 rl nl rh nh
    generalize hv:ρ x = v at hx key
    cases hx with
    | sub _ _ _ _ a c hn hc hm hl ha =>
     refine ⟨rfl,rfl, .slice (if c = l.toNat then a else a.map (·.add (l.toNat*k))) (hh.toNat - l.toNat) (c - l.toNat),key _ ?_ (by rw [hu];simp) ⟨_,hu⟩, ?_⟩
     ·simp [Instr.slice,run_underlying hu,lK (P:=P) (w:=w) (isSlice:=true) hb p1 p2 p3 hc,br he,hs']
     ·have e1:hh.toNat - l.toNat = (hh - l).toNat:=by omega
      rw [e1]
      refine .sub _ _ _ _ _ _ hn (by omega) (by omega) (by omega) (fun hn=>?_)
      obtain ⟨b,hb1,rfl⟩:=ha (by omega)
      rw [if_neg (by omega)]
      refine ⟨b,hb1, ?_⟩
      simp only [Option.map_some]
      rw [bQ, ← Nat.add_mul]
   ·cases h
 ·next s hu =>
  split at h
  ·next l hh h1 h2 =>
   cases h
   have p1:0≤l:=hp _ (by simp)
   have p2:l≤hh:=hp _ (by simp)
   have p3:hh≤(s.size:Int):=hp _ (by simp)
   have hb:=sO h1 h2 rl nl rh nh
   refine ⟨rfl,rfl, .string (s.extract l.toNat hh.toNat),key _ ?_ (by rw [hu];simp) ⟨_,hu⟩, .lit _⟩
   rw [hx.lit_inv]
   simp [Instr.slice,run_underlying hu,lK (P:=P) (w:=w) (isSlice:=false) hb p1 p2 p3 (Nat.le_refl _)]
  ·cases h
 ·cases h
theorem yY {H:ab} (hH:aw E w H) {t:TypeId} {x ix:Operand} (ho:o.op = .indexAddr t x ix) {vx vi:V} (hx:af E w (ρ x) vx) (hi:af E w (ρ ix) vi)
  (h:j5 P H t vx vi = some r) (hp:∀ p∈r.pre,p):gX P ρ o E w r:=by
 have key:∀ v,(Instr.indexAt t (ρ x) (ρ ix)).run P w = .ok v w→(execOp ρ o).run P w = .ok (.value v) w:=by
  intro v hv
  simp [execOp,ho,hv]
 unfold j5 at h
 split at h
 ·next e ty l kk i hu =>
  cases hs:Nat.beq (sz P e) ty.k with
  | false=>simp [hs] at h
  | true =>
   have hs':sz P e = ty.k:=by simpa using hs
   simp only [hs,cond_true] at h
   split at h
   ·next d he =>
    cases h
    have p1:0≤i:=hp _ (by simp)
    have p2:i < (l.length:Int):=hp _ (by simp)
    have ei:=hi.lit_inv
    generalize hv:ρ x = v at hx key
    cases hx with
    | c _ _ hx =>
     cases hx with
     | sl _ _ a n c k el u hn hk hel hc hm ha hone hl hu' =>
      subst hn hk
      obtain ⟨ad,rfl,hok,hcell⟩:=ha (by omega)
      refine ⟨rfl,rfl, .pointer (some (ad.add (i.toNat*ty.k))),key _ ?_, ?_⟩
      ·simp [Instr.indexAt,ei,asIntOf,run_underlying hu,p1,p2,br he,hs']
      ·have:=af.dptr (E:=E) (w:=w) ty.k (el i.toNat) 0 (ad.add (i.toNat*ty.k)) (u i.toNat) (by rw [oe];exact hok) (fun j hj=>by rw [lG];exact hcell _ _ (by omega) hj) (hl _ (by omega)) (fun j d hd=>hu' _ _ _ (by omega) hd)
       rw [← hel _ (by omega)]
       rwa [lG,Nat.add_zero] at this
   ·cases h
 ·next =>
  cases h
  exact (hp False (by simp)).elim
 ·next e o' k kk i hu =>
  split at h
  ·next e' ty l hg =>
   cases hs:Nat.beq (sz P e) k with
   | false=>simp [hs] at h
   | true =>
    have hs':sz P e = k:=by simpa using hs
    simp only [hs,cond_true] at h
    split at h
    ·next d he =>
     cases h
     have p1:0≤i:=hp _ (by simp)
     have p2:i < (l.length:Int):=hp _ (by simp)
     have ei:=hi.lit_inv
     have hlen:E.len o' = l.length:=(hH.at_ _ _ hg).2.1
     generalize hv:ρ x = v at hx key
     cases hx with
     | row _ _ a n c hn hl hc hm h0 =>
      rcases h0 with ⟨_,h0,_⟩ | ⟨b,hb,rfl,_⟩
      ·omega
      ·refine ⟨rfl,rfl, .pointer (some (Addr.add ⟨b,0,none⟩ (i.toNat*k))),key _ ?_, ?_⟩
       ·have p3:i < (n:Int):=by omega
        simp [Instr.indexAt,ei,asIntOf,run_underlying hu,p1,p3,br he,hs']
       ·rw [bQ,Nat.zero_add]
        have:=af.ptr (w:=w) o' k i.toNat 0 b hn hb (by omega)
        simpa using this
    ·cases h
  ·cases h
 ·next e o' k off n kk i hu =>
  cases hs:Nat.beq (sz P e) k with
  | false=>simp [hs] at h
  | true =>
   have hs':sz P e = k:=by simpa using hs
   simp only [hs,cond_true] at h
   split at h
   ·next d he =>
    cases h
    have p1:0≤i:=hp _ (by simp)
    have p2:i < (n:Int):=hp _ (by simp)
    have ei:=hi.lit_inv
    generalize hv:ρ x = v at hx key
    cases hx with
    | sub _ _ _ _ a c hn hc hm hl ha =>
     obtain ⟨b,hb,rfl⟩:=ha (by omega)
     refine ⟨rfl,rfl, .pointer (some (Addr.add ⟨b,off*k,none⟩ (i.toNat*k))),key _ ?_, ?_⟩
     ·simp [Instr.indexAt,ei,asIntOf,run_underlying hu,p1,p2,br he,hs']
     ·rw [bQ, ← Nat.add_mul]
      have:=af.ptr (w:=w) o' k (off+i.toNat) 0 b hn hb (by omega)
      simpa using this
   ·cases h
 ·next len e o' k q j kk i hu =>
  have ei:=hi.lit_inv
  split at h
  ·next e' ty l hg =>
   cases hs:(Nat.beq q 0&&Nat.beq j 0&&Nat.beq ty.k k&&Nat.beq k (sz P e)) with
   | false=>simp [hs] at h
   | true =>
    simp only [hs,cond_true] at h
    simp only [Bool.and_eq_true,Nat.beq_eq] at hs
    obtain ⟨⟨⟨rfl,rfl⟩,hk1⟩,hk2⟩:=hs
    split at h
    ·next d he =>
     cases h
     have p0:l.length = len:=hp _ (by simp)
     subst p0
     have p1:0≤i:=hp _ (by simp)
     have p2:i < (l.length:Int):=hp _ (by simp)
     generalize hv:ρ x = v at hx key
     cases hx with
     | ptr _ _ _ _ b hn hb hi' =>
      refine ⟨rfl,rfl, .pointer (some (Addr.add ⟨b,0*k+0,none⟩ (i.toNat*k))),key _ ?_, ?_⟩
      ·simp [Instr.indexAt,ei,asIntOf,run_underlying hu,p1,p2,br he,hk2,Instr.sureAddr]
      ·rw [bQ]
       have hlen:E.len o' = l.length:=(hH.at_ _ _ hg).2.1
       have:=af.ptr (w:=w) o' k i.toNat 0 b hn hb (by omega)
       simpa using this
    ·cases h
  ·next cs hg =>
   split at h
   ·next d he =>
    cases h
    have p1:0≤i:=hp _ (by simp)
    have p2:i < (len:Int):=hp _ (by simp)
    generalize hv:ρ x = v at hx key
    cases hx with
    | ptr _ _ _ _ b hn hb hi' =>
     refine ⟨rfl,rfl, .pointer (some (Addr.add ⟨b,q*k+j,none⟩ (i.toNat*sz P e))),key _ ?_, ?_⟩
     ·simp [Instr.indexAt,ei,asIntOf,run_underlying hu,p1,p2,br he,Instr.sureAddr]
     ·rw [bQ,Nat.add_assoc]
      exact af.ptr (w:=w) o' k q _ b hn hb hi'
   ·cases h
  ·cases h
  ·cases h
  ·cases h
  ·cases h
 ·next len e k cs j kk i hu =>
  have ei:=hi.lit_inv
  split at h
  ·next d he =>
   cases h
   have p1:0≤i:=hp _ (by simp)
   have p2:i < (len:Int):=hp _ (by simp)
   generalize hv:ρ x = v at hx key
   cases hx with
   | dptr _ _ _ ad u hok hcell hl hu' =>
    refine ⟨rfl,rfl, .pointer (some ((ad.add j).add (i.toNat*sz P e))),key _ ?_, ?_⟩
    ·simp [Instr.indexAt,ei,asIntOf,run_underlying hu,p1,p2,br he,Instr.sureAddr]
    ·rw [lG]
     exact .dptr k cs _ ad u hok hcell hl hu'
  ·cases h
 ·cases h
theorem GC {t:TypeId} {x ix:Operand} (ho:o.op = .index t x ix) {vx vi:V} (hx:af E w (ρ x) vx) (hi:af E w (ρ ix) vi)
  (h:Eu P t vx vi = some r) (hp:∀ p∈r.pre,p):gX P ρ o E w r:=by
 unfold Eu at h
 split at h
 ·next s kk i hu =>
  cases h
  have p1:0≤i:=hp _ (by simp)
  have p2:i < (s.size:Int):=hp _ (by simp)
  have ei:=hi.lit_inv
  have ex:=hx.lit_inv
  have hlt:i.toNat < s.size:=by omega
  refine ⟨rfl,rfl, .int .u8 (s.data.getD i.toNat 0).toNat, ?_, .lit _⟩
  have hg:s[i.toNat]? = some (s.data.getD i.toNat 0):=by
   have h2:i.toNat < s.data.size:=hlt
   rw [Array.getD_eq_getD_getElem?,Array.getElem?_eq_getElem h2]
   rw [getElem?_pos s i.toNat hlt]
   rfl
  simp [execOp,ho,ex,ei,Instr.index,asIntOf,run_underlying hu,p1,hg]
 ·next len e cs kk i hu =>
  cases hs:(Nat.ble (len*sz P e) cs.length&&dJ P e) with
  | false=>simp [hs] at h
  | true =>
   simp only [hs,cond_true] at h
   simp only [Bool.and_eq_true,Nat.ble_eq] at hs
   cases h
   have p1:0≤i:=hp _ (by simp)
   have p2:i < (len:Int):=hp _ (by simp)
   have ei:=hi.lit_inv
   obtain ⟨us,ex,hus⟩:=hx.agg_inv
   obtain ⟨d,hd⟩:=qc hs.2
   have hle:i.toNat*sz P e+sz P e≤cs.length:=by
    have h1:(i.toNat+1)*sz P e≤len*sz P e:=Nat.mul_le_mul_right _ (by omega)
    rw [Nat.add_mul,Nat.one_mul] at h1
    omega
   obtain ⟨v,hv,rv⟩:=mO (P:=P) (cs:=us.toArray) (by simpa using hus) hs.2 hle
   exact ⟨rfl,rfl,v,by simp [execOp,ho,ex,ei,Instr.index,asIntOf,run_underlying hu,p1,p2,br hd,hv],rv⟩
 ·cases h
theorem gE {t:TypeId} {a:Addr} {n:Nat} (ht:dJ P t = true) (hn:n = sz P t) (f:Nat→Value) (hc:∀ j,j < n→w.cell? (a.add j) = some (f j)) :
  (loadVar t a).run P w = .ok (if ee P t then .agg ((List.range n).map f).toArray else f 0) w:=by
 obtain ⟨d,hd⟩:=qc ht
 subst hn
 unfold loadVar
 simp only [Sem.run_bind,qN ht,Result.andThen_ok]
 cases hag:ee P t with
 | true =>
  simp only [if_true,Sem.run_bind,br hd,Result.andThen_ok,Sem.run_pure]
  rw [run_loadCells w a _ f hc]
  simp
 | false =>
  have hs:0 < sz P t:=by simp [dJ,hag] at ht;omega
  have h0:w.cell? a = some (f 0):=by have:=hc 0 hs;simpa [Addr.add] using this
  simp [h0]
theorem CB {cs:List D} {j n:Nat} {f:Nat→Value} {ag:Bool} (h:∀ i d,i < n→cs[j+i]? = some d→aG E.ok w (f i) d) (hl:j+n≤cs.length) (hag:ag = true∨0 < n) :
  af E w (if ag then .agg ((List.range n).map f).toArray else f 0) (DC ag cs j n):=by
 unfold DC
 cases ag with
 | true =>
  simp only [if_true,cond_true]
  refine .agg _ _ (by simp) fun i v d hv hd=>?_
  rw [List.getElem?_map] at hv hd
  cases hr:(List.range n)[i]? with
  | none=>rw [hr] at hv;cases hv
  | some q =>
   rw [hr] at hv hd
   cases hv;cases hd
   have hq:q = i∧i < n:=by
    obtain ⟨h1,h2⟩:=List.getElem?_eq_some_iff.1 hr
    simp at h1 h2;omega
   refine .c _ _ (h q _ (by omega) ?_)
   rw [List.getD_eq_getElem?_getD,List.getElem?_eq_getElem (by omega)]
   rfl
 | false =>
  have hn:0 < n:=by simpa using hag
  simp only [Bool.false_eq_true,if_false,cond_false]
  refine .c _ _ (h 0 _ hn ?_)
  rw [Nat.add_zero,List.getD_eq_getElem?_getD,List.getElem?_eq_getElem (by omega)]
  rfl
theorem AV {t:TypeId} (h:dJ P t = true):ee P t = true∨0 < sz P t:=by
 unfold dJ at h
 cases ha:ee P t
 ·simp [ha] at h;exact .inr h
 ·exact .inl rfl
theorem I1 {α:Type} (f:Nat→Nat→α) (m k:Nat):((List.range m).flatMap fun i=>(List.range k).map (f i)).length = m*k:=by
 induction m with
 | zero=>simp
 | succ m ih=>rw [List.range_succ,List.flatMap_append,List.length_append,ih,Nat.add_mul,Nat.one_mul];simp
theorem M3 {α:Type} (f:Nat→Nat→α):∀ (m k q:Nat),0 < k→q < m*k→((List.range m).flatMap fun i=>(List.range k).map (f i))[q]? = some (f (q / k) (q % k)):=by
 intro m k
 induction m with
 | zero=>intro q _ h;simp at h
 | succ m ih =>
  intro q hk hq
  rw [List.range_succ,List.flatMap_append]
  have hlen:=I1 f m k
  by_cases h:q < m*k
  ·rw [List.getElem?_append_left (by omega)]
   exact ih q hk h
  ·rw [List.getElem?_append_right (by omega),hlen]
   rw [Nat.add_mul,Nat.one_mul] at hq
   have e1:q / k = m:=by
    have h1:q = k*m+(q - m*k):=by rw [Nat.mul_comm];omega
    rw [h1,Nat.mul_add_div hk,Nat.div_eq_of_lt (by omega)];omega
   have e2:q % k = q - m*k:=by
    have h1:q = (q - m*k)+k*m:=by rw [Nat.mul_comm k m];omega
    rw [h1,Nat.add_mul_mod_self_left,Nat.mod_eq_of_lt (by omega)];rw [Nat.mul_comm k m];omega
   simp only [List.flatMap_cons,List.flatMap_nil,List.append_nil,List.getElem?_map]
   rw [List.getElem?_eq_getElem (by simp;omega)]
   simp [e1,e2]
theorem mJ {H:ab} (hH:aw E w H) {o':Nat} {e:TypeId} {t:Ty} {l:List t.T} (hg:H.get o' = some (.row e t l)) {b:Nat} (hb:E.conc o' = some b) :
  ∃ C:Array Value,w.heap[b]? = some (.cells C e (0,0))∧C.size = E.cap o'*t.k∧l.length≤E.cap o'∧(∀ i,i < l.length→(els t l i).length = t.k)∧(∀ i j u,i < l.length→j < t.k→C[i*t.k+j]? = some u→u.oneCell' = true)∧∀ i j d u,i < l.length→(els t l i)[j]? = some d→C[i*t.k+j]? = some u→aG E.ok w u d:=by
 obtain ⟨_,hlen,hob⟩:=hH.at_ _ _ hg
 rcases hob with ⟨h1,_⟩ | ⟨b',C,h1,h2,h3,h4,_,h6,h6',h7⟩
 ·rw [h1] at hb;cases hb
 ·rw [h1] at hb;cases hb
  exact ⟨C,h2,h3,h4,h6,h6',h7⟩
theorem zg {H:ab} (hH:aw E w H) {t:TypeId} {x:Operand} (ho:o.op = .load t x) {vx:V} (hx:af E w (ρ x) vx)
  (h:mi P H t vx = some r) (hp:∀ p∈r.pre,p):gX P ρ o E w r:=by
 have key:∀ a v,ρ x = .pointer (some a)→(loadVar t a).run P w = .ok v w→(execOp ρ o).run P w = .ok (.value v) w:=by
  intro a v ha hv
  simp [execOp,ho,ha,Instr.loadAt,Instr.sureAddr,hv]
 unfold mi at h
 split at h
 ·next o' k i j =>
  generalize hv:ρ x = v at hx
  cases hx with
  | ptr _ _ _ _ b hn hb hi =>
   split at h
   ·next cs hg =>
    cases hs:(Nat.beq cs.length k&&Nat.ble (j+sz P t) k&&dJ P t) with
    | false=>simp [hs] at h
    | true =>
     simp only [hs,cond_true] at h
     simp only [Bool.and_eq_true,Nat.ble_eq,Nat.beq_eq] at hs
     obtain ⟨⟨hk,hle⟩,ht⟩:=hs
     cases h
     obtain ⟨_,hlen,b',C,te,h1,h2,h3⟩:=hH.at_ _ _ hg
     rw [h1] at hb;cases hb
     have hi0:i = 0:=by omega
     subst hi0
     have hcell:∀ q,q < sz P t→w.cell? (Addr.add ⟨b,0*k+j,none⟩ q) = some (C.toList.getD (j+q) undef):=by
      intro q hq
      rw [bQ,cell_of_row w b _ C te (0,0) h2]
      have:j+q < C.toList.length:=by rw [h3.1];omega
      rw [List.getD_eq_getElem?_getD, ← Array.getElem?_toList,Nat.zero_mul,Nat.zero_add,List.getElem?_eq_getElem this]
      rfl
     refine ⟨rfl,rfl,_,key _ _ hv (gE ht rfl _ hcell), ?_⟩
     have ht':=aI.take h3 j (sz P t)
     unfold j7
     cases hag:ee P t with
     | true =>
      simp only [if_true,cond_true]
      have e1:(List.range (sz P t)).map (fun q=>C.toList.getD (j+q) undef) = (C.toList.drop j).take (sz P t):=by
       apply List.ext_getElem?
       intro q
       rw [List.getElem?_map,List.getElem?_take,List.getElem?_drop]
       by_cases hq:q < sz P t
       ·rw [if_pos hq,List.getElem?_eq_getElem (by simpa using hq)]
        have:j+q < C.toList.length:=by rw [h3.1];omega
        rw [List.getElem_range,Option.map_some,List.getD_eq_getElem?_getD,List.getElem?_eq_getElem this]
        rfl
       ·rw [if_neg hq,List.getElem?_eq_none (by simpa using hq)];rfl
      rw [e1]
      exact .agg _ _ ht'.1 ht'.2
     | false =>
      have hsz:0 < sz P t:=(AV ht).resolve_left (by simp [hag])
      have hlt:j < cs.length:=by omega
      obtain ⟨u,hu,ru⟩:=h3.get (List.getElem?_eq_getElem hlt)
      simp only [Bool.false_eq_true,if_false,cond_false,Nat.add_zero]
      rw [List.getD_eq_getElem?_getD,hu,List.drop_eq_getElem_cons hlt]
      exact ru
   ·next e ty l hg =>
    obtain ⟨C,h2,h3,h4,h6,_,h7⟩:=mJ hH hg hb
    obtain ⟨_,hlen,_⟩:=hH.at_ _ _ hg
    cases hs:(Nat.beq ty.k k&&Nat.ble (j+sz P t) k&&dJ P t) with
    | false =>
     simp only [hs,cond_false] at h
     cases hs2:(Nat.beq ty.k k&&Nat.beq i 0&&Nat.beq j 0&&ee P t&&Nat.blt 0 k) with
     | false=>simp [hs2] at h
     | true =>
      simp only [hs2,cond_true] at h
      simp only [Bool.and_eq_true,Nat.beq_eq,Nat.blt_eq] at hs2
      obtain ⟨⟨⟨⟨hk,rfl⟩,rfl⟩,hag⟩,hk0⟩:=hs2
      subst hk
      cases h
      have hmk:l.length*ty.k = sz P t:=hp _ (by simp)
      have ht:dJ P t = true:=by simp [dJ,hag]
      have hle:l.length*ty.k≤C.size:=by rw [h3];exact Nat.mul_le_mul_right _ h4
      have hdiv:sz P t / ty.k = l.length:=by rw [← hmk];exact Nat.mul_div_cancel _ hk0
      have hcell:∀ q,q < sz P t→w.cell? (Addr.add ⟨b,0*ty.k+0,none⟩ q) = some (C.getD q undef):=by
       intro q hq
       rw [bQ,cell_of_row w b _ C e (0,0) h2]
       have hq':q < C.size:=by omega
       simp [Array.getD,hq']
      refine ⟨rfl,rfl,_,key _ _ hv (gE ht rfl _ hcell), ?_⟩
      rw [hag,if_pos rfl]
      show af E w _ (V.agg _)
      rw [hdiv, ← hmk]
      refine .agg _ _ ?_ fun q v d hv' hd'=>?_
      ·rw [I1 (fun i q=>V.c ((els ty l i).getD q .unk))];simp
      ·rw [List.getElem?_map] at hv'
       cases hr:(List.range (l.length*ty.k))[q]? with
       | none=>rw [hr] at hv'; cases hv'
       | some q' =>
        rw [hr] at hv'; cases hv'
        obtain ⟨hq1,hq2⟩:=List.getElem?_eq_some_iff.1 hr
        simp at hq1 hq2;subst hq2
        have hdec:=M3 (fun i q=>V.c ((els ty l i).getD q .unk)) l.length ty.k q hk0 hq1
        rw [hdec] at hd'; cases hd'
        refine .c _ _ ?_
        have hi1:q / ty.k < l.length:=Nat.div_lt_of_lt_mul (by rw [Nat.mul_comm];exact hq1)
        have hl:=h6 _ hi1
        have hj1:q % ty.k < (els ty l (q / ty.k)).length:=by rw [hl];exact Nat.mod_lt _ hk0
        rw [List.getD_eq_getElem?_getD,List.getElem?_eq_getElem hj1]
        have hq':q < C.size:=by omega
        refine h7 (q / ty.k) (q % ty.k) _ _ hi1 (List.getElem?_eq_getElem hj1) ?_
        rw [Nat.div_add_mod' q ty.k]
        simp [Array.getD,hq']
    | true =>
     simp only [hs,cond_true] at h
     simp only [Bool.and_eq_true,Nat.ble_eq,Nat.beq_eq] at hs
     obtain ⟨⟨rfl,hle⟩,ht⟩:=hs
     cases h
     have him:i < l.length:=by omega
     have hik:(i+1)*ty.k≤E.cap o'*ty.k:=Nat.mul_le_mul_right _ (by omega)
     rw [Nat.add_mul,Nat.one_mul] at hik
     have hcell:∀ q,q < sz P t→w.cell? (Addr.add ⟨b,i*ty.k+j,none⟩ q) = some (C.getD (i*ty.k+(j+q)) undef):=by
      intro q hq
      rw [bQ,cell_of_row w b _ C e (0,0) h2,Nat.add_assoc]
      have hq':i*ty.k+(j+q) < C.size:=by omega
      simp [Array.getD,hq']
     refine ⟨rfl,rfl,_,key _ _ hv (gE ht rfl _ hcell), ?_⟩
     refine CB (f:=fun q=>C.getD (i*ty.k+(j+q)) undef) (fun q d hq hd=>?_) (by rw [h6 _ him];exact hle) (AV ht)
     have hq':i*ty.k+(j+q) < C.size:=by omega
     exact h7 i (j+q) d _ him hd (by simp [Array.getD,hq'])
   ·cases h
   ·cases h
   ·cases h
   ·cases h
 ·next k cs j =>
  cases hs:(Nat.ble (j+sz P t) k&&dJ P t) with
  | false=>simp [hs] at h
  | true =>
   simp only [hs,cond_true] at h
   simp only [Bool.and_eq_true,Nat.ble_eq] at hs
   obtain ⟨hle,ht⟩:=hs
   cases h
   generalize hv:ρ x = v at hx
   cases hx with
   | dptr _ _ _ ad u hok hcell hl hu =>
    refine ⟨rfl,rfl,_,key _ _ hv (gE ht rfl (fun q=>u (j+q)) fun q hq=>by rw [lG];exact hcell _ (by omega)), ?_⟩
    exact CB (f:=fun q=>u (j+q)) (fun q d hq hd=>hu _ _ hd) (by omega) (AV ht)
 ·cases h
end
end Go.Ax
namespace Go.Ax
open Go.RowKit
section
variable {P:Program} {ρ:Operand→Value} {E:ar} {w:World} {o:Oper} {r:aB}
theorem kE {α:Type}:∀ (xs cs:List α) (off:Nat),(setL cs off xs).length = cs.length
 | [],cs,off=>rfl
 | x :: r,cs,off=>by rw [setL,kE];simp
theorem mH {α:Type}:∀ (xs cs:List α) (off q:Nat),(setL cs off xs)[q]? = if off≤q∧q < off+xs.length∧q < cs.length then xs[q - off]? else cs[q]?
 | [],cs,off,q=>by simp [setL];intro _ _ ; omega
 | x :: r,cs,off,q=>by
  rw [setL,mH r]
  simp only [List.length_set,List.length_cons]
  by_cases h:off = q
  ·subst h
   rw [if_neg (by omega)]
   by_cases hl:off < cs.length
   ·rw [if_pos ⟨by omega,by omega,hl⟩];simp [hl]
   ·rw [if_neg (by omega)];rw [List.getElem?_eq_none (by simp;omega),List.getElem?_eq_none (by omega)]
  ·rw [List.getElem?_set_ne h]
   by_cases h2:off+1≤q∧q < off+1+r.length∧q < cs.length
   ·rw [if_pos h2,if_pos (by omega),show q - off = (q - (off+1))+1 by omega,List.getElem?_cons_succ]
   ·rw [if_neg h2,if_neg (by omega)]
theorem aI.setL {vs xs:List Value} {ds ys:List V} (h:aI E w vs ds) (h':aI E w xs ys) (off:Nat):aI E w (setL vs off xs) (setL ds off ys):=by
 refine ⟨by rw [kE,kE,h.1],fun i v d hv hd=>?_⟩
 rw [mH] at hv hd
 rw [← h'.1, ← h.1] at hd
 split at hv
 ·next hc=>rw [if_pos hc] at hd;exact h'.2 _ _ _ hv hd
 ·next hc=>rw [if_neg hc] at hd;exact h.2 _ _ _ hv hd
theorem pd {v:Value} {d:V} (h:af E w v d) (hc:d.isCell = true):v.oneCell' = true:=by
 cases h with
 | c _ d h =>
  cases h with
  | unk v=>simp [V.isCell] at hc
  | nil=>rfl
  | lit v=>cases v <;> first | rfl | simp [V.isCell] at hc
  | opt b us=>simp [V.isCell] at hc
  | any v h1=>exact h1
  | sl=>rfl
 | agg=>simp [V.isCell] at hc
 | tup=>simp [V.isCell] at hc
 | ptr=>rfl
 | row=>rfl
 | sub=>rfl
 | dptr=>simp [V.isCell] at hc
 | fn=>exact JL _ _
theorem Jb {v:Value} (h:v.oneCell' = true):v.cells = #[v]:=by cases v <;> simp [Value.oneCell',Value.cells] at *
theorem v6 {v:Value} {d:V} (h:af E w v d) (hc:d.cells.all V.isCell = true):aI E w v.cells.toList d.cells∧∀ u∈v.cells.toList,u.oneCell' = true:=by
 have single:d.cells = [d]→aI E w v.cells.toList d.cells∧∀ u∈v.cells.toList,u.oneCell' = true:=by
  intro e
  rw [e] at hc ⊢
  have h1:=pd h (by simpa using hc)
  rw [Jb h1]
  refine ⟨⟨rfl,fun i v' d' a b=>?_⟩,by simpa using h1⟩
  match i with
  | 0=>simp at a b;subst a;subst b;exact h
  | i+1=>simp at a
 cases d with
 | agg ds =>
  obtain ⟨vs,rfl,hl⟩:=h.agg_inv
  have e:(Value.agg vs.toArray).cells.toList = vs:=by simp [Value.cells]
  rw [e]
  refine ⟨hl,fun u hu=>?_⟩
  obtain ⟨i,hi⟩:=List.getElem?_of_mem hu
  have hlt:i < ds.length:=by rw [← hl.1];exact (List.getElem?_eq_some_iff.1 hi).1
  exact pd (hl.2 i u _ hi (List.getElem?_eq_getElem hlt)) (List.all_eq_true.1 hc _ (List.getElem_mem hlt))
 | c d=>exact single rfl
 | tup ds=>exact single rfl
 | ptr o k i j=>exact single rfl
 | row o k=>exact single rfl
 | sub o k i j=>exact single rfl
 | dptr k cs j=>exact single rfl
 | fn f cs=>exact single rfl
theorem zl (off:Nat):∀ (l:List Value) (k:Nat) (cells:Array Value),((l.zipIdx k).foldl (fun (cs:Array Value) (p:Value × Nat)=>cs.setIfInBounds (off+p.2) p.1) cells).toList = setL cells.toList (off+k) l
 | [],k,cells=>rfl
 | x :: r,k,cells=>by
  rw [List.zipIdx_cons,List.foldl_cons,zl off r (k+1),setL]
  simp [Nat.add_assoc]
theorem I4 (off:Nat) (v:Value) (cells:Array Value):(v.cells.zipIdx.foldl (fun cs (c,j)=>cs.setIfInBounds (off+j) c) cells).toList = setL cells.toList off v.cells.toList:=by
 have:=zl off v.cells.toList 0 cells
 rw [Nat.add_zero] at this
 rw [← this, ← Array.foldl_toList,Array.toList_zipIdx]
theorem tY (dX:Nat→Option (Nat × Nat)):∀ (parts:List (Nat × Value)) (dparts:List (Nat × V)) (cells:Array Value) (ds ds':List V),aI E w cells.toList ds →
  parts.map (·.1) = dparts.map (·.1)→aI E w (parts.map (·.2)) (dparts.map (·.2))→dparts.foldlM (pw dX) ds = some ds' →
  ∃ cells',Instr.fill dX cells parts = some cells'∧aI E w cells'.toList ds'
 | [],dparts,cells,ds,ds',h,h1,h2,h3=>by
  have:dparts = []:=by simpa using h1.symm
  subst this
  simp at h3;subst h3
  exact ⟨cells,rfl,h⟩
 | (i,v) :: parts,[],cells,ds,ds',h,h1,h2,h3=>by simp at h1
 | (i,v) :: parts,(i',d) :: dparts,cells,ds,ds',h,h1,h2,h3=>by
  simp only [List.map_cons,List.cons.injEq] at h1
  obtain ⟨rfl,h1⟩:=h1
  have hv:af E w v d:=h2.2 0 _ _ rfl rfl
  have ht:aI E w (parts.map (·.2)) (dparts.map (·.2)):=⟨by have:=h2.1;simpa using this,fun i v d a b=>h2.2 (i+1) v d a b⟩
  simp only [List.foldlM_cons,Option.bind_eq_bind,Option.bind_eq_some_iff] at h3
  obtain ⟨ds1,hs,h3⟩:=h3
  unfold pw at hs
  simp only at hs
  split at hs
  ·next off size hp =>
   cases hc:(Nat.beq d.cells.length size&&d.cells.all V.isCell&&Nat.ble (off+size) ds.length) with
   | false=>simp [hc] at hs
   | true =>
    simp only [hc,cond_true,Option.some.injEq] at hs
    subst hs
    simp only [Bool.and_eq_true,Nat.beq_eq,Nat.ble_eq] at hc
    obtain ⟨⟨c1,c2⟩,c3⟩:=hc
    obtain ⟨r1,_⟩:=v6 hv c2
    have s1:v.cells.size = size:=by rw [← c1, ← r1.1];simp
    have s2:off+v.cells.size≤cells.size:=by rw [s1];have:=h.1;simp at this;omega
    have:=tY dX parts dparts (v.cells.zipIdx.foldl (fun cs (c,j)=>cs.setIfInBounds (off+j) c) cells) _ ds' (by rw [I4];exact h.setL r1 off) h1 ht h3
    obtain ⟨cells',e1,e2⟩:=this
    refine ⟨cells', ?_,e2⟩
    rw [Instr.fill,hp]
    simp only
    rw [if_neg (by simp [s1];omega)]
    exact e1
  ·cases hs
theorem jx {t:TypeId} {z:V} (h:ny P t = some z):∃ (i:TypeInfo) (v:Value),P.info? t = some i∧i.zero = some v∧z = V.ofValue v∧∀ vs,v≠.tuple vs:=by
 unfold ny at h
 split at h
 ·next i hi =>
  split at h
  ·cases h
  ·next v hn hv=>cases h;exact ⟨i,v,hi,hv,rfl,fun vs e=>hn vs e⟩
  ·cases h
 ·cases h
theorem sW (v:Value):af E w v (.c (D.ofCell v)):=by
 unfold D.ofCell
 split
 ·exact .c _ _ .nil
 ·exact .lit v
theorem rI (v:Value):af E w v (V.ofValue v):=by
 unfold V.ofValue
 split
 ·next cs =>
  have:cs = cs.toList.toArray:=by simp
  rw [this]
  refine .agg _ _ (by simp) fun i v d hv hd=>?_
  simp only [List.getElem?_map] at hv hd
  rw [hv] at hd
  simp at hd;subst hd
  exact sW v
 ·next vs=>split <;> first | exact .unk _ | exact .lit _
 ·exact sW v
theorem ff {t:TypeId} {i:TypeInfo} {v:Value} (h:P.info? t = some i) (hz:i.zero = some v):(zeroValue t).run P w = .ok v w:=by
 simp [zeroValue,typeInfo,h,hz]
theorem o4 {t:TypeId} (h:eU P t = true):∃ d,P.underlying t = some d:=by
 unfold eU at h
 cases hu:P.underlying t with
 | some d=>exact ⟨d,rfl⟩
 | none=>rw [hu] at h;simp at h
theorem zO:∀ (fs:List Field),fs.all (fun f=>eU P f.type) = true →
  (fs.mapM (fun f=>do pure (f.offset, ← sizeOf f.type):Field→Sem (Nat × Nat))).run P w = .ok (fs.map fun f=>(f.offset,sz P f.type)) w
 | [],_=>by simp
 | f :: fs,h=>by
  simp only [List.all_cons,Bool.and_eq_true] at h
  obtain ⟨d,hd⟩:=o4 h.1
  have ih:=zO fs h.2
  simp only [bind_pure_comp] at ih
  simp [List.mapM_cons,br hd,ih]
theorem Bz {t:TypeId} {z:V} (h:ny P t = some z):∃ v,(zeroValue t).run P w = .ok v w∧af E w v z:=by
 obtain ⟨i,v,hi,hz,rfl,_⟩:=jx h
 exact ⟨v,ff hi hz,rI v⟩
theorem cm (v:Value) (hn:∀ vs,v≠.tuple vs):aI E w v.cells.toList (V.ofValue v).cells:=by
 have hr:af E w v (V.ofValue v):=rI v
 cases v with
 | agg cs =>
  have h2:af E w (.agg cs) (.agg (cs.toList.map fun v=>.c (D.ofCell v))):=hr
  obtain ⟨vs,e,hl⟩:=h2.agg_inv
  cases e
  simpa [Value.cells,V.ofValue,V.cells] using hl
 | tuple vs=>exact (hn vs rfl).elim
 | _ =>
  refine ⟨rfl,fun i v' d' a b=>?_⟩
  match i with
  | 0=>simp [Value.cells,V.ofValue,V.cells] at a b;subst a;subst b;exact sW _
  | i+1=>simp [Value.cells] at a
theorem Gl {t:TypeId} {parts:Array (Nat × Operand)} (ho:o.op = .build t parts) {vs:List V} (hv:aI E w (parts.toList.map fun p=>ρ p.2) vs)
  (h:Em P t ((parts.toList.map (·.1)).zip vs) = some r):gX P ρ o E w r:=by
 have hlen:(parts.toList.map (·.1)).length = vs.length:=by have:=hv.1;simpa using this
 have e1:(parts.map fun (i,x)=>(i,ρ x)).toList.map (·.1) = ((parts.toList.map (·.1)).zip vs).map (·.1):=by
  rw [List.map_fst_zip (by omega)]
  simp
 have e2:aI E w ((parts.map fun (i,x)=>(i,ρ x)).toList.map (·.2)) (((parts.toList.map (·.1)).zip vs).map (·.2)):=by
  rw [List.map_snd_zip (by omega)]
  have:(parts.map fun (i,x)=>(i,ρ x)).toList.map (·.2) = parts.toList.map fun p=>ρ p.2:=by simp
  rw [this]
  exact hv
 unfold Em at h
 split at h
 ·next fs z hu hz =>
  cases hk:fs.toList.all (fun f=>eU P f.type) with
  | false=>simp [hk] at h
  | true =>
   simp only [hk,cond_true] at h
   split at h
   ·next cs hcs =>
    cases h
    obtain ⟨i,v,hi,hz',rfl,hnt⟩:=jx hz
    obtain ⟨cells',f1,f2⟩:=tY (sa P fs) _ _ v.cells _ cs (cm v hnt) e1 e2 hcs
    refine ⟨rfl,rfl, .agg cells', ?_, ?_⟩
    ·have hp:=zO (w:=w) _ hk
     have hpl:(fun i=>(fs.map fun f=>(f.offset,sz P f.type))[i]?) = sa P fs:=by
      funext i
      simp [sa]
      cases fs[i]? <;> rfl
     simp only [execOp,ho,Sem.run_bind,Instr.build,ff hi hz',Result.andThen_ok,run_underlying hu,Array.mapM_eq_mapM_toList,Sem.run_map]
     simp only [bind_pure_comp] at hp ⊢
     rw [hp]
     have hpl':(fun x=>((fs.toList.map fun f=>(f.offset,sz P f.type)).toArray)[x]?) = sa P fs:=by
      rw [← hpl];funext x;simp
     simp only [Result.andThen_ok,hpl']
     have f1':Instr.fill (sa P fs) v.cells (parts.map fun x=>(x.fst,ρ x.snd)).toList = some cells':=f1
     rw [f1']
     rfl
    ·have:cells' = cells'.toList.toArray:=by simp
     rw [this]
     exact .agg _ _ f2.1 f2.2
   ·cases h
 ·next n e z hu hz =>
  cases hk:eU P e with
  | false=>simp [hk] at h
  | true =>
   simp only [hk,cond_true] at h
   split at h
   ·next cs hcs =>
    cases h
    obtain ⟨i,v,hi,hz',rfl,hnt⟩:=jx hz
    obtain ⟨d,hd⟩:=o4 hk
    obtain ⟨cells',f1,f2⟩:=tY _ _ _ v.cells _ cs (cm v hnt) e1 e2 hcs
    refine ⟨rfl,rfl, .agg cells', ?_, ?_⟩
    ·simp only [execOp,ho,Sem.run_bind,Instr.build,ff hi hz',Result.andThen_ok,run_underlying hu,br hd,f1,Sem.run_pure]
    ·have:cells' = cells'.toList.toArray:=by simp
     rw [this]
     exact .agg _ _ f2.1 f2.2
   ·cases h
 ·cases h
end
end Go.Ax
namespace Go.Ax
open Go.RowKit
def ar.next (E:ar) (nid:Nat) (c:Option Nat) (cap len:Nat) (ok':Nat→Prop):ar where
  conc o:=if o = nid then c else E.conc o
  cap o:=if o = nid then cap else E.cap o
  len o:=if o = nid then len else E.len o
  live o:=o = nid∨E.live o
  ok:=ok'
def eA (E:ar) (nid:Nat):Prop:=∀ j,j < 8→¬ E.live (nid+j)
theorem eA.one {E:ar} {nid:Nat} (h:eA E nid):¬ E.live nid:=h 0 (by omega)
theorem eA.of {E:ar} {nid M:Nat} (h:∀ q,M≤q→¬ E.live q) (hM:M≤nid):eA E nid:=fun j _=>h _ (by omega)
structure bU (E:ar) (w:World) (H:ab) (nid:Nat) (r:aB) (E':ar) (w':World) (v':Value):Prop where
  st:cQ E w r.kill E' w'
  heap:aw E' w' (r.eff++dt r.kill H)
  val:af E' w' v' r.val
  live:∀ q,E'.live q→E.live q∨nid≤q∧q < nid+8
section
variable {P:Program} {ρ:Operand→Value} {E:ar} {w w':World} {o:Oper} {r:aB} {H:ab} {nid:Nat}
theorem ed {c:Option Nat} {cap len:Nat} {ok':Nat→Prop} {q:Nat} (hf:¬ E.live nid) (h:E.live q):(E.next nid c cap len ok').conc q = E.conc q∧(E.next nid c cap len ok').cap q = E.cap q∧(E.next nid c cap len ok').len q = E.len q:=by
 have:q≠nid:=fun e=>hf (e ▸ h)
 simp [ar.next,this]
theorem ef {c:Option Nat} {cap len:Nat} {ok':Nat→Prop} {q b:Nat} (hq:(E.next nid c cap len ok').live q) (h:(E.next nid c cap len ok').conc q = some b):(q≠nid∧E.live q∧E.conc q = some b)∨(q = nid∧c = some b):=by
 by_cases e:q = nid
 ·subst e;simp [ar.next] at h;exact .inr ⟨rfl,h⟩
 ·simp [ar.next,e] at hq h;exact .inl ⟨e,hq,h⟩
theorem ck (hf:¬ E.live nid) (c:Option Nat) (cap len:Nat) (ok':Nat→Prop) (hb:Below w.heap.size w w') (hc:∀ b,c = some b→w.heap.size≤b) (hok:∀ b,E.ok b→ok' b) (hold:∀ b,ok' b→E.ok b∨w.heap.size≤b) :
    cQ E w [] (E.next nid c cap len ok') w' where
  os:=hb.os
  tape:=hb.tape
  output:=hb.output
  size:=hb.size
  live:=fun _ h=>.inr h
  blk:=fun b hlt _=>hb.block b hlt
  ok:=hok
  okold:=fun b h=>(hold b h).imp id .inl
  conc:=fun q hq _=>ed hf hq
  concnew:=fun q b hq h=>by
    rcases ef hq h with ⟨_,h1,h2⟩ | ⟨_,h2⟩
    · exact .inl ⟨_,h1,h2⟩
    · exact .inr (hc b h2)
theorem CU (d:V):IR [] d:=fun _ _=>by simp
theorem aI.mono {E':ar} {vs:List Value} {ds:List V} (h:aI E w vs ds) (hr:∀ v d,af E w v d→af E' w' v d):aI E' w' vs ds :=
 ⟨h.1,fun i v d a b=>hr v d (h.2 i v d a b)⟩
theorem lC {E':ar} {q:Nat} {ob:Ob} (h:gJ E w q ob) (hc:E'.conc q = E.conc q∧E'.cap q = E.cap q∧E'.len q = E.len q) (hb:∀ b,E.conc q = some b→w'.heap[b]? = w.heap[b]?)
  (hr:∀ v d,af E w v d→af E' w' v d) (hd:∀ v d,aG E.ok w v d→aG E'.ok w' v d):gJ E' w' q ob:=by
 obtain ⟨c1,c2,c3⟩:=hc
 cases ob with
 | box cs =>
  obtain ⟨hl,b,C,t,h1,h2,h3⟩:=h
  exact ⟨c3.trans hl,b,C,t,c1.trans h1,(hb b h1).trans h2,h3.mono hr⟩
 | raw x =>
  obtain ⟨hl,b,h1,h2⟩:=h
  exact ⟨c3.trans hl,b,c1.trans h1,(hb b h1).trans h2⟩
 | map t kt vt ks vs=>exact nv.mp h c1 c3 hb hd
 | iter m s0 l0 =>
  obtain ⟨hl,b,bm,s,seen,c,h1,h2,h3,h4⟩:=h
  exact ⟨c3.trans hl,b,bm,s,seen,c,c1.trans h1,(hb b h1).trans h2,h3,hr _ _ h4⟩
 | row e t l =>
  obtain ⟨hl,h⟩:=h
  refine ⟨c3.trans hl, ?_⟩
  rcases h with ⟨h1,h2⟩ | ⟨b,C,h1,h2,h3,h4,h5,h6,h7,h8⟩
  ·exact .inl ⟨c1.trans h1,h2⟩
  ·exact .inr ⟨b,C,c1.trans h1,(hb b h1).trans h2,by rw [c2];exact h3,by rw [c2];exact h4,by rw [c2];exact h5,h6,h7,fun i j d u a b c=>hd _ _ (h8 i j d u a b c)⟩
theorem fk {c:Option Nat} {cap len:Nat} {ok':Nat→Prop} (hH:aw E w H) (hS:cQ E w [] (E.next nid c cap len ok') w') {v:Value} {d:V} (h:af E w v d):af (E.next nid c cap len ok') w' v d :=
 h.step hS hH.sep hH.oklt
theorem lA {c:Option Nat} {cap len:Nat} {ok':Nat→Prop} (hH:aw E w H) (hS:cQ E w [] (E.next nid c cap len ok') w') {v:Value} {d:D} (h:aG E.ok w v d):aG (E.next nid c cap len ok').ok w' v d :=
 h.mono hS.ok fun b hb=>hS.blk b (hH.oklt b hb) fun o ho hc=>hH.sep o b ho hc hb
theorem cB (hf:¬ E.live nid) {c:Option Nat} {cap len:Nat} {ok':Nat→Prop} (hH:aw E w H) (hb:Below w.heap.size w w') (hc:∀ b,c = some b→w.heap.size≤b∧b < w'.heap.size∧¬ ok' b) (hok:∀ b,E.ok b→ok' b)
  (hold:∀ b,ok' b→E.ok b∨w.heap.size≤b) (hlt:∀ b,ok' b→b < w'.heap.size):aw (E.next nid c cap len ok') w' H:=by
 have hS:cQ E w [] (E.next nid c cap len ok') w':=ck hf c cap len ok' hb (fun b h=>(hc b h).1) hok hold
 refine ⟨fun q ob hq=>?_,fun q q' b hq hq' h h'=>?_,fun q b hq h=>?_,fun q b hq h=>?_,hlt⟩
 ·obtain ⟨h1,h2⟩:=hH.at_ q ob hq
  refine ⟨.inr h1,lC h2 (ed hf h1) (fun b hb'=>hb.block b (hH.lt q b h1 hb')) (fun v d h=>fk hH hS h) fun v d h=>lA hH hS h⟩
 ·rcases ef hq h with ⟨_,a1,a2⟩ | ⟨a1,a2⟩ <;> rcases ef hq' h' with ⟨_,b1,b2⟩ | ⟨b1,b2⟩
  ·exact hH.inj q q' b a1 b1 a2 b2
  ·have:=hH.lt q b a1 a2;have:=(hc b b2).1;omega
  ·have:=hH.lt q' b b1 b2;have:=(hc b a2).1;omega
  ·omega
 ·rcases ef hq h with ⟨_,a1,a2⟩ | ⟨a1,a2⟩
  ·intro hk
   rcases hold b hk with h3 | h3
   ·exact hH.sep q b a1 a2 h3
   ·have:=hH.lt q b a1 a2;omega
  ·exact (hc b a2).2.2
 ·rcases ef hq h with ⟨_,a1,a2⟩ | ⟨a1,a2⟩
  ·have:=hH.lt q b a1 a2;have:=hb.size;omega
  ·exact (hc b a2).2.1
theorem ab.get_cons (q q':Nat) (b:Option Ob):ab.get ((q,b) :: H) q' = if q = q' then b else ab.get H q':=by
 rw [ab.get]
 by_cases h:q = q'
 ·subst h;simp
 ·have:Nat.beq q q' = false:=by cases hb:Nat.beq q q'; rfl;exact (h (Nat.eq_of_beq_eq_true hb)).elim
  rw [this];simp [h]
theorem ic (hH:aw E w H) {q:Nat} {ob:Ob} (hq:E.live q) (h:gJ E w q ob):aw E w ((q,some ob) :: H):=by
 refine ⟨fun p x hp=>?_,hH.inj,hH.sep,hH.lt,hH.oklt⟩
 rw [ab.get_cons] at hp
 split at hp
 ·next e=>subst e;cases hp;exact ⟨hq,h⟩
 ·exact hH.at_ p x hp
theorem bA {c:Option Nat} {cap len:Nat} {ok':Nat→Prop}:∀ q,(E.next nid c cap len ok').live q→E.live q∨nid≤q∧q < nid+8:=fun _ h=>h.symm.imp id fun h=>by omega
theorem If (hH:aw E w H) (hf:¬ E.live nid) (hr:gX P ρ o E w r):∃ v',(execOp ρ o).run P w = .ok (.value v') w∧bU E w H nid r (E.next nid none 0 0 E.ok) w v':=by
 obtain ⟨h1,h2,v,h3,h4⟩:=hr
 have hS:cQ E w [] (E.next nid none 0 0 E.ok) w:=ck hf none 0 0 E.ok (.refl _ _) (by simp) (fun _ h=>h) (fun _ h=>.inl h)
 refine ⟨v,h3, ?_, ?_,fk hH hS h4,bA⟩
 ·rw [h2];exact hS
 ·rw [h1,h2]
  exact cB hf hH (.refl _ _) (by simp) (fun _ h=>h) (fun _ h=>.inl h) hH.oklt
theorem yq (hH:aw E w H) (hf:¬ E.live nid) (t:TypeId) (C:Array Value) (cap len:Nat) {ob:Ob} (he:r.eff = [(nid,some ob)]) (hk:r.kill = [])
  (hob:∀ (E':ar) (w':World),E'.ok = E.ok→E'.conc nid = some w.heap.size→E'.cap nid = cap→E'.len nid = len→w'.heap[w.heap.size]? = some (.cells C t (0,0)) →
   (∀ v d,af E w v d→af E' w' v d)→(∀ v d,aG E.ok w v d→aG E'.ok w' v d)→gJ E' w' nid ob)
  {v':Value} (hv:∀ (E':ar) (w':World),E'.live nid→E'.conc nid = some w.heap.size→E'.cap nid = cap→E'.len nid = len→af E' w' v' r.val) :
  bU E w H nid r (E.next nid (some w.heap.size) cap len E.ok) (w.alloc (.cells C t)) v':=by
 have hb:Below w.heap.size w (w.alloc (.cells C t)):=(Below.refl _ _).alloc (Nat.le_refl _) _
 have hcc:∀ b,some w.heap.size = some b→w.heap.size≤b∧b < (w.alloc (.cells C t)).heap.size∧¬ E.ok b:=by
  intro b e;cases e
  exact ⟨Nat.le_refl _,by simp,fun h=>by have:=hH.oklt _ h;omega⟩
 have hS:cQ E w [] (E.next nid (some w.heap.size) cap len E.ok) (w.alloc (.cells C t)):=ck hf _ cap len E.ok hb (fun b h=>(hcc b h).1) (fun _ h=>h) (fun _ h=>.inl h)
 have hN:=cB (cap:=cap) (len:=len) hf hH hb hcc (fun _ h=>h) (fun _ h=>.inl h) (fun b h=>by have:=hH.oklt b h;simp;omega)
 have e1:(E.next nid (some w.heap.size) cap len E.ok).conc nid = some w.heap.size:=by simp [ar.next]
 have e2:(E.next nid (some w.heap.size) cap len E.ok).cap nid = cap:=by simp [ar.next]
 have e3:(E.next nid (some w.heap.size) cap len E.ok).len nid = len:=by simp [ar.next]
 refine ⟨by rw [hk];exact hS, ?_,hv _ _ (.inl rfl) e1 e2 e3,bA⟩
 rw [he,hk]
 exact ic hN (.inl rfl) (hob _ _ rfl e1 e2 e3 (heap_alloc_new w _) (fun v d h=>fk hH hS h) fun v d h=>lA hH hS h)
theorem mV:∀ {cs:List V} {ds:List D},cs.mapM V.toD = some ds→ds.length = cs.length∧∀ (i:Nat) (d:D),ds[i]? = some d→cs[i]? = some (.c d)
 | [],ds,h=>by simp at h;subst h;simp
 | v :: cs,ds,h=>by
  rw [List.mapM_cons] at h
  simp only [Option.bind_eq_bind,Option.pure_def,Option.bind_eq_some_iff,Option.some.injEq] at h
  obtain ⟨d,hd,ds',hds,rfl⟩:=h
  obtain ⟨h1,h2⟩:=mV hds
  refine ⟨by simp [h1],fun i e he=>?_⟩
  match i with
  | 0 =>
   simp at he ⊢; subst he
   unfold V.toD at hd
   split at hd <;> simp_all
  | i+1=>simpa using h2 i e (by simpa using he)
theorem mj {cs:List V} {ds:List D} {vs:List Value} (h:cs.mapM V.toD = some ds) (hr:aI E w vs cs) {i:Nat} {d:D} {u:Value} (hd:ds[i]? = some d) (hu:vs[i]? = some u):aG E.ok w u d:=by
 have:=hr.2 i u _ hu ((mV h).2 i d hd)
 cases this with | c _ _ h=>exact h
theorem Dx {t:TypeId} {ty:Ty} (h:B8 P t = some ty):ty.k = sz P t:=by
 unfold B8 at h
 split at h
 ·next ty' _ =>
  cases hb:Nat.beq ty'.k (sz P t) with
  | false=>rw [hb] at h;cases h
  | true=>rw [hb] at h;cases h;exact Nat.eq_of_beq_eq_true hb
 ·cases h
theorem zT (hH:aw E w H) (hf:¬ E.live nid) {t:TypeId} {C:Array Value} {v:V} (hc:aI E w C.toList v.cells) (h1:∀ u∈C.toList,u.oneCell' = true) (h:nY P nid t v = some r) :
  ∃ E',bU E w H nid r E' (w.alloc (.cells C t)) (.pointer (some ⟨w.heap.size,0,none⟩)):=by
 unfold nY at h
 cases hs:(v.cells.all V.isCell&&Nat.beq v.cells.length (sz P t)) with
 | false=>simp [hs] at h
 | true =>
  simp only [hs,cond_true] at h
  simp only [Bool.and_eq_true,Nat.beq_eq] at hs
  split at h
  ·next len e ds hu hds =>
   cases hs2:(Nat.beq (len*sz P e) (sz P t)&&Nat.blt 0 (sz P e)&&Nat.blt 0 len&&Nat.ble len 1000000) with
   | false=>simp [hs2] at h
   | true =>
    simp only [hs2,cond_true] at h
    simp only [Bool.and_eq_true,Nat.beq_eq,Nat.blt_eq,Nat.ble_eq] at hs2
    obtain ⟨⟨⟨s1,s2⟩,s3⟩,s4⟩:=hs2
    split at h
    ·next ty hty =>
     split at h
     ·next l hl =>
      cases h
      have hk:=Dx hty
      obtain ⟨hll,hdk⟩:=A4 hk hl
      have hC:C.size = len*sz P e:=by rw [s1, ← hs.2, ← hc.1];simp
      refine ⟨_,yq (ob:=.row t ty l) hH hf t C len len rfl rfl (fun E' w' hok hco hca hle hh hr hd=>⟨hle.trans hll.symm, .inr ⟨_,C,hco,hh,by rw [hca,hC,hk],by omega, ?_,fun i hi=>dB ty l i, ?_, ?_⟩⟩) fun E' w' hnx hco hca hle=>?_⟩
      ·rw [hca];unfold maxLen;omega
      ·intro i j u hi hj hu'
       exact h1 u (by rw [← Array.getElem?_toList] at hu'; exact List.mem_of_getElem? hu')
      ·intro i j d u hi hd' hu'
       obtain ⟨_,d0,hd'',hdd⟩:=A5 hk hl (by omega) hd'
       rw [hk] at hu'
       exact (hd _ _ (mj hds hc hd'' (by rw [← Array.getElem?_toList] at hu'; exact hu'))).le hdd
      ·have:=af.ptr (w:=w') nid (sz P e) 0 0 w.heap.size hnx hco (by omega)
       simpa using this
     ·cases h
    ·cases h
  ·cases h
   refine ⟨_,yq (ob:=.box v.cells) hH hf t C 1 1 rfl rfl (fun E' w' hok hco hca hle hh hr hd=>⟨hle,_,C,t,hco,hh,hc.mono hr⟩) fun E' w' hnx hco hca hle=>?_⟩
   have:=af.ptr (w:=w') nid v.cells.length 0 0 w.heap.size hnx hco (by omega)
   simpa using this
theorem EM {z:V} (v:Value) (hz:z = V.ofValue v) (hn:∀ vs,v≠.tuple vs) (h:z.cells.all V.isCell = true):∀ u∈v.cells.toList,u.oneCell' = true:=by
 subst hz
 have hr:=cm (E:=⟨fun _=>none,fun _=>0,fun _=>0,fun _=>False,fun _=>False⟩) (w:=default) v hn
 intro u hu
 obtain ⟨i,hi⟩:=List.getElem?_of_mem hu
 have hlt:i < (V.ofValue v).cells.length:=by rw [← hr.1];exact (List.getElem?_eq_some_iff.1 hi).1
 exact pd (hr.2 i u _ hi (List.getElem?_eq_getElem hlt)) (List.all_eq_true.1 h _ (List.getElem_mem hlt))
theorem zj {t:TypeId} {v:V} (h:nY P nid t v = some r):v.cells.all V.isCell = true:=by
 unfold nY at h
 cases hs:v.cells.all V.isCell with
 | true=>rfl
 | false=>simp [hs] at h
theorem HF (hH:aw E w H) (hf:¬ E.live nid) {t:TypeId} (ho:o.op = .alloc t) {z:V} (hz:ny P t = some z) (h:nY P nid t z = some r) :
  ∃ E' w' v',(execOp ρ o).run P w = .ok (.value v') w'∧bU E w H nid r E' w' v':=by
 obtain ⟨i,v,hi,hz',hzv,hnt⟩:=jx hz
 obtain ⟨E',hp⟩:=zT hH hf (C:=v.cells) (by rw [hzv];exact cm v hnt) (EM v hzv hnt (zj h)) h
 refine ⟨E',_,_, ?_,hp⟩
 simp [execOp,ho,Instr.alloc,ff hi hz',newVar,newRow]
theorem KA (hH:aw E w H) (hf:¬ E.live nid) {t:TypeId} {x:Operand} (ho:o.op = .box t x) {vx:V} (hx:af E w (ρ x) vx) (h:nY P nid t vx = some r) :
  ∃ E' w' v',(execOp ρ o).run P w = .ok (.value v') w'∧bU E w H nid r E' w' v':=by
 obtain ⟨h1,h2⟩:=v6 hx (zj h)
 obtain ⟨E',hp⟩:=zT hH hf h1 h2 h
 refine ⟨E',_,_, ?_,hp⟩
 simp [execOp,ho,Instr.box,newVar,newRow]
theorem Gp {α:Type} (cs xs:List α) (off:Nat) (h:off+xs.length≤cs.length):cs.take off++xs++cs.drop (off+xs.length) = setL cs off xs:=by
 apply List.ext_getElem?
 intro q
 rw [mH]
 by_cases h1:q < off
 ·rw [if_neg (by omega),List.append_assoc,List.getElem?_append_left (by simp;omega),List.getElem?_take,if_pos h1]
 ·by_cases h2:q < off+xs.length
  ·rw [if_pos ⟨by omega,h2,by omega⟩,List.append_assoc,List.getElem?_append_right (by simp;omega),List.getElem?_append_left (by simp;omega)]
   simp [Nat.min_eq_left (show off≤cs.length by omega)]
  ·rw [if_neg (by omega),List.getElem?_append_right (by simp;omega),List.getElem?_drop]
   congr 1
   simp
   omega
theorem tN (hH:aw E w H) (hf:¬ E.live nid) {t:TypeId} {a x:Operand} (ho:o.op = .store t a x) {va vx:V} (ha:af E w (ρ a) va) (hx:af E w (ρ x) vx) (h:nV P H t va vx = some r) (hp:∀ p∈r.pre,p) :
  ∃ E' w',(execOp ρ o).run P w = .ok .skip w'∧bU E w H nid r E' w' undef:=by
 unfold nV at h
 cases hs:(Nat.beq vx.cells.length (sz P t)&&vx.cells.all V.isCell&&eU P t) with
 | false=>simp [hs] at h
 | true =>
  simp only [hs,cond_true] at h
  simp only [Bool.and_eq_true,Nat.beq_eq] at hs
  obtain ⟨hs,hkn⟩:=hs
  have hpos:=o4 hkn
  obtain ⟨r1,r2⟩:=v6 hx hs.2
  have hsz:(ρ x).cells.size = sz P t:=by rw [← hs.1, ← r1.1];simp
  split at h
  ·next o' k i j =>
   generalize hv:ρ a = v at ha
   cases ha with
   | ptr _ _ _ _ b hn hb hi =>
    have store:∀ (C:Array Value) (te:TypeId),w.heap[b]? = some (.cells C te (0,0))→i*k+j+sz P t≤C.size→(∃ d,P.underlying t = some d) →
      ∃ C':Array Value,(execOp ρ o).run P w = .ok .skip (w.setRow b C')∧C'.toList = setL C.toList (i*k+j) (ρ x).cells.toList:=by
     intro C te hh hle ⟨d,hd⟩
     have hst:=run_storeCells_at P b (i*k+j) te (ρ x).cells.toList 0 C w hh (by simp [hsz];omega) r2
     rw [Nat.add_zero] at hst
     refine ⟨(C.toList.take (i*k+j)++(ρ x).cells.toList++C.toList.drop (i*k+j+(ρ x).cells.toList.length)).toArray, ?_, ?_⟩
     ·simp only [execOp,ho,hv,Instr.storeAt,Instr.sureAddr,Sem.run_bind,Sem.run_pure,Result.andThen_ok,storeVar,br hd]
      rw [if_neg (by rw [hsz];simp)]
      rw [hst]
      rfl
     ·rw [Gp _ _ _ (by simp [hsz];omega)]
    have stays:∀ (C C':Array Value) (te:TypeId),w.heap[b]? = some (.cells C te (0,0))→cQ E w [] (E.next nid none 0 0 E.ok) (w.setRow b C') ∧
      (∀ ob,(∀ (E':ar),E'.ok = E.ok→E'.conc o' = some b→E'.cap o' = E.cap o'→E'.len o' = E.len o'→(∀ v d,af E w v d→af E' (w.setRow b C') v d)→(∀ v d,aG E.ok w v d→aG E'.ok (w.setRow b C') v d)→gJ E' (w.setRow b C') o' ob) →
       aw (E.next nid none 0 0 E.ok) (w.setRow b C') ([(o',some ob)]++H)):=by
     intro C C' te hh
     have hS:cQ E w [] (E.next nid none 0 0 E.ok) (w.setRow b C'):=by
      refine ⟨rfl,rfl,rfl,by simp,fun _ h=>.inr h,fun b' hlt hno=>setRow_other w b b' C' (fun e=>hno o' hn (by rw [hb,e])),fun _ h=>h,fun _ h=>.inl h,fun q hq _=>ed hf hq,fun q b' hq h'=>?_⟩
      rcases ef hq h' with ⟨_,h1,h2⟩ | ⟨_,h2⟩
      ·exact .inl ⟨_,h1,h2⟩
      ·cases h2
     have hr:∀ v d,af E w v d→af (E.next nid none 0 0 E.ok) (w.setRow b C') v d:=fun v d h=>fk hH hS h
     have hd:∀ v d,aG E.ok w v d→aG (E.next nid none 0 0 E.ok).ok (w.setRow b C') v d:=fun v d h=>lA hH hS h
     refine ⟨hS,fun ob hob=>?_⟩
     have hcase:∀ q b,(E.next nid none 0 0 E.ok).live q→(E.next nid none 0 0 E.ok).conc q = some b→E.live q∧E.conc q = some b:=by
      intro q b hq h
      rcases ef hq h with ⟨_,h1,h2⟩ | ⟨_,h2⟩
      ·exact ⟨h1,h2⟩
      ·cases h2
     refine ⟨fun q x hq=>?_,fun q q' b hq hq' h h'=>?_,fun q b hq h=>?_,fun q b' hq h=>?_,fun b' h=>by simp;exact hH.oklt b' h⟩
     ·rw [List.cons_append,List.nil_append,ab.get_cons] at hq
      split at hq
      ·next e =>
       subst e;cases hq
       obtain ⟨c1,c2,c3⟩:=ed (c:=none) (cap:=0) (len:=0) (ok':=E.ok) hf hn
       exact ⟨.inr hn,hob _ rfl (c1.trans hb) c2 c3 hr hd⟩
      ·next hne =>
       obtain ⟨h1,h2⟩:=hH.at_ q x hq
       refine ⟨.inr h1,lC h2 (ed hf h1) (fun b' hb'=>setRow_other w b b' C' fun e=>?_) hr hd⟩
       subst e
       exact hne (hH.inj _ _ _ hn h1 hb hb')
     ·obtain ⟨a1,a2⟩:=hcase q b hq h
      obtain ⟨b1,b2⟩:=hcase q' b hq' h'
      exact hH.inj q q' b a1 b1 a2 b2
     ·obtain ⟨a1,a2⟩:=hcase q b hq h
      exact hH.sep q b a1 a2
     ·obtain ⟨a1,a2⟩:=hcase q b' hq h
      simp;exact hH.lt q b' a1 a2
    split at h
    ·next cs hg =>
     cases hs2:(Nat.beq cs.length k&&Nat.ble (j+sz P t) k) with
     | false=>simp [hs2] at h
     | true =>
      simp only [hs2,cond_true] at h
      simp only [Bool.and_eq_true,Nat.beq_eq,Nat.ble_eq] at hs2
      cases h
      obtain ⟨_,hlen,b',C,te,h1,h2,h3⟩:=hH.at_ _ _ hg
      rw [h1] at hb;cases hb
      have hi0:i = 0:=by omega
      subst hi0
      have hCs:C.size = k:=by rw [← hs2.1, ← h3.1];simp
      obtain ⟨C',e1,e2⟩:=store C te h2 (by omega) hpos
      obtain ⟨hS,hN⟩:=stays C C' te h2
      refine ⟨_,_,e1,hS,hN _ fun E' hok hco hca hle hr hd=>⟨hle.trans hlen,b,C',te,hco,setRow_heap w b C C' te _ h2, ?_⟩, .unk _,bA⟩
      rw [e2,Nat.zero_mul,Nat.zero_add]
      exact (h3.setL r1 j).mono hr
    ·next e ty l hg =>
     split at h
     ·next ds hds =>
      cases hs2:(Nat.beq ty.k k&&Nat.ble (j+sz P t) k) with
      | false =>
       rw [hs2,cond_false] at h
       cases hs3:(Nat.beq ty.k k&&Nat.beq i 0&&Nat.beq j 0&&Nat.blt 0 k) with
       | false=>rw [hs3] at h;cases h
       | true =>
        rw [hs3,cond_true] at h
        simp only [Bool.and_eq_true,Nat.beq_eq,Nat.blt_eq] at hs3
        obtain ⟨⟨⟨rfl,rfl⟩,rfl⟩,hk0⟩:=hs3
        split at h
        ·next l' hl' =>
         cases h
         have hnk:l.length*ty.k = sz P t:=hp _ (by simp)
         have hdiv:sz P t / ty.k = l.length:=by rw [← hnk];exact Nat.mul_div_cancel _ hk0
         obtain ⟨hll,hdk⟩:=A4 rfl hl'
         rw [hdiv] at hll hdk
         obtain ⟨C,h2,h3,h4,h6,h7,h8⟩:=mJ hH hg hb
         obtain ⟨_,hlen,hob⟩:=hH.at_ _ _ hg
         have hcm:E.cap o'≤maxLen:=by
          rcases hob with ⟨q1,_⟩ | ⟨_,_,_,_,_,_,q6,_⟩
          ·rw [q1] at hb;cases hb
          ·exact q6
         have hnc:l.length*ty.k≤E.cap o'*ty.k:=Nat.mul_le_mul_right _ h4
         obtain ⟨C',e1,e2⟩:=store C e h2 (by rw [h3];omega) hpos
         obtain ⟨hS,hN⟩:=stays C C' e h2
         have hxs:(ρ x).cells.toList.length = sz P t:=by simpa using hsz
         have hCl:C'.size = C.size:=by
          have:=congrArg List.length e2
          rw [kE] at this
          simpa using this
         have hget:∀ q,q < l.length*ty.k→C'[q]? = (ρ x).cells.toList[q]?:=by
          intro q hq
          rw [← Array.getElem?_toList,e2,mH,hxs,if_pos ⟨by omega,by omega,by simp;omega⟩]
          congr 1
          omega
         have hin:∀ q j',q < l.length→j' < ty.k→q*ty.k+j' < l.length*ty.k:=by
          intro q j' hq hj
          have:(q+1)*ty.k≤l.length*ty.k:=Nat.mul_le_mul_right _ hq
          rw [Nat.add_mul,Nat.one_mul] at this
          omega
         refine ⟨_,_,e1,hS,hN _ fun E' hok hco hca hle' hr hd=>⟨(hle'.trans hlen).trans hll.symm, .inr ⟨b,C',hco,setRow_heap w b C C' e _ h2,by rw [hca,hCl];exact h3,by rw [hca,hll];exact h4,by rw [hca];exact hcm,fun q hq=>dB ty l' q, ?_, ?_⟩⟩, .unk _,bA⟩
         ·intro q j' u hq hj hu
          rw [hget _ (hin q j' (by omega) hj)] at hu
          exact r2 u (List.mem_of_getElem? hu)
         ·intro q j' d u hq hd' hu
          obtain ⟨hj,d0,hd'',hdd⟩:=A5 rfl hl' (by omega) hd'
          rw [hget _ (hin q j' (by omega) hj)] at hu
          exact (hd _ _ (mj hds r1 hd'' hu)).le hdd
        ·cases h
      | true =>
       simp only [hs2,cond_true] at h
       simp only [Bool.and_eq_true,Nat.beq_eq,Nat.ble_eq] at hs2
       obtain ⟨rfl,hle⟩:=hs2
       split at h
       ·next y hy =>
        cases h
        have hyl:=kA ty _ _ hy
        obtain ⟨C,h2,h3,h4,h6,h7,h8⟩:=mJ hH hg hb
        obtain ⟨_,hlen,hob⟩:=hH.at_ _ _ hg
        have hcm:E.cap o'≤maxLen:=by
         rcases hob with ⟨q1,_⟩ | ⟨_,_,_,_,_,_,q6,_⟩
         ·rw [q1] at hb;cases hb
         ·exact q6
        have him:i < l.length:=by omega
        have hik:(i+1)*ty.k≤E.cap o'*ty.k:=Nat.mul_le_mul_right _ (by omega)
        rw [Nat.add_mul,Nat.one_mul] at hik
        obtain ⟨C',e1,e2⟩:=store C e h2 (by omega) hpos
        obtain ⟨hS,hN⟩:=stays C C' e h2
        have hdl:=(mV hds).1
        have hxs:(ρ x).cells.toList.length = sz P t:=by simpa using hsz
        have hCl:C'.size = C.size:=by
         have:=congrArg List.length e2
         rw [kE] at this
         simpa using this
        have hget:∀ q,C'[q]? = if i*ty.k+j≤q∧q < i*ty.k+j+sz P t∧q < C.size then (ρ x).cells.toList[q - (i*ty.k+j)]? else C[q]?:=by
         intro q
         rw [← Array.getElem?_toList,e2,mH,hxs]
         simp
        refine ⟨_,_,e1,hS,hN _ fun E' hok hco hca hle' hr hd=>⟨(hle'.trans hlen).trans (by rw [List.length_set]), .inr ⟨b,C',hco,setRow_heap w b C C' e _ h2,by rw [hca,hCl];exact h3,by rw [hca,List.length_set];exact h4,by rw [hca];exact hcm,fun q hq=>dB ty _ q, ?_, ?_⟩⟩, .unk _,bA⟩
        ·intro q j' u hq hj hu
         rw [List.length_set] at hq
         rw [hget] at hu
         split at hu
         ·exact r2 u (List.mem_of_getElem? hu)
         ·exact h7 q j' u hq hj hu
        ·intro q j' d u hq hd' hu
         rw [List.length_set] at hq
         rw [hget] at hu
         rw [L5 him] at hd'
         by_cases hqi:q = i
         ·subst hqi
          rw [if_pos rfl] at hd'
          obtain ⟨d0,hd0,hdd⟩:=hyl.at hd'
          rw [mH,h6 q hq,hdl,hs.1] at hd0
          have hj':j' < ty.k:=by
           split at hd0
           ·next hc=>omega
           ·have:=(List.getElem?_eq_some_iff.1 hd0).1;rw [h6 q hq] at this;exact this
          split at hd0
          ·next hc =>
           rw [if_pos (by omega)] at hu
           rw [show q*ty.k+j' - (q*ty.k+j) = j' - j by omega] at hu
           exact (hd _ _ (mj hds r1 hd0 hu)).le hdd
          ·next hc =>
           rw [if_neg (by omega)] at hu
           exact (hd _ _ (h8 q j' d0 u hq hd0 hu)).le hdd
         ·rw [if_neg hqi] at hd'
          have hj':j' < ty.k:=by have:=(List.getElem?_eq_some_iff.1 hd').1;rw [h6 q hq] at this;exact this
          have hne:¬ (i*ty.k+j≤q*ty.k+j'∧q*ty.k+j' < i*ty.k+j+sz P t∧q*ty.k+j' < C.size):=by
           rcases Nat.lt_or_gt_of_ne hqi with hlt | hgt
           ·have:(q+1)*ty.k≤i*ty.k:=Nat.mul_le_mul_right _ hlt
            rw [Nat.add_mul,Nat.one_mul] at this
            omega
           ·have:(i+1)*ty.k≤q*ty.k:=Nat.mul_le_mul_right _ hgt
            rw [Nat.add_mul,Nat.one_mul] at this
            omega
          rw [if_neg hne] at hu
          exact hd _ _ (h8 q j' d u hq hd' hu)
       ·cases h
     ·cases h
    ·cases h
    ·cases h
    ·cases h
    ·cases h
  ·cases h
end
end Go.Ax
namespace Go.Ax
open Go.RowKit
section
variable {P:Program} {ρ:Operand→Value} {E:ar} {w w':World} {o:Oper} {r:aB} {H:ab} {nid:Nat}
structure EA (E:ar) (w:World) (v:Value) (k n:Nat) (el:Nat→List D) (news:List Value):Prop where
  form:∃ a c,v = .slice a n c∧n≤c∧c≤maxLen∧(0 < n→∃ ad,a = some ad∧∀ q u,news[q]? = some u→w.cell? (ad.add q) = some u)
  blk:∀ ad n' c,v = .slice (some ad) n' c→0 < n→E.ok ad.block∨∃ q,E.live q∧E.conc q = some ad.block
  len:news.length = n*k
  one:∀ u∈news,u.oneCell' = true
  els:∀ i,i < n→(el i).length = k
  rep:∀ i j d u,i < n→(el i)[j]? = some d→news[i*k+j]? = some u→aG E.ok w u d
theorem yp {k n:Nat} (u:Nat→Nat→Value) {q:Nat} {x:Value} (h:((List.range (n*k)).map fun q=>u (q / k) (q % k))[q]? = some x):q < n*k∧x = u (q / k) (q % k)∧q / k < n∧q % k < k:=by
 rw [List.getElem?_map] at h
 cases hr:(List.range (n*k))[q]? with
 | none=>rw [hr] at h;cases h
 | some p =>
  rw [hr] at h;cases h
  obtain ⟨h1,h2⟩:=List.getElem?_eq_some_iff.1 hr
  simp at h1 h2;subst h2
  have hk:0 < k:=by
   rcases Nat.eq_zero_or_pos k with h0 | h0
   ·subst h0;simp at h1
   ·exact h0
  exact ⟨h1,rfl,Nat.div_lt_of_lt_mul (by rw [Nat.mul_comm];exact h1),Nat.mod_lt _ hk⟩
theorem sY {k i j:Nat} (hj:j < k):(i*k+j) / k = i∧(i*k+j) % k = j:=by
 constructor
 ·rw [Nat.mul_comm,Nat.mul_add_div (by omega),Nat.div_eq_of_lt hj];rfl
 ·rw [Nat.mul_comm,Nat.mul_add_mod,Nat.mod_eq_of_lt hj]
theorem l6 (hH:aw E w H) {v:Value} {x:V} {t:Ty} {l:List t.T} (hx:af E w v x) (h:bN H t x = some l):∃ news,EA E w v t.k l.length (els t l) news:=by
 have key:(x = .c .nil∧l = [])∨x = .c (.sl t l)∨(∃ o' e',x = .row o' t.k∧H.get o' = some (.row e' t l))∨∃ o' off n e' l',x = .sub o' t.k off n∧H.get o' = some (.row e' t l')∧l = aj l' off n:=by
  cases x with
  | c d =>
   cases d with
   | nil=>simp [bN] at h;exact .inl ⟨rfl,h⟩
   | sl t' l'=>obtain ⟨e,rfl⟩:=jV h;subst e;exact .inr (.inl rfl)
   | _=>simp [bN] at h
  | row o' k0 =>
   cases hg:H.get o' with
   | none=>simp [bN,hg] at h
   | some ob =>
    cases ob with
    | box cs=>simp [bN,hg] at h
    | raw x=>simp [bN,hg] at h
    | map=>simp [bN,hg] at h
    | iter=>simp [bN,hg] at h
    | row e' t' l' =>
     cases hs:Nat.beq t'.k k0 with
     | false=>simp [bN,hg,hs] at h
     | true =>
      have hkk:t'.k = k0:=Nat.eq_of_beq_eq_true hs
      subst hkk
      simp only [bN,hg,hs,cond_true] at h
      obtain ⟨e,rfl⟩:=jV h
      subst e
      exact .inr (.inr (.inl ⟨o',e',rfl,hg⟩))
  | sub o' k0 off n =>
   cases hg:H.get o' with
   | none=>simp [bN,hg] at h
   | some ob =>
    cases ob with
    | box cs=>simp [bN,hg] at h
    | raw x=>simp [bN,hg] at h
    | map=>simp [bN,hg] at h
    | iter=>simp [bN,hg] at h
    | row e' t' l' =>
     cases hs:Nat.beq t'.k k0 with
     | false=>simp [bN,hg,hs] at h
     | true =>
      have hkk:t'.k = k0:=Nat.eq_of_beq_eq_true hs
      subst hkk
      simp only [bN,hg,hs,cond_true] at h
      cases hc:kL t' t l' with
      | none=>rw [hc] at h;cases h
      | some l2 =>
       rw [hc] at h;cases h
       obtain ⟨e,rfl⟩:=jV hc
       subst e
       exact .inr (.inr (.inr ⟨o',off,n,e',l',rfl,hg,rfl⟩))
  | _=>simp [bN] at h
 clear h
 have part:∀ (o' e':Nat) (l':List t.T) (off n:Nat) (a:Option Addr) (c:Nat),H.get o' = some (.row e' t l')→n≤c→c≤maxLen→off+n≤l'.length→(0 < n→∃ b,E.conc o' = some b∧a = some ⟨b,off*t.k,none⟩) →
   ∃ news,EA E w (.slice a n c) t.k n (fun i=>els t l' (off+i)) news:=by
  intro o' e' l' off n a c hg hc hm hl ha
  obtain ⟨_,hlen,hob⟩:=hH.at_ _ _ hg
  by_cases hn:n = 0
  ·subst hn
   exact ⟨[],⟨a,c,rfl,hc,hm,fun h=>by omega⟩,(fun _ _ _ _ h=>by omega),by simp,by simp,fun i hi=>by omega,fun i j d u hi=>by omega⟩
  ·obtain ⟨b,hb,rfl⟩:=ha (by omega)
   obtain ⟨C,h2,h3,h4,h6,h7,h8⟩:=mJ hH hg hb
   have hle:(off+n)*t.k≤C.size:=by rw [h3];exact Nat.mul_le_mul_right _ (by omega)
   rw [Nat.add_mul] at hle
   have hget:∀ q,((C.toList.drop (off*t.k)).take (n*t.k))[q]? = if q < n*t.k then C[off*t.k+q]? else none:=by
    intro q
    rw [List.getElem?_take]
    split
    ·rw [List.getElem?_drop,Array.getElem?_toList]
    ·rfl
   refine ⟨(C.toList.drop (off*t.k)).take (n*t.k),⟨_,c,rfl,hc,hm,fun _=>⟨_,rfl,fun q u hq=>?_⟩⟩,(fun ad n' c' e _=>by cases e;exact .inr ⟨_,(hH.at_ _ _ hg).1,hb⟩),by simp;omega,fun u hu=>?_,fun i hi=>dB _ _ _,fun i j d u hi hd hu=>?_⟩
   ·rw [hget] at hq
    split at hq
    ·rw [bQ,cell_of_row w b _ C e' (0,0) h2];exact hq
    ·cases hq
   ·obtain ⟨q,hq⟩:=List.getElem?_of_mem hu
    rw [hget] at hq
    split at hq
    ·next hlt =>
     have hk:0 < t.k:=by
      rcases Nat.eq_zero_or_pos t.k with h0 | h0
      ·rw [h0] at hlt;simp at hlt
      ·exact h0
     have hd:q / t.k < n:=Nat.div_lt_of_lt_mul (by rw [Nat.mul_comm];exact hlt)
     refine h7 (off+q / t.k) (q % t.k) u (by omega) (Nat.mod_lt _ hk) ?_
     rw [Nat.add_mul,Nat.add_assoc,Nat.div_add_mod' q t.k]
     exact hq
    ·cases hq
   ·rw [hget] at hu
    split at hu
    ·refine h8 (off+i) j d u (by omega) hd ?_
     rw [Nat.add_mul,Nat.add_assoc];exact hu
    ·cases hu
 rcases key with ⟨rfl,rfl⟩ | rfl | ⟨o',e',rfl,hg⟩ | ⟨o',off,n,e',l',rfl,hg,rfl⟩
 ·have e:=hx.nil_inv
  subst e
  exact ⟨[],⟨none,0,rfl,Nat.le_refl _,by simp [maxLen],fun h=>by simp at h⟩,(fun _ _ _ _ h=>by simp at h),by simp,by simp,fun i hi=>by simp at hi,fun i j d u hi=>by simp at hi⟩
 ·cases hx with
  | c _ _ hx =>
   cases hx with
   | sl _ _ a n c k el u hn hk hel hc hm ha hone hl hu =>
    subst hn hk
    refine ⟨(List.range (l.length*t.k)).map fun q=>u (q / t.k) (q % t.k),⟨a,c,rfl,hc,hm,fun hn=>?_⟩,(fun ad n' c' e hn=>by cases e;obtain ⟨ad',e1,e2,_⟩:=ha hn;cases e1;exact .inl e2),by simp,fun x hx=>?_,fun i hi=>dB _ _ _,fun i j d x hi hd hx=>?_⟩
    ·obtain ⟨ad,rfl,hok,hcell⟩:=ha hn
     refine ⟨ad,rfl,fun q x hq=>?_⟩
     obtain ⟨h1,rfl,h2,h3⟩:=yp u hq
     have:=hcell (q / t.k) (q % t.k) h2 h3
     rwa [Nat.div_add_mod' q t.k] at this
    ·obtain ⟨q,hq⟩:=List.getElem?_of_mem hx
     obtain ⟨h1,rfl,h2,h3⟩:=yp u hq
     exact hone _ _ h2 h3
    ·obtain ⟨h1,rfl,h2,h3⟩:=yp u hx
     have hj:j < t.k:=by rw [← dB t l i];exact (List.getElem?_eq_some_iff.1 hd).1
     obtain ⟨e1,e2⟩:=sY (i:=i) hj
     rw [e1,e2]
     rw [← hel i hi] at hd
     exact hu i j d hi hd
 ·cases hx with
  | row _ _ a n c hn hl hc hm h0 =>
   have hlen:E.len o' = l.length:=(hH.at_ _ _ hg).2.1
   have hnl:n = l.length:=hl.trans hlen
   subst hnl
   obtain ⟨news,h⟩:=part o' e' l 0 l.length a c hg hc hm (by omega) fun hn0=>by
    rcases h0 with ⟨_,h0,_⟩ | ⟨b,hb,ha,_⟩
    ·omega
    ·exact ⟨b,hb,by rw [ha,Nat.zero_mul]⟩
   refine ⟨news, ?_⟩
   have e:(fun i=>els t l (0+i)) = els t l:=by funext i;rw [Nat.zero_add]
   rw [e] at h
   exact h
 ·cases hx with
  | sub _ _ _ _ a c hn hc hm hl ha =>
   have hlen:E.len o' = l'.length:=(hH.at_ _ _ hg).2.1
   obtain ⟨news,h⟩:=part o' e' l' off n a c hg hc hm (by omega) ha
   have hsl:(aj l' off n).length = n:=x7 (by omega)
   rw [hsl]
   exact ⟨news,h.form,h.blk,h.len,h.one,fun i hi=>dB _ _ _,fun i j d u hi hd hu=>h.rep i j d u hi (by rw [← Ho hi];exact hd) hu⟩
theorem uF (t ty e:TypeId) (i:TypeInfo) (z:Value) (size bytes:Nat) (ht:P.underlying t = some (.slice e)) (hi:P.info? e = some i) (hz:i.zero = some z)
  (hsize:i.size = size) (hby:i.bytes = bytes) (hzs:z.cells.size = size) (hsz:0 < size)
  (v:Value) (n:Nat) (xs:List Value) (hown:w.ownsRow 0 e size v n xs)
  (a:Option Addr) (m c:Nat) (news:List Value) (hl:news.length = m*size) (hnews:0 < m→∃ ad,a = some ad∧∀ j u,news[j]? = some u→w.cell? (ad.add j) = some u) (h1:∀ u∈news,u.oneCell' = true)
  (h63:n+m≤maxLen) (hbytes:(n+m)*bytes≤140737488355328) :
  ∃ v' w',(Builtin.append_ #[t,t] ty #[v, .slice a m c]).run P w = .ok v' w'∧w'.ownsRow 0 e size v' (n+m) (xs++news)∧w.grownBy w' v.ownBlock ∧
   (v'.ownBlock = v.ownBlock∨(v'.ownBlock = some w.heap.size∧w.heap.size < w'.heap.size)):=by
 by_cases hm0:m = 0
 ·subst hm0
  have hn:news = []:=List.eq_nil_of_length_eq_zero (by simpa using hl)
  subst hn
  refine ⟨v,w, ?_,by simpa using hown,⟨rfl,rfl,rfl,Nat.le_refl _,fun _ _ _=>rfl⟩, .inl rfl⟩
  rcases hown.2 with ⟨rfl,rfl⟩ | ⟨g,cap,cur,rfl,_,hg,hnc,_⟩
  ·cases a <;> simp [Builtin.append_,run_underlying ht,sizeOf,typeInfo,hi,Builtin.lenOf,Builtin.firstCells,loadCells,loadCellsFrom]
  ·cases a <;> simp [Builtin.append_,run_underlying ht,sizeOf,typeInfo,hi,Builtin.lenOf,Builtin.firstCells,hnc,storeCells,loadCells,loadCellsFrom]
 obtain ⟨ad,rfl,hnews'⟩:=hnews (by omega)
 subst hsize
 subst hby
 have hsmall:n+m≤9223372036854775807:=by simp only [maxLen] at h63;omega
 have hlen:(xs++news).length = (n+m)*i.size:=by rw [List.length_append,hown.1,hl,Nat.add_mul]
 have grown:∀ (old:Nat),old < n+m→∀ (row:Option Nat),
   (w.drew.alloc (.cells (xs.toArray++news.toArray++Builtin.zeroCells z.cells (grownCap w (n+m) old e - (n+m))) e)).ownsRow 0 e i.size
    (.slice (some ⟨w.heap.size,0,none⟩) (n+m) (grownCap w (n+m) old e)) (n+m) (xs++news) ∧
   w.grownBy (w.drew.alloc (.cells (xs.toArray++news.toArray++Builtin.zeroCells z.cells (grownCap w (n+m) old e - (n+m))) e)) row:=by
  intro old ho row
  have hge:=grownCap_ge w (n+m) old e
  have hcm:grownCap w (n+m) old e≤maxLen:=grownCap_le_maxLen w (n+m) old e h63
  refine ⟨⟨hlen, .inr ⟨w.heap.size,_,_,rfl,Nat.zero_le _,heap_alloc_new w.drew _,hge,hcm, ?_, ?_⟩⟩,⟨rfl,rfl,rfl,by simp,fun k hk _=>Below.heap_alloc w.drew _ k hk⟩⟩
  ·simp only [Array.size_append,List.size_toArray,size_zeroCells,hzs,hown.1,hl, ← Nat.add_mul]
   congr 1
   omega
  ·simp only [Array.toList_append,List.append_assoc]
   rw [← List.append_assoc, ← hlen]
   exact List.take_left
 rcases hown.2 with ⟨rfl,rfl⟩ | ⟨g,cap,cur,rfl,hbg,hg,hnc,hcm,hcs,htake⟩
 ·have hx:xs = []:=List.eq_nil_of_length_eq_zero (by simpa using hown.1)
  subst hx
  have hr:=run_append_nil (P:=P) w t ty e i z ht hi hz ad m c news hl hnews' (by omega) (by omega) (by have hb:=hbytes;simp only [Nat.zero_add] at hb;omega)
  have hgr:=grown 0 (by omega) (Value.ownBlock (.slice none 0 0))
  simp only [Nat.zero_add,List.nil_append,Array.empty_append] at hgr ⊢
  exact ⟨_,_,hr,hgr.1,hgr.2, .inr ⟨rfl,by simp⟩⟩
 ·by_cases hroom:n+m≤cap
  ·have hfit:n*i.size+news.length≤cur.size:=by rw [hl,hcs, ← Nat.add_mul];exact Nat.mul_le_mul_right _ hroom
   have hr:=run_append_room (P:=P) w t ty e i ht hi g n cap cur hg ad m c news hl hnews' h1 hroom hfit
   refine ⟨_,_,hr,⟨hlen, .inr ⟨g,cap,_,rfl,hbg,setRow_heap w g cur _ e _ hg,hroom,hcm, ?_, ?_⟩⟩,⟨rfl,rfl,rfl,by simp,fun k _ hk=>setRow_other w g k _ (fun e=>hk (by simp [Value.ownBlock,e]))⟩, .inl rfl⟩
   ·simp only [List.size_toArray,List.length_append,List.length_take,List.length_drop,Array.length_toList]
    omega
   ·rw [htake, ← hlen]
    exact List.take_left
  ·have holds:∀ j u,xs[j]? = some u→w.cell? ((⟨g,0,none⟩:Addr).add j) = some u:=hown.cells (g:=g) rfl
   have hr:=run_append_grow (P:=P) w t ty e i z ht hi hz ⟨g,0,none⟩ n cap xs hown.1 holds ad m c news hl hnews' (by omega) (by omega) (growslice_fits (by omega) hbytes)
   have hgr:=grown cap (by omega) (Value.ownBlock (.slice (some ⟨g,0,none⟩) n cap))
   exact ⟨_,_,hr,hgr.1,hgr.2, .inr ⟨rfl,by simp⟩⟩
theorem Bu (hH:aw E w H) {o':Nat} {e:TypeId} {t:Ty} {l:List t.T} (hg:H.get o' = some (.row e t l)) {v:Value} (hx:af E w v (.row o' t.k)) :
  ∃ xs,w.ownsRow 0 e t.k v l.length xs∧v.ownBlock = E.conc o'∧(∀ i j u,i < l.length→j < t.k→xs[i*t.k+j]? = some u→u.oneCell' = true) ∧
   ∀ i j d u,i < l.length→(els t l i)[j]? = some d→xs[i*t.k+j]? = some u→aG E.ok w u d:=by
 obtain ⟨_,hlen,hob⟩:=hH.at_ _ _ hg
 cases hx with
 | row _ _ a n c hn hl hc hm h0 =>
  have hnl:n = l.length:=hl.trans hlen
  subst hnl
  rcases h0 with ⟨rfl,h0,rfl,h3⟩ | ⟨b,hb,rfl,rfl⟩
  ·rw [h0]
   exact ⟨[],⟨by simp, .inl ⟨rfl,rfl⟩⟩,by simp [Value.ownBlock,h3],fun i j u hi=>by omega,fun i j d u hi=>by omega⟩
  ·obtain ⟨C,h2,h3,h4,h6,h7,h8⟩:=mJ hH hg hb
   have hle:l.length*t.k≤C.size:=by rw [h3];exact Nat.mul_le_mul_right _ h4
   have hget:∀ (q:Nat) (u:Value),(C.toList.take (l.length*t.k))[q]? = some u→C[q]? = some u:=by
    intro q u hq
    rw [List.getElem?_take] at hq
    split at hq
    ·rwa [Array.getElem?_toList] at hq
    ·cases hq
   exact ⟨C.toList.take (l.length*t.k),⟨by simp;omega, .inr ⟨b,_,C,rfl,Nat.zero_le _,h2,h4,hm,h3,rfl⟩⟩,by simp [Value.ownBlock,hb],fun i j u hi hj hu=>h7 i j u hi hj (hget _ _ hu),fun i j d u hi hd hu=>h8 i j d u hi hd (hget _ _ hu)⟩
theorem uh {E':ar} {w':World} {q:Nat} {e:TypeId} {t:Ty} {l:List t.T} {v:Value} {xs:List Value} (hown:w'.ownsRow 0 e t.k v l.length xs) (hc:E'.conc q = v.ownBlock) (hl:E'.len q = l.length)
  (hcap:∀ a m c,v = .slice a m c→E'.cap q = c) (h7:∀ i j u,i < l.length→j < t.k→xs[i*t.k+j]? = some u→u.oneCell' = true)
  (h8:∀ i j d u,i < l.length→(els t l i)[j]? = some d→xs[i*t.k+j]? = some u→aG E'.ok w' u d) :
  gJ E' w' q (.row e t l)∧((hq:E'.live q)→af E' w' v (.row q t.k)):=by
 rcases hown.2 with ⟨rfl,h0⟩ | ⟨g,cap,cur,rfl,_,hg,hnc,hcm,hcs,htake⟩
 ·refine ⟨⟨hl, .inl ⟨by simpa [Value.ownBlock] using hc,h0⟩⟩,fun hq=>?_⟩
  exact .row q t.k none 0 0 hq (by omega) (Nat.le_refl _) (by simp [maxLen]) (.inl ⟨rfl,rfl,rfl,by simpa [Value.ownBlock] using hc⟩)
 ·have hcq:E'.conc q = some g:=by simpa [Value.ownBlock] using hc
  have hca:E'.cap q = cap:=hcap _ _ _ rfl
  have hget:∀ i j u,i < l.length→j < t.k→cur[i*t.k+j]? = some u→xs[i*t.k+j]? = some u:=by
   intro i j u hi hj hu
   have hlt:i*t.k+j < l.length*t.k:=by
    have:(i+1)*t.k≤l.length*t.k:=Nat.mul_le_mul_right _ hi
    rw [Nat.add_mul,Nat.one_mul] at this
    omega
   rw [← htake,List.getElem?_take,if_pos hlt,Array.getElem?_toList]
   exact hu
  refine ⟨⟨hl, .inr ⟨g,cur,hcq,hg,by rw [hca];exact hcs,by rw [hca];exact hnc,by rw [hca];exact hcm,fun i hi=>dB t l i,fun i j u hi hj hu=>h7 i j u hi hj (hget i j u hi hj hu),fun i j d u hi hd hu=>?_⟩⟩,fun hq=>?_⟩
  ·have hj:j < t.k:=by rw [← dB t l i];exact (List.getElem?_eq_some_iff.1 hd).1
   exact h8 i j d u hi hd (hget i j u hi hj hu)
  ·exact .row q t.k _ l.length cap hq hl.symm hnc hcm (.inr ⟨g,hcq,rfl,hca.symm⟩)
def nk:Value→Nat
 | .slice _ _ c=>c
 | _=>0
theorem Ca {e:TypeId} {z:List D} (h:nu P e = some z):∃ (i:TypeInfo) (v:Value),P.info? e = some i∧i.zero = some v∧v.cells.size = z.length∧(∀ (j:Nat) (d:D),z[j]? = some d→(V.ofValue v).cells[j]? = some (.c d))∧(∀ vs,v≠.tuple vs):=by
 unfold nu at h
 split at h
 ·next zv hz =>
  obtain ⟨i,v,hi,hz',rfl,hnt⟩:=jx hz
  obtain ⟨h1,h2⟩:=mV h
  refine ⟨i,v,hi,hz', ?_,h2,hnt⟩
  have:=(cm (E:=⟨fun _=>none,fun _=>0,fun _=>0,fun _=>False,fun _=>False⟩) (w:=default) v hnt).1
  rw [h1, ← this];simp
 ·cases h
theorem Bl {e:TypeId} {i:TypeInfo} (hi:P.info? e = some i) (h:0 < sz P e):i.size = sz P e:=by
 obtain ⟨d,hd⟩:=IS (P:=P) (t:=e) (by omega)
 exact (Hy hd hi).symm
theorem yG {e:TypeId} {i:TypeInfo} (hi:P.info? e = some i):i.bytes = oC P e:=by simp [oC,hi]
theorem dY (q':Nat):∀ (H:ab) (q:Nat),ab.get (dt [q'] H) q = kz q' (ab.get H q)
 | [],q=>by simp [dt,ab.get,kz]
 | (p,b) :: H,q=>by
  have ih:=dY q' H q
  simp only [dt,List.map_cons] at ih ⊢
  rw [ab.get_cons,ab.get_cons]
  split
  ·rfl
  ·exact ih
theorem xk {q:Nat} {b:Option Ob} {x:Ob} (h:kz q b = some x):∃ y,b = some y∧kz q (some y) = some x:=by
 cases b with
 | none=>simp [kz] at h
 | some y=>exact ⟨y,rfl,h⟩
theorem GJ (hH:aw E w H) (hf:¬ E.live nid) {c:Call} (ho:o.op = .call c) (hcal:c.callee = .builtin .append) {s x:Operand} (hargs:c.args = #[s,x]) {t:TypeId} (hat:c.argTypes = #[t,t])
  {vs vx:V} (hs:af E w (ρ s) vs) (hx:af E w (ρ x) vx) (h:lu P H nid t vs vx = some r) (hp:∀ p∈r.pre,p) :
  ∃ E' w' v',(execOp ρ o).run P w = .ok (.value v') w'∧bU E w H nid r E' w' v':=by
 have key:∀ v' w',(Builtin.append_ #[t,t] o.type #[ρ s,ρ x]).run P w = .ok v' w'→(execOp ρ o).run P w = .ok (.value v') w':=by
  intro v' w' hr
  simp [execOp,ho,resolve,hcal,hargs,hat,invoke,builtin,hr]
 unfold lu at h
 split at h
 ·next e hu =>
  have zok:G4 P e = true→∃ (i:TypeInfo) (v:Value),P.info? e = some i∧i.zero = some v∧v.cells.size = sz P e:=by
   intro hz
   unfold G4 at hz
   split at hz
   ·next z hzz =>
    obtain ⟨i,v,h1,h2,h3,_⟩:=Ca hzz
    exact ⟨i,v,h1,h2,h3.trans (Nat.eq_of_beq_eq_true hz)⟩
   ·cases hz
  split at h
  ·split at h
   ·next ty hty =>
    have htk:=Dx hty
    split at h
    ·next l2 hsl =>
     cases hs1:(Nat.blt 0 ty.k&&eU P e&&G4 P e) with
     | false=>simp [hs1] at h
     | true =>
      simp only [hs1,cond_true] at h
      simp only [Bool.and_eq_true,Nat.blt_eq] at hs1
      obtain ⟨⟨hk0,hkn⟩,hzk⟩:=hs1
      rw [htk] at hk0
      obtain ⟨i,zv,hi,hz',hzs⟩:=zok hzk
      obtain ⟨news,hsrc⟩:=l6 hH hx hsl
      obtain ⟨a2,c2,hxv,hc2,hm2,hcell2⟩:=hsrc.form
      have hnl:news.length = l2.length*sz P e:=by rw [hsrc.len,htk]
      cases h
      have p1:l2.length*oC P e≤140737488355328:=hp _ (by simp)
      have p2:l2.length≤140737488355328:=hp _ (by simp)
      have hsv:=hs.nil_inv
      obtain ⟨v',w',hr,hown,hgr,hpl⟩:=uF (P:=P) (w:=w) t o.type e i zv (sz P e) (oC P e) hu hi hz' (Bl hi hk0) (yG hi) hzs hk0 (.slice none 0 0) 0 []
       (World.ownsRow_nil w 0 e _) a2 l2.length c2 news hnl hcell2 hsrc.one (by unfold maxLen;omega) (by rw [Nat.zero_add];omega)
      have hb:Below w.heap.size w w':=⟨hgr.os,hgr.tape,hgr.output,hgr.size,fun k hk=>hgr.block k hk (by simp [Value.ownBlock])⟩
      simp only [Nat.zero_add,List.nil_append] at hown
      rw [← htk] at hown
      have hpl':∀ b,v'.ownBlock = some b→w.heap.size≤b∧b < w'.heap.size∧¬ E.ok b:=by
       intro b hb'
       rcases hpl with h | ⟨h,h2⟩
       ·rw [h] at hb'; simp [Value.ownBlock] at hb'
       ·rw [h] at hb'; cases hb'
        exact ⟨Nat.le_refl _,h2,fun hk=>by have:=hH.oklt _ hk;omega⟩
      have hS:cQ E w [] (E.next nid v'.ownBlock (nk v') l2.length E.ok) w':=ck hf _ _ _ E.ok hb (fun b h=>(hpl' b h).1) (fun _ h=>h) (fun _ h=>.inl h)
      have hN:=cB (cap:=nk v') (len:=l2.length) hf hH hb hpl' (fun _ h=>h) (fun _ h=>.inl h) (fun b h=>by have:=hH.oklt b h;have:=hb.size;omega)
      have hob:=uh (E':=E.next nid v'.ownBlock (nk v') l2.length E.ok) (q:=nid) hown (by simp [ar.next]) (by simp [ar.next]) (by intro a m c e;simp [ar.next,e,nk])
       (fun i j u hi hj hu=>hsrc.one u (List.mem_of_getElem? hu)) (fun i j d u hi hd hu=>lA hH hS (hsrc.rep i j d u hi hd hu))
      exact ⟨_,w',v',key v' w' (by rw [hsv,hxv];exact hr),hS,ic hN (.inl rfl) hob.1,hob.2 (.inl rfl),bA⟩
    ·cases h
   ·cases h
  ·next o' k =>
   split at h
   ·next e' ty l hg =>
    split at h
    ·next l2 hsl =>
     cases hs2:(Nat.beq e' e&&Nat.beq ty.k k&&Nat.beq k (sz P e)&&Nat.blt 0 k&&G4 P e) with
     | false=>simp [hs2] at h
     | true =>
      simp only [hs2,cond_true] at h
      simp only [Bool.and_eq_true,Nat.beq_eq,Nat.blt_eq] at hs2
      obtain ⟨⟨⟨⟨rfl,rfl⟩,hksz⟩,hk0⟩,hzk⟩:=hs2
      obtain ⟨i,zv,hi,hz',hzs⟩:=zok hzk
      obtain ⟨news,hsrc⟩:=l6 hH hx hsl
      obtain ⟨a2,c2,hxv,hc2,hm2,hcell2⟩:=hsrc.form
      have hnl:news.length = l2.length*ty.k:=hsrc.len
      cases h
      have p2:(l.length+l2.length)*oC P e'≤140737488355328:=hp _ (by simp)
      have p3:l.length+l2.length≤140737488355328:=hp _ (by simp)
      obtain ⟨xs,hown0,hbl,h7,h8⟩:=Bu hH hg hs
      have hnq:=(hH.at_ _ _ hg).1
      obtain ⟨v',w',hr,hown,hgr,hpl⟩:=uF (P:=P) (w:=w) t o.type e' i zv ty.k (oC P e') hu hi hz' (by rw [hksz];exact Bl hi (by omega)) (yG hi) (by rw [hksz];exact hzs) hk0 (ρ s) l.length xs
       hown0 a2 l2.length c2 news hnl hcell2 hsrc.one (by unfold maxLen;omega) (by omega)
      have hblk:∀ b,b < w.heap.size→E.conc o'≠some b→w'.heap[b]? = w.heap[b]?:=fun b hb hne=>hgr.block b hb (by rw [hbl];exact fun e=>hne e.symm)
      let E':ar:=⟨fun q=>if q = o' then v'.ownBlock else E.conc q,fun q=>if q = o' then nk v' else E.cap q,fun q=>if q = o' then l.length+l2.length else E.len q,E.live,E.ok⟩
      have hc0:∀ q,E.live q→q≠o'→E'.conc q = E.conc q∧E'.cap q = E.cap q∧E'.len q = E.len q:=by
       intro q hq hne
       simp [E',hne]
      have hcase:∀ q b,E.live q→E'.conc q = some b→(E.live q∧q≠o'∧E.conc q = some b)∨(q = o'∧v'.ownBlock = some b):=by
       intro q b hq h
       by_cases e1:q = o'
       ·subst e1;simp [E'] at h;exact .inr ⟨rfl,h⟩
       ·exact .inl ⟨hq,e1,by rw [(hc0 q hq e1).1] at h;exact h⟩
      have hvb:∀ b,v'.ownBlock = some b→(E.conc o' = some b∨w.heap.size≤b)∧b < w'.heap.size∧¬ E.ok b:=by
       intro b hb
       rcases hpl with h | ⟨h,h2⟩
       ·rw [h,hbl] at hb
        exact ⟨.inl hb,by have:=hH.lt _ _ hnq hb;have:=hgr.size;omega,hH.sep _ _ hnq hb⟩
       ·rw [h] at hb;cases hb
        exact ⟨.inr (Nat.le_refl _),h2,fun hk=>by have:=hH.oklt _ hk;omega⟩
      have hS:cQ E w [o'] E' w':=by
       refine ⟨hgr.os,hgr.tape,hgr.output,hgr.size,fun _ h=>h,fun b hb hno=>hblk b hb (hno o' hnq),fun _ h=>h,fun _ h=>.inl h,fun q hq hne=>hc0 q hq (by simpa using hne),fun q b hq h=>?_⟩
       rcases hcase q b hq h with ⟨a1,_,a2⟩ | ⟨rfl,a2⟩
       ·exact .inl ⟨_,a1,a2⟩
       ·rcases (hvb b a2).1 with h | h
        ·exact .inl ⟨_,hnq,h⟩
        ·exact .inr h
      have hrd:∀ v d,aG E.ok w v d→aG E'.ok w' v d:=fun v d h=>h.mono (fun _ h=>h) fun b hb=>hblk b (hH.oklt b hb) fun hc=>hH.sep _ _ hnq hc hb
      rw [show l.length+l2.length = (l++l2).length by simp] at hown
      have hob:=uh (E':=E') (q:=o') hown (by simp [E']) (by simp [E']) (by intro a m c e;simp [E',e,nk])
       (fun i j u hi hj hu=>by
        rw [List.getElem?_append] at hu
        split at hu
        ·next hlt =>
         have:i < l.length:=by
          rw [hown0.1] at hlt
          rcases Nat.lt_or_ge i l.length with h | h
          ·exact h
          ·have:=Nat.mul_le_mul_right ty.k h;omega
         exact h7 i j u this hj hu
        ·exact hsrc.one u (List.mem_of_getElem? hu))
       (fun i j d u hi hd hu=>by
        refine hrd _ _ ?_
        rw [List.length_append] at hi
        rw [List.getElem?_append] at hu
        rw [AO] at hd
        by_cases hin:i < l.length
        ·rw [if_pos hin] at hd
         have hj:j < ty.k:=by rw [← dB ty l i];exact (List.getElem?_eq_some_iff.1 hd).1
         have:i*ty.k+j < xs.length:=by
          rw [hown0.1]
          have:(i+1)*ty.k≤l.length*ty.k:=Nat.mul_le_mul_right _ hin
          rw [Nat.add_mul,Nat.one_mul] at this
          omega
         rw [if_pos this] at hu
         exact h8 i j d u hin hd hu
        ·rw [if_neg hin] at hd
         have:l.length*ty.k≤i*ty.k:=Nat.mul_le_mul_right _ (by omega)
         rw [if_neg (by rw [hown0.1];omega),hown0.1] at hu
         refine hsrc.rep (i - l.length) j d u (by omega) hd ?_
         rw [Nat.sub_mul,show i*ty.k - l.length*ty.k+j = i*ty.k+j - l.length*ty.k by omega]
         exact hu)
      have hrv:∀ v d,af E w v d→af E' w' v (d.kill o'):=fun v d h=>h.step hS hH.sep hH.oklt
      refine ⟨E',w',v',key v' w' (by rw [hxv];exact hr),hS, ?_,hob.2 hnq,fun _ h=>.inl h⟩
      refine ⟨fun q x hq=>?_,fun q q' b hq hq' h h'=>?_,fun q b hq h=>?_,fun q b hq h=>?_,fun b h=>by have:=hH.oklt b h;have:=hgr.size;omega⟩
      ·rw [List.cons_append,List.nil_append,ab.get_cons] at hq
       split at hq
       ·next e1=>subst e1;cases hq;exact ⟨hnq,hob.1⟩
       ·next hne =>
        rw [dY] at hq
        obtain ⟨y,hy,hky⟩:=xk hq
        obtain ⟨h1,h2⟩:=hH.at_ q y hy
        have hqb:∀ b,E.conc q = some b→w'.heap[b]? = w.heap[b]?:=fun b hb=>hblk b (hH.lt q b h1 hb) fun hc=>hne (hH.inj _ _ _ hnq h1 hc hb)
        refine ⟨h1, ?_⟩
        obtain ⟨c1,c2,c3⟩:=hc0 q h1 (fun e=>hne e.symm)
        cases y with
        | box cs =>
         cases hky
         obtain ⟨hl,b,C,te,g1,g2,g3⟩:=h2
         refine ⟨c3.trans hl,b,C,te,c1.trans g1,(hqb b g1).trans g2,by rw [gZ];exact g3.1,fun i v d hv hd=>?_⟩
         rw [lz] at hd
         cases hx':cs[i]? with
         | none=>rw [hx'] at hd;cases hd
         | some y=>rw [hx'] at hd;cases hd;exact hrv _ _ (g3.2 i v y hv hx')
        | raw x =>
         cases hky
         obtain ⟨hl,b,g1,g2⟩:=h2
         exact ⟨c3.trans hl,b,c1.trans g1,(hqb b g1).trans g2⟩
        | map t kt vt ks vs =>
         cases hky
         exact nv.mp h2 c1 c3 hqb hrd
        | iter m s0 l0 =>
         cases hky
         obtain ⟨hl,b,bm,s,seen,c,g1,g2,g3,g4⟩:=h2
         exact ⟨c3.trans hl,b,bm,s,seen,c,c1.trans g1,(hqb b g1).trans g2,g3,hrv _ _ g4⟩
        | row te tt ll =>
         cases hky
         obtain ⟨hl,hh⟩:=h2
         refine ⟨c3.trans hl, ?_⟩
         rcases hh with ⟨g1,g2⟩ | ⟨b,C,g1,g2,g3,g4,g5,g6,g7,g8⟩
         ·exact .inl ⟨c1.trans g1,g2⟩
         ·exact .inr ⟨b,C,c1.trans g1,(hqb b g1).trans g2,by rw [c2];exact g3,by rw [c2];exact g4,by rw [c2];exact g5,g6,g7,fun i j d u a b c=>hrd _ _ (g8 i j d u a b c)⟩
      ·rcases hcase q b hq h with ⟨a1,a3,a2⟩ | ⟨rfl,a2⟩ <;> rcases hcase q' b hq' h' with ⟨b1,b3,b2⟩ | ⟨rfl,b2⟩
       ·exact hH.inj q q' b a1 b1 a2 b2
       ·rcases (hvb b b2).1 with h | h
        ·exact hH.inj _ _ _ a1 hnq a2 h
        ·have:=hH.lt q b a1 a2;omega
       ·rcases (hvb b a2).1 with h | h
        ·exact hH.inj _ _ _ hnq b1 h b2
        ·have:=hH.lt q' b b1 b2;omega
       ·rfl
      ·rcases hcase q b hq h with ⟨a1,_,a2⟩ | ⟨rfl,a2⟩
       ·exact hH.sep q b a1 a2
       ·exact (hvb b a2).2.2
      ·rcases hcase q b hq h with ⟨a1,_,a2⟩ | ⟨rfl,a2⟩
       ·have:=hH.lt q b a1 a2;have:=hgr.size;omega
       ·exact (hvb b a2).2.1
    ·cases h
   ·cases h
  ·cases h
 ·cases h
end
end Go.Ax
namespace Go.Ax
open Go.RowKit
section
variable {P:Program} {ρ:Operand→Value} {E:ar} {w w':World} {o:Oper} {r:aB} {H:ab} {nid:Nat}
theorem Cq {C:Array Value} {z:List V} {k n:Nat} (hz:aI E w C.toList z) (hk:C.size = k) (hk0:0 < k) :
  aI E w ((Array.range (n*k)).map fun q=>C[q % C.size]!).toList (qZ z k n):=by
 refine ⟨by simp [qZ],fun i v d hv hd=>?_⟩
 unfold qZ at hd
 rw [List.getElem?_map] at hd
 rw [Array.toList_map,List.getElem?_map,Array.toList_range] at hv
 cases hr:(List.range (n*k))[i]? with
 | none=>rw [hr] at hd;cases hd
 | some q =>
  rw [hr] at hd hv
  cases hd;cases hv
  have hlt:q % k < C.size:=by rw [hk];exact Nat.mod_lt _ hk0
  have hlt':q % k < z.length:=by rw [← hz.1];simpa using hlt
  have:=hz.2 (q % k) _ _ (List.getElem?_eq_getElem (by simpa using hlt)) (List.getElem?_eq_getElem hlt')
  show af E w (C[q % C.size]!) (z.getD (q % k) (V.c D.unk))
  rw [List.getD_eq_getElem?_getD,List.getElem?_eq_getElem hlt']
  simp only [hk]
  rw [getElem!_pos C _ hlt]
  simpa using this
theorem qI:∀ {cs:List V} {ds:List D},cs.mapM V.toD = some ds→cs.all V.isCell = true
 | [],ds,_=>rfl
 | v :: cs,ds,h=>by
  rw [List.mapM_cons] at h
  simp only [Option.bind_eq_bind,Option.pure_def,Option.bind_eq_some_iff,Option.some.injEq] at h
  obtain ⟨d,hd,ds',hds,rfl⟩:=h
  rw [List.all_cons,qI hds,Bool.and_true]
  cases v with
  | c d' =>
   cases d' with
   | unk=>simp [V.toD] at hd
   | nil=>rfl
   | lit u=>cases u <;> first | rfl | simp [V.toD] at hd
   | opt b us=>simp [V.toD] at hd
   | any=>rfl
   | sl=>rfl
  | _=>simp [V.toD] at hd
theorem D7 {vs:List Value} {ds:List V} (h:aI E w vs ds) (hc:ds.all V.isCell = true):∀ u∈vs,u.oneCell' = true:=by
 intro u hu
 obtain ⟨i,hi⟩:=List.getElem?_of_mem hu
 have hlt:i < ds.length:=by rw [← h.1];exact (List.getElem?_eq_some_iff.1 hi).1
 exact pd (h.2 i u _ hi (List.getElem?_eq_getElem hlt)) (List.all_eq_true.1 hc _ (List.getElem_mem hlt))
theorem Fq (hH:aw E w H) (hf:¬ E.live nid) {e:TypeId} {C:Array Value} {t:Ty} {l:List t.T} {cap:Nat} (hr:r.val = .row nid t.k∧r.eff = [(nid,some (.row e t l))]∧r.kill = [])
  (hC:C.size = cap*t.k) (hn:l.length≤cap) (hm:cap≤maxLen) (h7:∀ u∈C.toList,u.oneCell' = true)
  (h8:∀ i j d u,i < l.length→(els t l i)[j]? = some d→C[i*t.k+j]? = some u→aG E.ok w u d) :
  ∃ E',bU E w H nid r E' (w.alloc (.cells C e)) (.slice (some ⟨w.heap.size,0,none⟩) l.length cap):=by
 refine ⟨_,yq (ob:=.row e t l) hH hf e C cap l.length hr.2.1 hr.2.2 (fun E' w' hok hco hca hle hh hrr hd=>⟨hle, .inr ⟨_,C,hco,hh,by rw [hca,hC],by omega,by omega,fun i hi=>dB t l i,fun i j u hi hj hu=>?_,fun i j d u hi hd' hu=>hd _ _ (h8 i j d u hi hd' hu)⟩⟩) fun E' w' hnx hco hca hle=>?_⟩
 ·rw [← Array.getElem?_toList] at hu
  exact h7 u (List.mem_of_getElem? hu)
 ·rw [hr.1]
  exact .row nid t.k _ l.length cap hnx hle.symm hn hm (.inr ⟨_,hco,rfl,hca.symm⟩)
theorem An (hH:aw E w H) (hf:¬ E.live nid) {t:TypeId} {len:Nat} {parts:Array (Nat × Operand)} (ho:o.op = .buildSlice t len parts) {vs:List V} (hv:aI E w (parts.toList.map fun p=>ρ p.2) vs)
  (h:rO P nid t len ((parts.toList.map (·.1)).zip vs) = some r):∃ E' w' v',(execOp ρ o).run P w = .ok (.value v') w'∧bU E w H nid r E' w' v':=by
 have hlen:(parts.toList.map (·.1)).length = vs.length:=by have:=hv.1;simpa using this
 have e1:(parts.map fun (i,x)=>(i,ρ x)).toList.map (·.1) = ((parts.toList.map (·.1)).zip vs).map (·.1):=by
  rw [List.map_fst_zip (by omega)]
  simp
 have e2:aI E w ((parts.map fun (i,x)=>(i,ρ x)).toList.map (·.2)) (((parts.toList.map (·.1)).zip vs).map (·.2)):=by
  rw [List.map_snd_zip (by omega)]
  have:(parts.map fun (i,x)=>(i,ρ x)).toList.map (·.2) = parts.toList.map fun p=>ρ p.2:=by simp
  rw [this]
  exact hv
 unfold rO at h
 split at h
 ·next e hu =>
  split at h
  ·next z ty hz hty =>
   have htk:=Dx hty
   cases hs:(Nat.beq z.cells.length (sz P e)&&Nat.blt 0 (sz P e)&&Nat.ble (len*sz P e) 16777216&&eU P e) with
   | false=>simp [hs] at h
   | true =>
    simp only [hs,cond_true] at h
    simp only [Bool.and_eq_true,Nat.beq_eq,Nat.blt_eq,Nat.ble_eq] at hs
    obtain ⟨⟨⟨s1,s2⟩,s3⟩,s4⟩:=hs
    obtain ⟨d,hd⟩:=o4 s4
    split at h
    ·next cs hcs =>
     split at h
     ·next ds hds =>
      split at h
      ·next l hl =>
       obtain ⟨i,v,hi,hz',rfl,hnt⟩:=jx hz
       have hzr:=cm (E:=E) (w:=w) v hnt
       have hvs:v.cells.size = sz P e:=by rw [← s1, ← hzr.1];simp
       have hzz:=Cq (n:=len) hzr hvs s2
       obtain ⟨cells',f1,f2⟩:=tY _ _ _ _ _ cs hzz e1 e2 hcs
       have hdl:=(mV hds).1
       obtain ⟨hll,hdk⟩:=A4 htk hl
       have hcl:cells'.size = len*sz P e:=by
        have h2:=f2.1
        rw [← hdl,hdk] at h2
        simpa using h2
       have hlm:len≤len*sz P e:=Nat.le_mul_of_pos_right _ s2
       obtain ⟨E',hp⟩:=Fq (r:=r) (C:=cells') (t:=ty) (l:=l) (cap:=len) (e:=e) hH hf (by cases h;exact ⟨by rw [htk],rfl,rfl⟩) (by rw [htk];exact hcl) (by omega) (by unfold maxLen;omega)
        (D7 f2 (qI hds))
        (fun i j d' u hi hd' hu'=>by
         obtain ⟨_,d0,hd'',hdd⟩:=A5 htk hl (by omega) hd'
         rw [htk] at hu'
         exact (mj hds f2 hd'' (by rw [← Array.getElem?_toList] at hu'; exact hu')).le hdd)
       rw [hll] at hp
       refine ⟨E',_,_, ?_,hp⟩
       simp only [execOp,ho,Sem.run_bind,Instr.buildSlice,run_underlying hu,Result.andThen_ok,br hd]
       rw [if_neg (by omega)]
       have f1':Instr.fill (fun i=>some (i*sz P e,sz P e)) ((Array.range (len*sz P e)).map fun q=>v.cells[q % v.cells.size]!) (parts.map fun x=>(x.fst,ρ x.snd)).toList = some cells':=f1
       by_cases h0:len*sz P e = 0
       ·have hmap:∀ f:Nat→Value,(Array.range (len*sz P e)).map f = #[]:=by
         intro f
         rw [h0,Array.range_zero']
         simp
        rw [hmap] at f1'
        rw [if_pos h0]
        simp only [Sem.run_bind,Sem.run_pure,Result.andThen_ok,hmap,f1',newRow,run_newObj]
        rfl
       ·rw [if_neg h0]
        simp only [Sem.run_bind,Sem.run_pure,Result.andThen_ok,ff hi hz',f1',newRow,run_newObj]
        rfl
      ·cases h
     ·cases h
    ·cases h
  ·cases h
 ·cases h
theorem Br (hH:aw E w H) (hf:¬ E.live nid) {t:TypeId} {l c:Operand} (ho:o.op = .makeSlice t l c) {vl vc:V} (hl:af E w (ρ l) vl) (hc:af E w (ρ c) vc)
  (h:tg P nid t vl vc = some r) (hp:∀ p∈r.pre,p):∃ E' w' v',(execOp ρ o).run P w = .ok (.value v') w'∧bU E w H nid r E' w' v':=by
 unfold tg at h
 split at h
 ·next e a b hu =>
  have el:=hl.lit_inv
  have ec:=hc.lit_inv
  split at h
  ·next z ty hz hty =>
   have htk:=Dx hty
   split at h
   ·next y hy =>
    cases hs:(Nat.beq z.length (sz P e)&&Nat.blt 0 (sz P e)&&Nat.blt 0 (oC P e)&&eU P e) with
    | false=>simp [hs] at h
    | true =>
     simp only [hs,cond_true] at h
     simp only [Bool.and_eq_true,Nat.beq_eq,Nat.blt_eq] at hs
     obtain ⟨⟨⟨s1,s2⟩,s3⟩,s4⟩:=hs
     have hpre:r.pre = [0≤a,a≤b,b*oC P e≤140737488355328]:=by cases h;rfl
     have p1:0≤a:=hp _ (by rw [hpre];simp)
     have p2:a≤b:=hp _ (by rw [hpre];simp)
     have p3:b*oC P e≤140737488355328:=hp _ (by rw [hpre];simp)
     have hyl:=kA ty _ _ hy
     unfold nu at hz
     split at hz
     ·next zv hzv =>
      obtain ⟨i,v,hi,hz',rfl,hnt⟩:=jx hzv
      have hzr:=cm (E:=E) (w:=w) v hnt
      obtain ⟨hzl,hzg⟩:=mV hz
      have hvsz:v.cells.size = sz P e:=by rw [← s1,hzl, ← hzr.1];simp
      have hzz:=Cq (n:=b.toNat) hzr hvsz s2
      have hmk:(madeCells v.cells (b.toNat*sz P e)).toList = ((Array.range (b.toNat*sz P e)).map fun q=>v.cells[q % v.cells.size]!).toList:=rfl
      rw [← hmk] at hzz
      have hb3:(b.toNat:Int) = b:=Int.toNat_of_nonneg (by omega)
      have hbb:b.toNat≤b.toNat*oC P e:=Nat.le_mul_of_pos_right _ s3
      have hbb':b.toNat*oC P e≤140737488355328:=by
       have:((b.toNat*oC P e:Nat):Int)≤140737488355328:=by rw [Int.natCast_mul,hb3];exact p3
       omega
      have hcellz:(qZ (V.ofValue v).cells (sz P e) b.toNat).all V.isCell = true:=by
       rw [List.all_eq_true]
       intro x hx
       unfold qZ at hx
       obtain ⟨q,hq,rfl⟩:=List.mem_map.1 hx
       have hlt:q % sz P e < (V.ofValue v).cells.length:=by rw [← hzl,s1];exact Nat.mod_lt _ s2
       rw [List.getD_eq_getElem?_getD,List.getElem?_eq_getElem hlt]
       exact List.all_eq_true.1 (qI hz) _ (List.getElem_mem hlt)
      obtain ⟨E',hpost⟩:=Fq (r:=r) (e:=e) (C:=madeCells v.cells (b.toNat*sz P e)) (t:=ty) (l:=List.replicate a.toNat y) (cap:=b.toNat) hH hf (by cases h;exact ⟨by rw [htk],rfl,rfl⟩) (by rw [htk];exact size_madeCells _ _) (by simp;omega) (by unfold maxLen;omega)
       (D7 hzz hcellz)
       (fun i' j d' u hi' hd' hu'=>by
        rw [List.length_replicate] at hi'
        rw [Bg hi'] at hd'
        rw [htk] at hu'
        have hj:j < sz P e:=by rw [← htk, ← kc ty y];exact (List.getElem?_eq_some_iff.1 hd').1
        obtain ⟨d0,hd0,hdd⟩:=hyl.at hd'
        have hlt:i'*sz P e+j < b.toNat*sz P e:=by
         have:(i'+1)*sz P e≤b.toNat*sz P e:=Nat.mul_le_mul_right _ (by omega)
         rw [Nat.add_mul,Nat.one_mul] at this
         omega
        have hg:(qZ (V.ofValue v).cells (sz P e) b.toNat)[i'*sz P e+j]? = some (.c d0):=by
         unfold qZ
         rw [List.getElem?_map,List.getElem?_eq_getElem (by simpa using hlt)]
         simp only [List.getElem_range,Option.map_some,Option.some.injEq]
         rw [(sY (i:=i') hj).2,List.getD_eq_getElem?_getD,hzg j d0 hd0]
         rfl
        have h2:=hzz.2 _ u _ (by rw [Array.getElem?_toList];exact hu') hg
        cases h2 with | c _ _ h=>exact h.le hdd)
      rw [List.length_replicate] at hpost
      refine ⟨E',_,_, ?_,hpost⟩
      have hr:=run_make (P:=P) w t e i v hu hi hz' .i64 .i64 a b p1 p2 (by rw [yG hi,Int.mul_comm];omega) (by omega)
      rw [Bl hi s2] at hr
      simp only [execOp,ho,el,ec,Sem.run_bind,hr,Result.andThen_ok]
      rfl
     ·cases hz
   ·cases h
  ·cases h
 ·cases h
end
end Go.Ax
