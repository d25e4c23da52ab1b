import Derived.Test.YtbjfcadcipfolaaGreatZB18
set_option linter.all false
/- A map of slices that grow: what it is, and one round. -/
namespace Go.Ax
open Go.RowKit Go.MapKept Go.ChangeMaps
section
variable {P:Program} {E E':ar} {w w':World} {s:SK} {vt:Ty} {e kk t ts:TypeId} {mb base k n:Nat} {v:Value} {xs:List Value} {es:Array MapEntry} {ks:List (Ty.st s).T} {vs:List (List vt.T)}
def NU (w:World) (base:Nat) (e:TypeId) (vt:Ty) (v:Value) (l:List vt.T):Prop:=w.ownsRow base e vt.k v l.length (l.flatMap vt.lits)
theorem DH (h:w.ownsRow base e k v n xs) (hb:∀ g,v.ownBlock = some g→w'.heap[g]? = w.heap[g]?):w'.ownsRow base e k v n xs:=by
 refine ⟨h.1, ?_⟩
 rcases h.2 with h0 | ⟨g,cap,cur,rfl,h1,h2,h3⟩
 ·exact .inl h0
 ·exact .inr ⟨g,cap,cur,rfl,h1,(hb g rfl).trans h2,h3⟩
theorem H5 (h:w.ownsRow base e k v n xs) {g:Nat} (hg:v.ownBlock = some g):base≤g∧g < w.heap.size:=by
 rcases h.2 with ⟨rfl,_⟩ | ⟨g',cap,cur,rfl,h1,h2,h3⟩
 ·cases hg
 ·cases hg;exact ⟨h1,dP h2⟩
structure FF (E:ar) (w:World) (base mb:Nat) (e:TypeId) (s:SK) (vt:Ty) (es:Array MapEntry) (ks:List (Ty.st s).T) (vs:List (List vt.T)):Prop where
  lo:mb < base
  map:w.heap[mb]? = some (.map es es.size)
  st:Stamped es es.size
  born:∀ (i:Nat) (x:MapEntry),es[i]? = some x→x.born = i
  sz:es.size = ks.length
  len:ks.length = vs.length
  ent:∀ (i:Nat) (x:MapEntry),es[i]? = some x→x.key = d6 (.st s) (gD ks i (zS s))∧NU w base e vt x.val (gD vs i [])
  apart:∀ (i j:Nat) (x y:MapEntry),i≠j→es[i]? = some x→es[j]? = some y→x.val.ownBlock = none∨x.val.ownBlock≠y.val.ownBlock
  free:∀ b,(b = mb∨∃ (i:Nat) (x:MapEntry),es[i]? = some x∧x.val.ownBlock = some b)→¬ E.ok b∧∀ q,E.live q→E.conc q≠some b
theorem FF.lt (h:FF E w base mb e s vt es ks vs) {b:Nat} (hb:b = mb∨∃ (i:Nat) (x:MapEntry),es[i]? = some x∧x.val.ownBlock = some b):b < w.heap.size:=by
 rcases hb with rfl | ⟨i,x,hx,hb⟩
 ·exact dP h.map
 ·exact (H5 (h.ent i x hx).2 hb).2
theorem FF.fr (h:FF E w base mb e s vt es ks vs) (hf:Fr E w E' w'):FF E' w' base mb e s vt es ks vs:=by
 have key:∀ b,(b = mb∨∃ (i:Nat) (x:MapEntry),es[i]? = some x∧x.val.ownBlock = some b)→w'.heap[b]? = w.heap[b]?∧¬ E'.ok b∧∀ q,E'.live q→E'.conc q≠some b:=fun b hb=>by
  obtain ⟨h1,h2⟩:=h.free b hb
  exact hf.keep b (h.lt hb) h1 h2
 exact ⟨h.lo,(key mb (.inl rfl)).1.trans h.map,h.st,h.born,h.sz,h.len,fun i x hx=>⟨(h.ent i x hx).1,DH (h.ent i x hx).2 fun g hg=>(key g (.inr ⟨i,x,hx,hg⟩)).1⟩,h.apart,fun b hb=>(key b hb).2⟩
theorem FF.keys (h:FF E w base mb e s vt es ks vs):es.toList.map (·.key) = ks.map (d6 (.st s)):=by
 apply List.ext_getElem?
 intro i
 rw [List.getElem?_map,List.getElem?_map]
 have hsz:=h.sz
 cases he:es.toList[i]? with
 | none =>
  have:es.size≤i:=by rw [← Array.length_toList];exact List.getElem?_eq_none_iff.1 he
  rw [List.getElem?_eq_none (by omega)];rfl
 | some x =>
  have hx:es[i]? = some x:=by rw [← Array.getElem?_toList];exact he
  have hi:i < ks.length:=by rw [← hsz];exact (Array.getElem?_eq_some_iff.1 hx).1
  rw [Option.map_some,(h.ent i x hx).1,List.getElem?_eq_getElem hi,gD,List.getD_eq_getElem?_getD,List.getElem?_eq_getElem hi]
  rfl
end
end Go.Ax
