import Derived.Test.YtgamnldjlncdlaaGreatZA4
import Derived.Lib.Overlaps
import Derived.Lib.AppendZerosOnto
import Derived.Shelf.RegionOpenPlain
import Derived.Laws.Externs
set_option linter.all false
/- slices.Insert at elements of any size: what its run leaves, and its contract. -/
namespace Go.Ax
open Go.RowKit
def lq {α:Type} (l xs:List α) (o:Nat):List α:=l.take o++xs++l.drop (o+xs.length)
theorem qz {P:Program} (w:World) (dT sT ty e:TypeId) (i:TypeInfo) (ht:P.underlying dT = some (.slice e)) (hi:P.info? e = some i) (g o dLen dCap:Nat) (a:Addr) (sLen sCap:Nat) (cs:List Value) (C:Array Value) (te:TypeId)
    (hg:w.heap[g]? = some (.cells C te (0,0))) (hl:cs.length = Nat.min sLen dLen*i.size) (hsrc:∀ j v,cs[j]? = some v→w.cell? (a.add j) = some v) (hfit:o+cs.length≤C.size) (h1:∀ v∈cs,v.oneCell' = true) :
    (Builtin.copy_ #[dT,sT] ty #[.slice (some ⟨g,o,none⟩) dLen dCap, .slice (some a) sLen sCap]).run P w = .ok (goInt (Nat.min sLen dLen)) (w.setRow g (lq C.toList cs o).toArray):=by
  have hld:=run_loadCells_list (P:=P) w a cs hsrc
  have hst:=run_storeCells_at P g o te cs 0 C w hg (by simpa using hfit) h1
  rw [Nat.add_zero] at hst
  simp [Builtin.copy_,run_underlying ht,Builtin.lenOf,Builtin.firstCells,sizeOf,typeInfo,hi, ← hl,hld,hst,lq]
structure S0 (w:World) (e k:Nat) (v:Value) (n m i:Nat) (xs news:List Value) (v':Value) (w':World):Prop where
  own:w'.ownsRow 0 e k v' (n+m) (xs.take (i*k)++news++xs.drop (i*k))
  gr:w.grownBy w' v.ownBlock
  at_:v'.ownBlock = v.ownBlock∨(v'.ownBlock = some w.heap.size∧w.heap.size < w'.heap.size)
def aha (P:Program) (f:FuncId) (e k b:Nat):Prop :=
  ∀ (w:World) (v:Value) (n i:Nat) (xs:List Value) (a2:Option Addr) (m c2:Nat) (news:List Value),w.ownsRow 0 e k v n xs→(∀ u∈xs,u.oneCell' = true)→i≤n→m≤c2→c2≤maxLen →
    (0 < m→∃ g2 o2 C2 e2,a2 = some ⟨g2,o2,none⟩∧w.heap[g2]? = some (.cells C2 e2 (0,0))∧v.ownBlock≠some g2∧∀ j u,news[j]? = some u→C2[o2+j]? = some u) →
    news.length = m*k→(∀ u∈news,u.oneCell' = true)→(n+m)*b≤140737488355328→n+m≤140737488355328 →
    wx P f #[v, .int .i64 i, .slice a2 m c2] w fun v' w'=>S0 w e k v n m i xs news v' w'
section
variable {P:Program} {E:br} {w w':World} {r:cM} {H:am} {nid:Nat}
end
end Go.Ax
namespace Go.Ax
open Go.RowKit
structure Rl (P:Program) (f:FuncId) (tS tI fo k:Nat):Prop where
  none_:∀ (w:World) (ad a2:Option Addr) (n c i vc:Nat),i≤n→n≤c→(ad = none→n = 0∧c = 0) →
    Calls P f #[.slice ad n c, .int .i64 i, .slice a2 0 vc] w fun e w'=>e = .returned (.slice ad n c)∧w' = w
  end_:∀ (w:World) (ad a2:Option Addr) (n c m vc:Nat) (v':Value) (w1:World),0 < m→n≤c→(ad = none→n = 0∧c = 0) →
    (∀ ty,(Builtin.append_ #[tS,tS] ty #[.slice ad n c, .slice a2 m vc]).run P w = .ok v' w1) →
    Calls P f #[.slice ad n c, .int .i64 n, .slice a2 m vc] w fun e w'=>e = .returned v'∧w' = w1
  grow:∀ (w:World) (g n c i vb voff m vc N G:Nat) (W1 W2 W3:World),i < n→0 < m→n≤c→c < n+m→n+m≤G→G≤9223372036854775807→n+m≤140737488355328 →
    (∀ ty,(Builtin.append_ #[tS,tI] ty #[.slice (some ⟨g,0,none⟩) i c, .int .i64 ((n:Int)+(m:Int) - (i:Int))]).run P w = .ok (.slice (some ⟨N,0,none⟩) (n+m) G) W1) →
    (∀ ty dc,(Builtin.copy_ #[tS,tS] ty #[.slice (some ⟨N,i*k,none⟩) (n+m - i) dc, .slice (some ⟨vb,voff,none⟩) m vc]).run P W1 = .ok (goInt m) W2) →
    (∀ ty dc sc,(Builtin.copy_ #[tS,tS] ty #[.slice (some ⟨N,(i+m)*k,none⟩) (n+m - (i+m)) dc, .slice (some ⟨g,i*k,none⟩) (n - i) sc]).run P W2.drew = .ok (goInt ((n - i:Nat):Int)) W3) →
    Calls P f #[.slice (some ⟨g,0,none⟩) n c, .int .i64 i, .slice (some ⟨vb,voff,none⟩) m vc] w fun e w'=>e = .returned (.slice (some ⟨N,0,none⟩) (n+m) G)∧w' = W3
  room:∀ (w:World) (g n c i vb voff m vc:Nat) (W1 W2:World),i < n→0 < m→n+m≤c→c≤9223372036854775807→vb≠g →
    (∀ lb cb,(callFunc fo #[.slice (some ⟨vb,voff,none⟩) m vc, .slice (some ⟨g,(i+m)*k,none⟩) lb cb]).run P w = .ok (.value (.bool false)) w) →
    (∀ ty dc sc,(Builtin.copy_ #[tS,tS] ty #[.slice (some ⟨g,(i+m)*k,none⟩) (n+m - (i+m)) dc, .slice (some ⟨g,i*k,none⟩) (n+m - i) sc]).run P w.drew = .ok (goInt ((n - i:Nat):Int)) W1) →
    (∀ ty dc,(Builtin.copy_ #[tS,tS] ty #[.slice (some ⟨g,i*k,none⟩) (n+m - i) dc, .slice (some ⟨vb,voff,none⟩) m vc]).run P W1 = .ok (goInt m) W2) →
    Calls P f #[.slice (some ⟨g,0,none⟩) n c, .int .i64 i, .slice (some ⟨vb,voff,none⟩) m vc] w fun e w'=>e = .returned (.slice (some ⟨g,0,none⟩) (n+m) c)∧w' = W2
theorem G9 {α:Type} {l xs:List α} {o:Nat} (h:o+xs.length≤l.length) (q:Nat):(lq l xs o)[q]? = if o≤q∧q < o+xs.length then xs[q - o]? else l[q]?:=by
  rw [lq,H5 l xs o h,nO]
  by_cases h1:o≤q∧q < o+xs.length
  · rw [if_pos ⟨h1.1,h1.2,by omega⟩,if_pos h1]
  · rw [if_neg (by omega),if_neg h1]
theorem rr {α:Type} {l xs:List α} {o:Nat} (h:o+xs.length≤l.length):(lq l xs o).length = l.length:=by
  rw [lq]; simp; omega
theorem PE {α:Type} (xs news:List α) (a:Nat) (h:a≤xs.length) (q:Nat):(xs.take a++news++xs.drop a)[q]? = if q < a then xs[q]? else if q < a+news.length then news[q - a]? else xs[q - news.length]?:=by
  have h1:(xs.take a).length = a:=by rw [List.length_take]; omega
  rw [List.append_assoc,List.getElem?_append,h1]
  split
  · next hq=>rw [List.getElem?_take,if_pos hq]
  · next hq =>
    rw [List.getElem?_append]
    split
    · next h2=>rw [if_pos (by omega)]
    · next h2=>rw [if_neg (by omega),List.getElem?_drop]; congr 1; omega
theorem Ug {α:Type} {cur xs news:List α} {a b c:Nat} (hx:cur.take c = xs) (hl:xs.length = c) (ha:a≤c) (hb:b = a+news.length) (hc:c+news.length≤cur.length) :
    (lq (lq cur (xs.drop a) b) news a).take (c+news.length) = xs.take a++news++xs.drop a:=by
  have hd:(xs.drop a).length = c - a:=by rw [List.length_drop,hl]
  have f1:b+(xs.drop a).length≤cur.length:=by omega
  apply List.ext_getElem?
  intro q
  rw [PE _ _ _ (by omega),List.getElem?_take]
  have hxq:∀ q,q < c→cur[q]? = xs[q]?:=by
    intro q hq
    rw [← hx,List.getElem?_take,if_pos hq]
  by_cases hq:q < c+news.length
  · rw [if_pos hq,G9 (by rw [rr f1]; omega),G9 f1]
    by_cases c1:q < a
    · rw [if_neg (by omega),if_neg (by omega),if_pos c1,hxq q (by omega)]
    · rw [if_neg c1]
      by_cases c2:q < a+news.length
      · rw [if_pos ⟨by omega,c2⟩,if_pos c2]
      · rw [if_neg (by omega),if_neg c2,if_pos ⟨by omega,by omega⟩,List.getElem?_drop]
        congr 1; omega
  · rw [if_neg hq,if_neg (by omega),if_neg (by omega),List.getElem?_eq_none (by omega)]
theorem Ui {α:Type} {row xs news:List α} {a b c:Nat} (hx:row.take a = xs.take a) (hl:xs.length = c) (ha:a≤c) (hb:b = a+news.length) (hc:c+news.length≤row.length) :
    (lq (lq row news a) (xs.drop a) b).take (c+news.length) = xs.take a++news++xs.drop a:=by
  have hd:(xs.drop a).length = c - a:=by rw [List.length_drop,hl]
  have f1:a+news.length≤row.length:=by omega
  apply List.ext_getElem?
  intro q
  rw [PE _ _ _ (by omega),List.getElem?_take]
  have hxq:∀ q,q < a→row[q]? = xs[q]?:=by
    intro q hq
    have:=congrArg (fun l=>l[q]?) hx
    simpa [List.getElem?_take,hq] using this
  by_cases hq:q < c+news.length
  · rw [if_pos hq,G9 (by rw [rr f1]; omega),G9 f1]
    by_cases c1:q < a
    · rw [if_neg (by omega),if_neg (by omega),if_pos c1,hxq q c1]
    · rw [if_neg c1]
      by_cases c2:q < a+news.length
      · rw [if_neg (by omega),if_pos ⟨by omega,c2⟩,if_pos c2]
      · rw [if_neg c2,if_pos ⟨by omega,by omega⟩,List.getElem?_drop]
        congr 1; omega
  · rw [if_neg hq,if_neg (by omega),if_neg (by omega),List.getElem?_eq_none (by omega)]
theorem Rl.run {P:Program} {f:FuncId} {tS tI fo k e b:Nat} {z:Value} {ti:TypeInfo} (L:Rl P f tS tI fo k) (ht:P.underlying tS = some (.slice e)) (htI:P.underlying tI = some (.int .i64)) (hi:P.info? e = some ti) (hz:ti.zero = some z)
    (hsz:ti.size = k) (hby:ti.bytes = b) (hzs:z.cells.size = k) (hk:0 < k) (hent:∀ args w,(callFunc f args).run P w = .ok (.enter f args) w)
    (hov:∀ (w:World) (vb voff m vc g o lb cb:Nat) (tA tB:TypeId) (CA CB:Array Value),vb≠g→w.heap[vb]? = some (.cells CA tA (0,0))→w.heap[g]? = some (.cells CB tB (0,0))→CB.size≠0 →
      (callFunc fo #[.slice (some ⟨vb,voff,none⟩) m vc, .slice (some ⟨g,o,none⟩) lb cb]).run P w = .ok (.value (.bool false)) w):aha P f e k b:=by
  intro w v n i xs a2 m c2 news hown h1x hin hmc hcm ha2 hnl h1n hb1 hb2
  subst hsz hby
  refine .inl ⟨hent _ _, ?_⟩
  by_cases hm:m = 0
  · subst hm
    have hn0:news = []:=List.eq_nil_of_length_eq_zero (by simpa using hnl)
    subst hn0
    have hI:S0 w e ti.size v n 0 i xs [] v w:=⟨by simpa using hown,⟨rfl,rfl,rfl,Nat.le_refl _,fun _ _ _=>rfl⟩, .inl rfl⟩
    rcases hown.2 with ⟨rfl,rfl⟩ | ⟨g,cap,cur,rfl,_,hg,hnc,hcap,hcs,htk⟩
    · refine (L.none_ w none a2 0 0 i c2 hin (Nat.le_refl _) (fun _=>⟨rfl,rfl⟩)).mono ?_
      rintro _ _ ⟨rfl,rfl⟩
      exact ⟨_,rfl,hI⟩
    · refine (L.none_ w (some ⟨g,0,none⟩) a2 n cap i c2 hin hnc (fun h=>by cases h)).mono ?_
      rintro _ _ ⟨rfl,rfl⟩
      exact ⟨_,rfl,hI⟩
  have hm:0 < m:=by omega
  obtain ⟨g2,o2,C2,e2,rfl,hg2,hvne,hc2⟩:=ha2 hm
  have hcell2:∀ (j:Nat) (u:Value),news[j]? = some u→w.cell? ((⟨g2,o2,none⟩:Addr).add j) = some u:=by
    intro j u hj
    rw [dS,cell_of_row w g2 _ C2 e2 (0,0) hg2]
    exact hc2 j u hj
  by_cases hie:i = n
  · subst hie
    obtain ⟨v',w',hr,hown',hgr,hat⟩:=wv (P:=P) (w:=w) tS 0 e ti z ti.size ti.bytes ht hi hz rfl rfl hzs hk v i xs hown (some ⟨g2,o2,none⟩) m c2 news hnl (fun _=>⟨_,rfl,hcell2⟩) h1n (by unfold maxLen; omega) (by omega)
    have hr':∀ ty,(Builtin.append_ #[tS,tS] ty #[v, .slice (some ⟨g2,o2,none⟩) m c2]).run P w = .ok v' w':=fun ty=>hr
    have hI:S0 w e ti.size v i m i xs news v' w':=by
      refine ⟨?_,hgr,hat⟩
      rw [← hown.1,List.take_length,List.drop_length,List.append_nil]
      exact hown'
    rcases hown.2 with ⟨rfl,rfl⟩ | ⟨g,cap,cur,rfl,_,hg,hnc,hcap,hcs,htk⟩
    · refine (L.end_ w none _ 0 0 m c2 v' w' hm (Nat.le_refl _) (fun _=>⟨rfl,rfl⟩) hr').mono ?_
      rintro _ _ ⟨rfl,rfl⟩
      exact ⟨_,rfl,hI⟩
    · refine (L.end_ w (some ⟨g,0,none⟩) _ i cap m c2 v' w' hm hnc (fun h=>by cases h) hr').mono ?_
      rintro _ _ ⟨rfl,rfl⟩
      exact ⟨_,rfl,hI⟩
  have hlt:i < n:=by omega
  rcases hown.2 with ⟨rfl,rfl⟩ | ⟨g,cap,cur,rfl,_,hg,hnc,hcap,hcs,htk⟩
  · omega
  have hgne:g2≠g:=fun h=>hvne (by rw [h]; rfl)
  have e1:(i+m)*ti.size = i*ti.size+news.length:=by rw [hnl,Nat.add_mul]
  have e2':(n+m)*ti.size = n*ti.size+news.length:=by rw [hnl,Nat.add_mul]
  have e3:i*ti.size≤n*ti.size:=Nat.mul_le_mul_right _ hin
  have e4:n*ti.size≤cap*ti.size:=Nat.mul_le_mul_right _ hnc
  have hdl:(xs.drop (i*ti.size)).length = (n - i)*ti.size:=by rw [List.length_drop,hown.1,Nat.sub_mul]
  have hxc:∀ (q:Nat) (u:Value),xs[q]? = some u→cur[q]? = some u:=by
    intro q u hq
    rw [← htk,List.getElem?_take] at hq
    split at hq
    · rwa [Array.getElem?_toList] at hq
    · cases hq
  have hsrcx:∀ (W:World),W.heap[g]? = w.heap[g]?→∀ j u,(xs.drop (i*ti.size))[j]? = some u→W.cell? ((⟨g,i*ti.size,none⟩:Addr).add j) = some u:=by
    intro W hW j u hj
    rw [dS,cell_of_row W g _ cur e (0,0) (hW.trans hg)]
    rw [List.getElem?_drop] at hj
    exact hxc _ u hj
  have hcl:cur.toList.length = cap*ti.size:=by simpa using hcs
  by_cases hroom:n+m≤cap
  · have e5:n*ti.size+news.length≤cap*ti.size:=by rw [← e2']; exact Nat.mul_le_mul_right _ hroom
    have fit1:(i+m)*ti.size+(xs.drop (i*ti.size)).length≤cur.toList.length:=by rw [hdl,hcl,e1,Nat.sub_mul]; omega
    have hcp1:∀ ty dc sc,(Builtin.copy_ #[tS,tS] ty #[.slice (some ⟨g,(i+m)*ti.size,none⟩) (n+m - (i+m)) dc, .slice (some ⟨g,i*ti.size,none⟩) (n+m - i) sc]).run P w.drew = .ok (goInt ((n - i:Nat):Int)) (w.drew.setRow g (lq cur.toList (xs.drop (i*ti.size)) ((i+m)*ti.size)).toArray):=by
      intro ty dc sc
      have hmin:Nat.min (n+m - i) (n+m - (i+m)) = n - i:=by simp only [Nat.min_def]; split <;> omega
      have:=qz (P:=P) w.drew tS tS ty e ti ht hi g ((i+m)*ti.size) (n+m - (i+m)) dc ⟨g,i*ti.size,none⟩ (n+m - i) sc (xs.drop (i*ti.size)) cur e hg (by rw [hmin,hdl]) (hsrcx w.drew rfl) (by simpa using fit1) (fun u hu=>h1x u (List.mem_of_mem_drop hu))
      rwa [hmin] at this
    have hg1:(w.drew.setRow g (lq cur.toList (xs.drop (i*ti.size)) ((i+m)*ti.size)).toArray).heap[g]? = some (.cells (lq cur.toList (xs.drop (i*ti.size)) ((i+m)*ti.size)).toArray e (0,0)):=setRow_heap w.drew g cur _ e (0,0) hg
    have fit2:i*ti.size+news.length≤(lq cur.toList (xs.drop (i*ti.size)) ((i+m)*ti.size)).length:=by rw [rr fit1,hcl]; omega
    have hcp2:∀ ty dc,(Builtin.copy_ #[tS,tS] ty #[.slice (some ⟨g,i*ti.size,none⟩) (n+m - i) dc, .slice (some ⟨g2,o2,none⟩) m c2]).run P (w.drew.setRow g (lq cur.toList (xs.drop (i*ti.size)) ((i+m)*ti.size)).toArray) =
        .ok (goInt m) ((w.drew.setRow g (lq cur.toList (xs.drop (i*ti.size)) ((i+m)*ti.size)).toArray).setRow g (lq (lq cur.toList (xs.drop (i*ti.size)) ((i+m)*ti.size)) news (i*ti.size)).toArray):=by
      intro ty dc
      have hmin:Nat.min m (n+m - i) = m:=by simp only [Nat.min_def]; split <;> omega
      have:=qz (P:=P) (w.drew.setRow g (lq cur.toList (xs.drop (i*ti.size)) ((i+m)*ti.size)).toArray) tS tS ty e ti ht hi g (i*ti.size) (n+m - i) dc ⟨g2,o2,none⟩ m c2 news _ e hg1 (by rw [hmin,hnl])
        (fun j u hj=>by
          rw [sM (w:=w) (by rw [oA]; exact setRow_other w.drew g g2 _ hgne)]
          exact hcell2 j u hj) (by simpa using fit2) h1n
      rwa [hmin] at this
    refine (L.room w g n cap i g2 o2 m c2 _ _ hlt hm hroom (by unfold maxLen at hcap; omega) hgne (fun lb cb=>hov w g2 o2 m c2 g _ lb cb e2 e C2 cur hgne hg2 hg ?_) hcp1 hcp2).mono ?_
    · rw [hcs]; exact Nat.mul_ne_zero (by omega) (by omega)
    · rintro _ _ ⟨rfl,rfl⟩
      refine ⟨_,rfl,⟨?_, .inr ⟨g,cap,_,rfl,Nat.zero_le _,setRow_heap _ g _ _ e (0,0) hg1,hroom,hcap, ?_, ?_⟩⟩,⟨rfl,rfl,rfl,by simp,fun q hq hne=>?_⟩, .inl rfl⟩
      · simp only [List.length_append,List.length_take,List.length_drop,hown.1,e2']; omega
      · rw [List.size_toArray,rr fit2,rr fit1,hcl]
      · rw [e2']
        exact Ug htk hown.1 e3 e1 (by rw [hcl]; exact e5)
      · have hqg:q≠g:=fun h=>hne (by rw [h]; rfl)
        rw [setRow_other _ g q _ hqg,setRow_other _ g q _ hqg]; rfl
  ·
    have hgrown:=grownCap_ge w (n+m) cap e
    have hgm:=grownCap_le_maxLen w (n+m) cap e (by unfold maxLen; omega)
    obtain ⟨ROW,hROW⟩:∃ ROW:Array Value,ROW = (xs.take (i*ti.size)).toArray++Builtin.zeroCells z.cells (n+m - i)++Builtin.zeroCells z.cells (grownCap w (n+m) cap e - (n+m)):=⟨_,rfl⟩
    have hRs:ROW.size = grownCap w (n+m) cap e*ti.size:=by
      rw [hROW]
      simp only [Array.size_append,List.size_toArray,size_zeroCells,hzs,List.length_take,hown.1]
      rw [Nat.min_eq_left e3, ← Nat.add_mul, ← Nat.add_mul]
      congr 1; omega
    have hRl:ROW.toList.length = grownCap w (n+m) cap e*ti.size:=by simpa using hRs
    have e6:n*ti.size+news.length≤ROW.size:=by rw [hRs, ← e2']; exact Nat.mul_le_mul_right _ hgrown
    have hkk:(n:Int)+(m:Int) - (i:Int) = ((n+m - i:Nat):Int):=by omega
    have hap:∀ ty,(Builtin.append_ #[tS,tI] ty #[.slice (some ⟨g,0,none⟩) i cap, .int .i64 ((n:Int)+(m:Int) - (i:Int))]).run P w = .ok (.slice (some ⟨w.heap.size,0,none⟩) (n+m) (grownCap w (n+m) cap e)) (w.drew.alloc (.cells ROW e)):=by
      intro ty
      have hik:i+(n+m - i) = n+m:=by omega
      have hfit:Builtin.nextslicecap (n+m) cap*ti.bytes≤281474976710656:=growslice_fits (by omega) (by omega)
      have hsm:(n+m - i)*ti.bytes≤(n+m)*ti.bytes:=Nat.mul_le_mul_right _ (by omega)
      have h:=Lib.run_append_grow_zeros w tS tI ty e ti z .i64 .i64 ht htI hi hz (some ⟨g,0,none⟩) i cap (xs.take (i*ti.size))
        (run_firstCells_some w.drew ti.size i ⟨g,0,none⟩ i cap _ (by rw [List.length_take,hown.1]; omega) (fun j u hj=>by
          rw [dS,Nat.zero_add,cell_of_row w.drew g _ cur e (0,0) hg]
          rw [List.getElem?_take] at hj
          split at hj
          · exact hxc _ u hj
          · cases hj)) (n+m - i) (by omega) (by omega) (by omega) (by rw [hik]; omega) (by omega) (by rw [hik]; exact hfit)
      rw [hik] at h
      rw [hkk,hROW]
      exact h
    have hgN:g≠w.heap.size:=by have:=lu hg; omega
    have hg2N:g2≠w.heap.size:=by have:=lu hg2; omega
    have hW1:(w.drew.alloc (.cells ROW e)).heap[w.heap.size]? = some (.cells ROW e (0,0)):=heap_alloc_new w.drew _
    have hold:∀ q,q < w.heap.size→(w.drew.alloc (.cells ROW e)).heap[q]? = w.heap[q]?:=fun q hq=>Below.heap_alloc w.drew _ q hq
    have fit1:i*ti.size+news.length≤ROW.toList.length:=by rw [hRl, ← hRs]; omega
    have hcp1:∀ ty dc,(Builtin.copy_ #[tS,tS] ty #[.slice (some ⟨w.heap.size,i*ti.size,none⟩) (n+m - i) dc, .slice (some ⟨g2,o2,none⟩) m c2]).run P (w.drew.alloc (.cells ROW e)) = .ok (goInt m) ((w.drew.alloc (.cells ROW e)).setRow w.heap.size (lq ROW.toList news (i*ti.size)).toArray):=by
      intro ty dc
      have hmin:Nat.min m (n+m - i) = m:=by simp only [Nat.min_def]; split <;> omega
      have:=qz (P:=P) (w.drew.alloc (.cells ROW e)) tS tS ty e ti ht hi w.heap.size (i*ti.size) (n+m - i) dc ⟨g2,o2,none⟩ m c2 news ROW e hW1 (by rw [hmin,hnl])
        (fun j u hj=>by
          rw [sM (w:=w) (by rw [oA]; exact hold g2 (lu hg2))]
          exact hcell2 j u hj) (by simpa using fit1) h1n
      rwa [hmin] at this
    have hW2:=setRow_heap (w.drew.alloc (.cells ROW e)) w.heap.size ROW (lq ROW.toList news (i*ti.size)).toArray e (0,0) hW1
    have fit2:(i+m)*ti.size+(xs.drop (i*ti.size)).length≤(lq ROW.toList news (i*ti.size)).length:=by rw [rr fit1,hdl,hRl, ← hRs,e1,Nat.sub_mul]; omega
    have hcp2:∀ ty dc sc,(Builtin.copy_ #[tS,tS] ty #[.slice (some ⟨w.heap.size,(i+m)*ti.size,none⟩) (n+m - (i+m)) dc, .slice (some ⟨g,i*ti.size,none⟩) (n - i) sc]).run P ((w.drew.alloc (.cells ROW e)).setRow w.heap.size (lq ROW.toList news (i*ti.size)).toArray).drew =
        .ok (goInt ((n - i:Nat):Int)) (((w.drew.alloc (.cells ROW e)).setRow w.heap.size (lq ROW.toList news (i*ti.size)).toArray).drew.setRow w.heap.size (lq (lq ROW.toList news (i*ti.size)) (xs.drop (i*ti.size)) ((i+m)*ti.size)).toArray):=by
      intro ty dc sc
      have hmin:Nat.min (n - i) (n+m - (i+m)) = n - i:=by simp only [Nat.min_def]; split <;> omega
      have:=qz (P:=P) ((w.drew.alloc (.cells ROW e)).setRow w.heap.size (lq ROW.toList news (i*ti.size)).toArray).drew tS tS ty e ti ht hi w.heap.size ((i+m)*ti.size) (n+m - (i+m)) dc ⟨g,i*ti.size,none⟩ (n - i) sc (xs.drop (i*ti.size)) _ e hW2 (by rw [hmin,hdl])
        (hsrcx _ ((setRow_other (w.drew.alloc (.cells ROW e)) w.heap.size g _ hgN).trans (hold g (lu hg)))) (by simpa using fit2) (fun u hu=>h1x u (List.mem_of_mem_drop hu))
      rwa [hmin] at this
    refine (L.grow w g n cap i g2 o2 m c2 w.heap.size _ _ _ _ hlt hm hnc (by omega) hgrown (by unfold maxLen at hgm; omega) hb2 hap hcp1 hcp2).mono ?_
    rintro _ _ ⟨rfl,rfl⟩
    refine ⟨_,rfl,⟨?_, .inr ⟨w.heap.size,_,_,rfl,Nat.zero_le _,setRow_heap _ w.heap.size _ _ e (0,0) hW2,hgrown,hgm, ?_, ?_⟩⟩,⟨rfl,rfl,rfl,by simp,fun q hq hne=>?_⟩, .inr ⟨rfl,by simp⟩⟩
    · simp only [List.length_append,List.length_take,List.length_drop,hown.1,e2']; omega
    · rw [List.size_toArray,rr fit2,rr fit1,hRl]
    · rw [e2']
      refine Ui ?_ hown.1 e3 e1 (by rw [hRl, ← hRs]; exact e6)
      rw [hROW]
      simp only [Array.toList_append,List.append_assoc]
      rw [List.take_append_of_le_length (by rw [List.length_take,hown.1]; omega)]
      rw [List.take_take,Nat.min_self]
    · have hqN:q≠w.heap.size:=by omega
      rw [setRow_other _ w.heap.size q _ hqN]
      exact (setRow_other (w.drew.alloc (.cells ROW e)) w.heap.size q _ hqN).trans (hold q hq)
end Go.Ax
