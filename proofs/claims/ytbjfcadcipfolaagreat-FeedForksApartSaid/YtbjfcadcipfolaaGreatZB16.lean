import Derived.Test.YtbjfcadcipfolaaGreatZB15
set_option linter.all false
/- What calls of sort.Slice, slices.Sort and slices.Compact cost, paid once. -/
namespace Go.Ax
open Go.RowKit Go.Sort Go.Lib Go.Shelf Go.Proofs
theorem Ie {T:Type} [Inhabited T] {P:Program} {ρ:Ren} (L:LaysGg.n6 P ρ) {t e g:Nat} {i ie:TypeInfo} (hi:P.info? t = some i) (hd:i.desc = .slice e) (hpk:P.packed t = false) (hie:P.info? e = some ie) {ke:Nat} (hke:∀ w,(Extern.Rtype.kind e).run P w = .ok ke w)
  {enc:T→List Value} {k:Nat} (hk:∀ x,(enc x).length = k) (hs1:ie.size = k) (hagg:∀ w,(isAgg e).run P w = .ok true w) (h1:∀ x, ∀ v∈enc x,v.oneCell' = true) {lt:T→T→Bool} (hO:SWO lt)
  (eg:∀ args w,(callFunc g args).run P w = .ok (.enter g args) w) {fS:Nat} (hfS:fS = ρ.f 6) (eS:∀ args w,(callFunc fS args).run P w = .ok (.enter fS args) w)
  {f0 f1 f2 s:Nat} (hf0:P.funcs.findIdx? (·.name == "internal/reflectlite" ++ ".Swapper$" ++ toString 1) = some f0) (hf1:P.funcs.findIdx? (·.name == "internal/reflectlite" ++ ".Swapper$" ++ toString 2) = some f1)
  (hs:∀ n,2≤n→swapperK n ie ke = s) (hf2:P.funcs.findIdx? (·.name == "internal/reflectlite" ++ ".Swapper$" ++ toString s) = some f2)
  {gS:Bool} (hx:∀ args W,(callFunc f2 args).run P W = ((Extern.ReflectliteSwapper.swap gS args).run P W).andThen fun v w'=>.ok (.value v) w')
  (hless:∀ (W:World) (blk c Bs:Nat) (d:Array T),HoldsK enc k W blk 0 d→d.size < 4611686018427387904→W.cell? ⟨Bs,0,none⟩ = some (.slice (some ⟨blk,0,none⟩) d.size c)→∀ i j:Nat,i < d.size→j < d.size →
   Calls P g #[.int .i64 i, .int .i64 j, .pointer (some ⟨Bs,0,none⟩)] W fun e w'=>e = .returned (.bool (lt d[i]! d[j]!))∧∃ q,w' = W.drewN q):Bo P fS t g k enc lt:=by
 subst hfS
 have k0:swapperK 0 ie ke = 1:=by simp [swapperK]
 have k1:swapperK 1 ie ke = 2:=by simp [swapperK]
 refine ⟨fun w lb=>.inl ⟨eS _ _,(Any.sort_Slice_tiny L t e i ie hi hd hpk hie ke hke none 0 0 (by omega) f0 (by rw [k0];exact hf0) (.func g) #[] lb w).mono ?_⟩,fun w blk c Bs l hsz hH hblk hcell hBs hne=>?_⟩
 ·rintro e w' ⟨rfl,h⟩
  exact ⟨_,rfl,rfl,h⟩
 ·by_cases h2:l.length < 2
  ·have e1:ii lt l = l:=by unfold ii;rw [if_pos h2]
   obtain ⟨f,hf⟩:∃ f,P.funcs.findIdx? (·.name == "internal/reflectlite" ++ ".Swapper$" ++ toString (swapperK l.length ie ke)) = some f:=by
    have:l.length = 0∨l.length = 1:=by omega
    rcases this with h | h
    ·rw [h,k0];exact ⟨_,hf0⟩
    ·rw [h,k1];exact ⟨_,hf1⟩
   refine .inl ⟨eS _ _,(Any.sort_Slice_tiny L t e i ie hi hd hpk hie ke hke (some ⟨blk,0,none⟩) l.length c (by omega) f hf (.func g) #[] #[.pointer (some ⟨Bs,0,none⟩)] w).mono ?_⟩
   rintro e w' ⟨rfl,os,rfl⟩
   refine ⟨_,rfl,rfl,0,os, ?_⟩
   rw [ahead_zero,e1,putRowK_self _ _ _ _ _ _ hH]
  ·have h2':2≤l.toArray.size:=by show 2≤l.length;omega
   have e1:(ii lt l).toArray = pdq lt l.toArray 0 l.toArray.size (Lib.bitLen l.toArray.size) true true:=by unfold ii;rw [if_neg h2]
   have hl:LessReadsK P g #[.pointer (some ⟨Bs,0,none⟩)] enc k lt blk 0 l.toArray.size w:=by
    intro m os dk hs i j hi hj
    have e:sortWorldK enc k w blk 0 m dk os = putRowK enc k (grow (Sort.ahead w m) os) blk 0 dk:=by
     unfold sortWorldK;rw [putRowK_grow _ _ (Sort.ahead w m) _ blk 0 _ hblk]
    have hHg:HoldsK enc k (grow (Sort.ahead w m) os) blk 0 l.toArray:=holdsK_grow _ _ _ _ blk 0 _ hblk (holdsK_ahead _ _ _ _ _ _ _ hH)
    refine hless _ blk c Bs dk ?_ (by rw [hs];exact hsz) ?_ i j (by omega) (by omega)
    ·rw [e];exact holdsK_putRowK _ _ _ blk 0 _ dk hHg hs
    ·rw [e,cell?_putRowK_other _ _ _ blk 0 dk _ (by exact hne),cell?_grow _ _ _ (by exact hBs),hs];exact hcell
   refine .inl ⟨eS _ _,(Any.sort_Slice_cells_eq L t e i ie hi hd hpk hie ke hke enc k hk hs1 hagg h1 lt hO g _ eg blk 0 c l.toArray h2' hsz f2 (by rw [hs _ h2'];exact hf2) gS hx w hl hH hblk).mono ?_⟩
   rintro e w' ⟨rfl,n,os,rfl⟩
   exact ⟨_,rfl,rfl,n,os,by rw [e1]⟩
section
variable {P:Program}
theorem K7 {enc:Int→Value} {w:World} {n blk:Nat} {d:Array Int} {os:Array Obj} {C:Array Value} {t:TypeId} (h:w.heap[blk]? = some (.cells C t (0,0))) :
  (Sort.grow (putRow enc (Sort.ahead w n) blk 0 d) os).heap[blk]? = some (.cells (putCells enc 0 d C) t (0,0))∧w.grownBy (Sort.grow (putRow enc (Sort.ahead w n) blk 0 d) os) (some blk):=by
 have hlt:=dP h
 have hsz:(putRow enc (Sort.ahead w n) blk 0 d).heap.size = w.heap.size:=by simp [putRow,mapBlock,Sort.ahead]
 constructor
 ·show ((putRow enc (Sort.ahead w n) blk 0 d).heap++os)[blk]? = _
  rw [Array.getElem?_append_left (by omega)]
  show (w.heap.modify blk _)[blk]? = _
  rw [Array.getElem?_modify,if_pos rfl,h]
  rfl
 ·refine ⟨rfl,rfl,rfl,by show _≤((putRow enc (Sort.ahead w n) blk 0 d).heap++os).size;rw [Array.size_append];omega,fun q hq hne=>?_⟩
  show ((putRow enc (Sort.ahead w n) blk 0 d).heap++os)[q]? = _
  rw [Array.getElem?_append_left (by omega)]
  show (w.heap.modify blk _)[q]? = _
  rw [Array.getElem?_modify,if_neg (fun e=>hne (by rw [e]))]
theorem Jg {w:World} {g cap:Nat} {cur:Array Value} {e:TypeId} (l r:List Int) (hc:w.heap[g]? = some (.cells cur e (0,0))) (hlen:r.length = l.length) (hcur:cur.size = cap*1) (hle:l.length≤cap) (hcap:cap≤maxLen) (m:Nat) (hm:m≤l.length) (n:Nat) (os:Array Obj) :
  (Sort.grow (putRow (Value.int .i64) (Sort.ahead w n) g 0 r.toArray) os).ownsRow 0 e 1 (.slice (some ⟨g,0,none⟩) m cap) m ((r.take m).map (Value.int .i64))∧w.grownBy (Sort.grow (putRow (Value.int .i64) (Sort.ahead w n) g 0 r.toArray) os) (some g):=by
 obtain ⟨h1,h2⟩:=K7 (enc:=Value.int .i64) (n:=n) (d:=r.toArray) (os:=os) hc
 refine ⟨⟨by simp;omega, .inr ⟨g,cap,_,rfl,Nat.zero_le _,h1,by omega,hcap,by simp [putCells,hcur], ?_⟩⟩,h2⟩
 apply List.ext_getElem?
 intro i
 rw [List.getElem?_take]
 by_cases hi:i < m
 ·rw [if_pos (by omega),Array.getElem?_toList]
  simp only [putCells,Array.getElem?_mapIdx]
  rw [Array.getElem?_eq_getElem (show i < cur.size by omega),Option.map_some,if_pos ⟨Nat.zero_le _,by rw [List.size_toArray];omega⟩,List.getElem?_map,List.getElem?_take,if_pos hi,List.getElem?_eq_getElem (by omega)]
  simp only [Nat.sub_zero,Option.map_some]
  rw [getElem!_pos r.toArray i (by rw [List.size_toArray];omega)]
  simp
 ·rw [if_neg (by omega),List.getElem?_eq_none (by rw [List.length_map,List.length_take];omega)]
theorem JD {w:World} {g cap:Nat} {cur:Array Value} {e:TypeId} {l:List Int} (hc:w.heap[g]? = some (.cells cur e (0,0))) (h5:cur.toList.take (l.length*1) = l.map (Value.int .i64)):Holds (Value.int .i64) w g 0 l.toArray:=by
 intro j hj
 have hj':j < l.length:=by simpa using hj
 refine ⟨?_,by simp [World.frozen?,hc]⟩
 rw [Nat.zero_add,cell_of_row w g j cur e (0,0) hc]
 have:(cur.toList.take (l.length*1))[j]? = some (.int .i64 l[j]):=by rw [h5,List.getElem?_map,List.getElem?_eq_getElem hj'];rfl
 rw [List.getElem?_take,if_pos (by omega),Array.getElem?_toList] at this
 rw [this,getElem!_pos l.toArray j hj]
 simp
theorem Fz {ρ:Ren} {f e:Nat} (L:Lays.n189 P ρ) (hf:f = ρ.f 189) (eS:∀ args w,(callFunc f args).run P w = .ok (.enter f args) w):GW P f e false gH:=by
 subst hf
 intro w v l hown hsz
 rcases hown.2 with ⟨rfl,hn⟩ | ⟨g,cap,cur,rfl,_,hc,hc2,hc3,hc4,hc5⟩
 ·have:l = []:=List.length_eq_zero_iff.1 hn
  subst this
  refine .inl ⟨eS _ _,(Any.slices_Sort_int_none L none 0 w).mono ?_⟩
  rintro e' w' ⟨rfl,rfl⟩
  exact ⟨_,rfl, .slice none 0 0,rfl,⟨rfl, .inl ⟨rfl,rfl⟩⟩,⟨rfl,rfl,rfl,Nat.le_refl _,fun _ _ _=>rfl⟩,rfl,fun _=>⟨rfl,rfl⟩⟩
 ·refine .inl ⟨eS _ _,(Any.slices_Sort_int L g 0 cap l w (JD (cap:=cap) hc hc5) (dP hc) hsz).mono ?_⟩
  rintro e' w' ⟨rfl,n,os,rfl⟩
  rw [DR]
  have hl:(l.mergeSort fun x y=>decide (x≤y)).length = l.length:=List.length_mergeSort _
  obtain ⟨a1,a2⟩:=Jg l (l.mergeSort fun x y=>decide (x≤y)) hc hl hc4 hc2 hc3 l.length (Nat.le_refl _) n os
  rw [List.take_of_length_le (by omega)] at a1
  rw [hl]
  exact ⟨_,rfl,_,rfl,a1,a2,rfl,fun _=>⟨rfl,rfl⟩⟩
end
end Go.Ax
namespace Go.Ax
open Go.RowKit
def uA (X:XT):Sp→CC
 | .hand fi h=>bif fi.out.isGen then .mut fun H nid args=>kR fi (h X) H nid args some else .pure fun vs=>(kM fi (h X) vs some).map fun o=>(true,o)
 | .mut m=>.mut (m X)
 | .none=>.pure fun _=>none
theorem Mk {Tb:iE} {X:XT} {f:FuncId} (h:bK Tb.fs f = none):dN Tb X f = uA X (Tb.sp f):=by
 unfold dN
 rw [h]
 simp only
 cases Tb.sp f <;> rfl
theorem pk {P:Program} {X:XT} {f k:FuncId} {s1 s2:Sp} (h1:bq P k (uA X s1)) (h2:bq P f (uA X s2)):bq P f (uA X (bif Nat.beq f k then s1 else s2)):=by
 cases hb:Nat.beq f k with
 | true=>rw [cond_true];have:=Nat.eq_of_beq_eq_true hb;subst this;exact h1
 | false=>rw [cond_false];exact h2
theorem K5 {P:Program} {X:XT} {f:FuncId}:bq P f (uA X .none):=by
 intro ok w xs vs p out _ _ h1
 cases h1
def tI:Nat→List (Nat × Cd)→Bool
 | _,[]=>true
 | j,(t, .t _) :: r=>Nat.beq t j&&tI (j+1) r
 | _,_=>false
theorem Ek {vs0:List V}:∀ (sl:List (Nat × Cd)) (j:Nat) (us:List V),tI j sl = true→j+sl.length = vs0.length→sR (iY vs0 0) sl = some us→us = vs0.drop j
 | [],j,us,_,hl,h=>by
  simp [sR] at h
  subst h
  rw [List.drop_of_length_le (by simp at hl;omega)]
 | (t, .t ty) :: r,j,us,hi,hl,h=>by
  simp only [tI,Bool.and_eq_true,Nat.beq_eq] at hi
  obtain ⟨rfl,hi⟩:=hi
  rw [sR] at h
  split at h
  ·next s hg =>
   obtain ⟨v,_,hv,rfl⟩:=mh vs0 0 t s hg
   simp only [List.isEmpty_nil,cond_true,colC] at h
   split at h
   ·next a b ha hb =>
    cases ha;cases h
    have:=Ek r (t+1) b hi (by simp at hl;omega) hb
    rw [this]
    have ht:t < vs0.length:=by simp at hl;omega
    rw [Nat.sub_zero,List.getElem?_eq_getElem ht] at hv
    cases hv
    rw [List.drop_eq_getElem_cons ht];rfl
   ·cases h
  ·cases h
 | (t, .k _) :: r,j,us,hi,_,_=>by simp [tI] at hi
 | (t, .dp _) :: r,j,us,hi,_,_=>by simp [tI] at hi
 | (t, .fn _ _) :: r,j,us,hi,_,_=>by simp [tI] at hi
 | (t, .tp _) :: r,j,us,hi,_,_=>by simp [tI] at hi
 | (t, .ag _) :: r,j,us,hi,_,_=>by simp [tI] at hi
theorem E6 {fi:FI} {vs:List V} {a:HP fi.ins.tys} (hi:tI 0 fi.ins.sl = true) (h:uH fi vs = some a):RV vs (fE fi.ins.tys a):=by
 unfold uH at h
 cases hb:(!fi.out.isGen&&(Nat.beq vs.length fi.ins.sl.length&&fi.ins.ob.isEmpty)) with
 | false=>rw [hb] at h;cases h
 | true =>
  rw [hb,cond_true] at h
  simp only [Bool.and_eq_true,Nat.beq_eq] at hb
  unfold rd at h
  split at h
  ·next x y hx hy =>
   have h1:=Ek fi.ins.sl 0 x hi (by omega) hx
   have h2:y = []:=by
    have:=List.isEmpty_iff.1 hb.2.2
    rw [this] at hy
    simp [wi] at hy
    first | exact hy | exact hy.symm
   subst h1 h2
   have:=pN _ _ _ h
   simpa using this
  ·cases h
theorem za {E:ar} {w:World}:∀ {vs:List V} {ts:List TV} {xs:List Value},RV vs ts→aI E w xs vs→aI E w xs (ts.map TV.v)
 | [],[],xs,_,h=>h
 | v :: vs,t :: ts,xs,hr,h=>by
  match xs,h with
  | [],h=>have:=h.1;simp at this
  | x :: xs,h =>
   have ih:=za (xs:=xs) hr.2 ⟨by have:=h.1;simpa using this,fun i v d h1 h2=>h.2 (i+1) v d (by simpa using h1) (by simpa using h2)⟩
   refine ⟨by simpa using ih.1,fun i u d h1 h2=>?_⟩
   match i with
   | 0=>simp at h1 h2;subst h1 h2;exact (h.2 0 x v rfl rfl).le hr.1
   | i+1=>exact ih.2 i u d (by simpa using h1) (by simpa using h2)
 | [],_ :: _,_,h,_=>h.elim
 | _ :: _,[],_,h,_=>h.elim
theorem yz {P:Program} {X:XT} {f:FuncId} {fi:FI} {h:XT→HP fi.ins.tys→Option (HP fi.out.tys)} (hg:fi.out.isGen = false)
  (hm:∀ (ok:Nat→Prop) (w:World) (xs:List Value) (vs:List V) (a:HP fi.ins.tys) (y:HP fi.out.tys),aI (dw ok) w xs vs→(∀ b,ok b→b < w.heap.size)→uH fi vs = some a→h X a = some y →
   ik P f xs.toArray w fun v w'=>Below w.heap.size w w'∧tV ok w w' v (fi.out.out y)):bq P f (uA X (.hand fi h)):=by
 show bq P f (bif fi.out.isGen then _ else _)
 rw [hg,cond_false]
 intro ok w xs vs p out hx hok h1 _
 unfold kM at h1
 simp only at h1
 cases ha:uH fi vs with
 | none=>simp [ha] at h1
 | some a =>
  rw [ha] at h1
  simp only at h1
  cases hy:h X a with
  | none=>simp [hy] at h1
  | some y =>
   rw [hy] at h1
   simp at h1
   obtain ⟨_,rfl⟩:=h1
   exact hm ok w xs vs a y hx hok ha hy
theorem Lz {Tb:iE} {f:FuncId} {fi:FI} {vs:List V} {a:HP fi.ins.tys} (hT:wK Tb) (hs:gC Tb) (hl:bK Tb.fs f = some [fi]) (hg:fi.out.isGen = false) (hr:uH fi vs = some a) (hx:(Xc Tb fi a).map fi.out.out = some (.data (bl true))∨(Xc Tb fi a).map fi.out.out = some (.new (bl true)))
  (w:World) (xs:List Value) (h:aI (dw fun b=>b < w.heap.size) w xs vs):ik Tb.P f xs.toArray w fun v w'=>Below w.heap.size w w'∧v = .bool true:=by
 have hm:=FM hT hs f
 unfold dN at hm
 rw [hl] at hm
 simp only [yl,hg,cond_false] at hm
 cases hX:Xc Tb fi a with
 | none=>rcases hx with hx | hx <;> (rw [hX] at hx;cases hx)
 | some y =>
  rw [hX] at hx
  simp only [Option.map_some,Option.some.injEq] at hx
  refine (hm _ w xs vs true (fi.out.out y) h (fun _ h=>h) (by simp [fB,hr,hX]) rfl).mono fun v w' hv=>⟨hv.1, ?_⟩
  have hv:=hv.2
  rcases hx with hx | hx
  ·rw [hx] at hv
   exact af.lit_inv hv
  ·rw [hx] at hv
   exact af.lit_inv hv
end Go.Ax
