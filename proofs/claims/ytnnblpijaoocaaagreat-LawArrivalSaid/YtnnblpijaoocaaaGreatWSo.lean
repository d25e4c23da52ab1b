import Derived.Test.YtnnblpijaoocaaaGreatWTa
import Derived.Test.YtnnblpijaoocaaaGreatWSf
import Derived.Test.YtnnblpijaoocaaaGreatWPo
import Derived.Test.YtnnblpijaoocaaaGreatWE
import Derived.Test.YtnnblpijaoocaaaGreatWLay
import Derived.Laws.Externs
import Derived.Test.YtnnblpijaoocaaaGreatWB17
import Derived.Shelf.SortM.Plain
import Derived.Shelf.SortM.SortNone
import Derived.Shelf.SlSortCmp.NoneTotal
set_option linter.all false
/- Functions of the library, walked by hand. -/
set_option maxRecDepth 100000
namespace Go.Ax
open Go.Proofs Go.Proofs.YtnnblpijaoocaaaGreat Go.RowKit Go.Shelf Go.Lib Go.Sort
theorem OA (m:Nat):Go.Proofs.AnyZI.SortsIn Tryz.prog Tryz.se_ren Fence.wide m :=
 ⟨fun blk off cap ss W hH hblk hsz=>callsIn_wide.2 (AnyM.slices_Sort_int Tryz.sm blk off cap ss W hH hblk hsz),fun p cap W=>callsIn_wide.2 (AnyM.slices_Sort_int_none Tryz.sm p cap W)⟩
abbrev xp:=(Ty.st SK.GSpan).T
instance so86_i:Inhabited xp:=⟨zS SK.GSpan⟩
abbrev l5 (a b:xp):Bool:=aa (a.From < b.From)
theorem Iw:Go.Sort.SWO l5:=⟨fun x=>by simp [l5],fun x y z h1 h2=>by simp [l5] at *; omega,fun x y z h1 h2=>by simp [l5] at *; omega⟩
theorem HU (x:xp):∀ v∈(.st .GSpan:Ty).lits x,v.oneCell' = true:=by
 intro v hv
 have e:(.st .GSpan:Ty).lits x = [.int .i64 x.From, .int .i64 x.To]:=rfl
 rw [e] at hv
 simp only [List.mem_cons,List.not_mem_nil,or_false] at hv
 rcases hv with rfl | rfl <;> rfl
set_option maxHeartbeats 2000000 in
theorem Mn (W:World) (blk off c Bs size:Nat) (G:Nat→Int) (hs:W.cell? ⟨Bs,0,none⟩ = some (.slice (some ⟨blk,off,none⟩) size c))
  (hc:∀ t,t < size→W.cell? ⟨blk,off+t*2,none⟩ = some (.int .i64 (G t))) (i j:Nat) (hi:i < size) (hj:j < size) (_hsz:size < 4611686018427387904) :
  Calls Tryz.prog 87 #[.int .i64 i, .int .i64 j, .pointer (some ⟨Bs,0,none⟩)] W fun e w'=>e = .returned (.bool (decide (G i < G j)))∧∃ q,w' = W.drewN q:=by
 have ci:=hc i hi
 have cj:=hc j hj
 go_enter Tryz.func87,Tryz.ntmps87
 go_wp2
 go_quiet (fail)
 go_wp2
 go_ret
 exact ⟨rfl,nq,rfl⟩
theorem M4 (W:World) (blk c Bs:Nat) (d:Array xp) (hH:HoldsK (.st .GSpan:Ty).lits (.st .GSpan:Ty).k W blk 0 d) (hsz:d.size < 4611686018427387904) (hs:W.cell? ⟨Bs,0,none⟩ = some (.slice (some ⟨blk,0,none⟩) d.size c)) (i j:Nat) (hi:i < d.size) (hj:j < d.size) :
  Calls Tryz.prog 87 #[.int .i64 i, .int .i64 j, .pointer (some ⟨Bs,0,none⟩)] W fun e w'=>e = .returned (.bool (l5 d[i]! d[j]!))∧∃ q,w' = W.drewN q :=
 Mn W blk 0 c Bs d.size (fun t=>d[t]!.From) hs (fun t ht=>(hH.cell (i:=t) (c:=0) ht (by show 0 < 2;omega)).1) i j hi hj hsz
noncomputable def PT:TypeInfo:=(Tryz.prog.info? 56).get (by kernel_rfl)
noncomputable def C4:TypeInfo:=(Tryz.prog.info? 30).get (by kernel_rfl)
theorem OR:EK Tryz.prog 86 56 87 (.st .GSpan:Ty).k (.st .GSpan:Ty).lits l5:=by
 have hp:C4.hasPointers = false:=by kernel_rfl
 have hb:C4.bytes = 16:=by kernel_rfl
 exact Lt (T:=xp) (enc:=(.st .GSpan:Ty).lits) (k:=(.st .GSpan:Ty).k) (lt:=l5) (t:=56) (e:=30) (g:=87) (i:=PT) (ie:=C4) (s:=9) (f2:=175) Tryz.sl (by kernel_rfl) (by kernel_rfl) (by kernel_rfl) (by kernel_rfl) (ke:=25) (fun _=>by kernel_rfl) (fun _=>rfl) (by kernel_rfl) (fun _=>by kernel_rfl) HU Iw
  (dY (c:=jw Tryz.f87) Tryz.func87 (by kernel_rfl) (by kernel_rfl)) (by kernel_rfl) (dY (c:=jw Tryz.f86) Tryz.func86 (by kernel_rfl) (by kernel_rfl)) (f0:=167) (by kernel_rfl) (f1:=168) (by kernel_rfl)
  (fun n h2=>by
   have c:(n == 0) = false:=by simp;omega
   have d:(n == 1) = false:=by simp;omega
   simp [Lib.swapperK,hp,hb,c,d]) (by kernel_rfl) (gS:=false) (fun args W=>run_callFunc_extern Tryz.func175 (by kernel_rfl) (by kernel_rfl) (by kernel_rfl) (e:=Extern.ReflectliteSwapper.swap false) (by kernel_rfl) args W)
  M4
theorem Sl (X:XT) (hX:True):aQ Tryz.prog 86 (rI X (.mut (fun _=>pU 56 87 30 (.st .GSpan) jl))) :=
 BL (ty:=.st .GSpan) (lt:=l5) Iw (by decide) (by decide) (by kernel_rfl) (fun x=>rfl) HU (fun l=>rfl) OR
set_option maxHeartbeats 1000000 in
theorem Sf (X:XT) (hX:True):aQ Tryz.prog 113 (rI X (.mut (fun _=>yZ 152 3))):=by
 refine GD (f:=113) (g:=152) (k:=3) (e:=3) (by decide) (dY (c:=jw Tryz.f113) Tryz.func113 (by kernel_rfl) (by kernel_rfl)) (by kernel_rfl) fun W Bm b n D0 R hBm hc hown hsz=>?_
 have hseq:SeqGives Fence.wide 2 Tryz.prog 152 #[.pointer (some ⟨Bm,0,none⟩)] encZ (fun ss=>ss.Perm (intKeys D0)) (Maps.size D0) W :=
  AnyZI.keys_gives (ρ:=Tryz.ke_ren) { Tryz.ke with } Fence.wide _ trivial rfl (by omega) Bm b n D0 W hBm hc hown
 have cS:=AnyZI.sorted_in Tryz.se Fence.wide 5 trivial trivial trivial trivial rfl (by omega) (OA _) (dY (c:=jw Tryz.f88) Tryz.func88 (by kernel_rfl) (by kernel_rfl)) 152 #[.pointer (some ⟨Bm,0,none⟩)] trivial (dY (c:=jw Tryz.f152) Tryz.func152 (by kernel_rfl) (by kernel_rfl)) _ _ (by unfold maxLen;omega) (by omega) _ hseq
 refine (callsIn_wide.1 cS).mono ?_
 rintro e' w' ⟨v,ss,rfl,h1,h2,_,h3⟩
 exact ⟨v,ss,rfl,h1,h2,h3⟩
set_option maxHeartbeats 1000000 in
theorem Sb (X:XT) (hX:True):aQ Tryz.prog 114 (rI X (.mut (fun _=>GK 152))) :=
 JV (f:=114) (g:=152) (by decide) (dY (c:=jw Tryz.f114) Tryz.func114 (by kernel_rfl) (by kernel_rfl)) (fun mb W=>callsIn_wide.1 (AnyZI.keys_in Tryz.ke Fence.wide 5 trivial rfl mb W))
theorem Sk (X:XT) (hX:True):aQ Tryz.prog 88 (rI X (.mut (fun _=>GL))):=JX fun e=>Im (e:=e) Tryz.si (by kernel_rfl) (dY (c:=jw Tryz.f88) Tryz.func88 (by kernel_rfl) (by kernel_rfl))
theorem Sm (X:XT) (hX:True):aQ Tryz.prog 89 (rI X (.mut (fun _=>uh))):=Eo fun e=>BS (e:=e) Tryz.ci (by kernel_rfl) (dY (c:=jw Tryz.f89) Tryz.func89 (by kernel_rfl) (by kernel_rfl))
theorem Sd (X:XT) (hX:True):aQ Tryz.prog 251 (rI X (.hand f251 OL)):=by
 refine H9 (by kernel_rfl) fun ok w xs vs a y hx hok hr hh=>?_
 have hx:=GR (NG (by kernel_rfl) hr) hx
 obtain ⟨s,c⟩:=a
 have hy:y = Go.firstIdx s c.toNat.toUInt8:=(Option.some.inj hh).symm
 subst hy
 obtain ⟨x,z,rfl⟩:∃ x z,xs = [x,z]:=by
  have:=hx.1
  match xs,this with
  | [x,z],_=>exact ⟨x,z,rfl⟩
 have e1:x = .string s:=ai.lit_inv (hx.2 0 x _ rfl rfl)
 have e2:z = .int .u8 c:=ai.lit_inv (hx.2 1 z _ rfl rfl)
 subst e1 e2
 refine .inr ⟨.int .i64 (Go.firstIdx s c.toNat.toUInt8),w, ?_, .refl _ _, .lit _⟩
 rw [run_callFunc_extern (fn:=Tryz.f251) (e:=Extern.BytealgIndexByte.indexByte) (by kernel_rfl) (by kernel_rfl) (by kernel_rfl) (by kernel_rfl) (by kernel_rfl)]
 have:=run_indexByte_string (P:=Tryz.prog) s c w
 rw [show [Value.string s,Value.int .u8 c].toArray = #[Value.string s,Value.int .u8 c] from rfl,this]
 rfl
end Go.Ax
namespace Go.Ax
open Go.Proofs Go.Proofs.Tryz Go.RowKit Go.Shelf
theorem Jz {α:Type} (p:α→Bool) {t:List α} {k:Nat} {x:α} (hk:t[k]? = some x) (hx:p x = true) (ha:∀ j y,k < j→t[j]? = some y→p y = false):t.reverse.find? p = some x:=by
 have e:t = t.take k++x :: t.drop (k+1):=by
  have hlt:k < t.length:=(List.getElem?_eq_some_iff.1 hk).1
  have h1:t[k] = x:=(List.getElem?_eq_some_iff.1 hk).2
  rw [← h1,List.getElem_cons_drop,List.take_append_drop]
 rw [e,List.reverse_append,List.find?_append]
 have h0:(x :: t.drop (k+1)).reverse.find? p = some x:=by
  rw [List.reverse_cons,List.find?_append]
  have:(t.drop (k+1)).reverse.find? p = none:=by
   rw [List.find?_eq_none]
   intro y hy
   rw [List.mem_reverse] at hy
   obtain ⟨j,hj⟩:=List.getElem?_of_mem hy
   rw [List.getElem?_drop] at hj
   rw [ha (k+1+j) y (by omega) hj]
   simp
  rw [this]
  simp [hx]
 rw [h0]
 rfl
theorem lq {ok:Nat→Prop} {w:World} {v u:Value} (h:aw ok w v (.lit u)):v = u:=by cases h;rfl
theorem vq {α:Type} {l:List α} {i:Nat} (h:i < l.length) (z:α):l[i]? = some (gD l i z):=by
 rw [gD,List.getD_eq_getElem?_getD,List.getElem?_eq_getElem h];rfl
theorem DU {ok:Nat→Prop} {w:World} {v:Value} {zs:List Int} (h:aw ok w v (.sl (.i .i64) zs)):iK ok w v zs:=by
 cases h with
 | sl t xs a n c k el u hn hk he hc hm ha ho hl hu =>
  subst hn hk
  refine ⟨a,c,rfl,hc,hm,fun h0=>?_⟩
  obtain ⟨ad,rfl,hok,hcell⟩:=ha h0
  obtain ⟨b,off,sp⟩:=ad
  have hsp:sp = none:=by
   have:=hcell 0 0 h0 (by show 0 < 1;omega)
   unfold World.cell? at this
   cases sp with
   | none=>rfl
   | some s =>
    have e:(Addr.add ⟨b,off,some s⟩ (0*Ty.k (.i .i64)+0)).spot = some s:=rfl
    split at this
    ·rw [e] at this;simp at this
    ·cases this
  subst hsp
  refine ⟨b,off,rfl,hok,fun j hj=>?_⟩
  have h1:=hcell j 0 hj (by show 0 < 1;omega)
  have h2:=hu j 0 (.lit (.int .i64 (gD zs j 0))) hj (by rw [he j hj];rfl)
  rw [lq h2] at h1
  have e:(Addr.add ⟨b,off,none⟩ (j*Ty.k (.i .i64)+0)) = ⟨b,off+j,none⟩:=by
   rw [bJ]
   show (⟨b,off+(j*1+0),none⟩:Addr) = _
   rw [Nat.mul_one,Nat.add_zero]
  rw [e] at h1
  exact h1
theorem tZ {p ok:Nat→Prop} {w:World} {v:Value} {zs:List Int} (hp:∀ b,p b→b < w.heap.size→ok b) (h:iK p w v zs):aw ok w v (.sl (.i .i64) zs):=by
 obtain ⟨a,c,rfl,hc,hm,h0⟩:=h
 refine .sl (.i .i64) zs a zs.length c 1 (fun i=>[.lit (.int .i64 (gD zs i 0))]) (fun i _=>.int .i64 (gD zs i 0)) rfl rfl (fun i _=>rfl) hc hm (fun hl=>?_) (fun _ _ _ _=>rfl) (fun _ _=>rfl) fun i j d hi hd=>?_
 ·obtain ⟨b,off,rfl,hb,hcell⟩:=h0 hl
  have hlt:b < w.heap.size:=by
   have:=hcell 0 hl
   unfold World.cell? at this
   split at this
   ·next h=>exact (Array.getElem?_eq_some_iff.1 h).1
   ·cases this
  refine ⟨_,rfl,hp b hb hlt,fun i j hi hj=>?_⟩
  obtain rfl:j = 0:=by omega
  show w.cell? (Addr.add ⟨b,off,none⟩ (i*1+0)) = _
  rw [bJ,Nat.mul_one,Nat.add_zero]
  exact hcell i hi
 ·match j,hd with
  | 0,hd=>cases hd;exact .lit _
set_option maxHeartbeats 4000000 in
theorem Sq (X:XT) (hX:True):aQ Tryz.prog 74 (rI X (.hand f74 Rl)):=by
 refine H9 (by kernel_rfl) fun ok w xs vs a y hx hok hr hh=>?_
 have hx:=GR (NG (by kernel_rfl) hr) hx
 obtain ⟨t,day0⟩:=a
 obtain ⟨day,rfl⟩:∃ d:Int,d = day0:=⟨day0,rfl⟩
 obtain ⟨x,z,rfl⟩:∃ x z,xs = [x,z]:=by
  have:=hx.1
  match xs,this with
  | [x,z],_=>exact ⟨x,z,rfl⟩
 have e1:ai (fL ok) w x (.c (.sl (.st .GRules) t)):=hx.2 0 x _ rfl rfl
 have e2:z = .int .i64 day:=ai.lit_inv (hx.2 1 z _ rfl rfl)
 subst e2
 have hh:mm t day = some y:=hh
 have e1:aw ok w x (.sl (.st .GRules) t):=by cases e1;assumption
 cases e1 with
 | sl ty xs a n c k el u hn hk he hc hm ha ho hl hu =>
  subst hn hk
  unfold mm at hh
  cases hg:(aa (t.length≤1000)&&t.all (fun r=>aa (r.Members.length≤1000))) with
  | false=>rw [hg] at hh;cases hh
  | true =>
   rw [hg,cond_true] at hh
   simp only [Bool.and_eq_true,aa,decide_eq_true_eq] at hg
   obtain ⟨hg1,hg2⟩:=hg
   have hg2:∀ i,i < t.length→(gD t i (zS .GRules)).Members.length≤1000:=fun i hi=>by
    have:=List.all_eq_true.1 hg2 _ (List.mem_of_getElem? (vq hi (zS .GRules)))
    simpa using this
   have hel:∀ i,i < t.length→el i = [.lit (.int .i64 (gD t i (zS .GRules)).From), .lit (.int .i64 (gD t i (zS .GRules)).MinDays), .lit (.int .i64 (gD t i (zS .GRules)).PostingLimit), .lit (.int .i64 (gD t i (zS .GRules)).Substantial), .sl (.i .i64) (gD t i (zS .GRules)).Members]:=fun i hi=>by rw [he i hi];rfl
   have hmv:∀ x:Nat,iK (fun b=>b < w.heap.size) w (if x < t.length then u x 4 else .slice none 0 0) (gD t x (zS .GRules)).Members:=fun x=>by
    by_cases hx:x < t.length
    ·rw [if_pos hx]
     have:=DU (hu x 4 _ hx (by rw [hel x hx];rfl))
     obtain ⟨a,c,q1,q2,q3,q4⟩:=this
     exact ⟨a,c,q1,q2,q3,fun h0=>by obtain ⟨b,off,r1,r2,r3⟩:=q4 h0;exact ⟨b,off,r1,hok b r2,r3⟩⟩
    ·rw [if_neg hx]
     have:gD t x (zS .GRules) = zS .GRules:=by rw [gD,List.getD_eq_getElem?_getD,List.getElem?_eq_none (by omega)];rfl
     rw [this]
     exact ⟨none,0,rfl,by decide,by unfold maxLen;omega,fun h=>absurd h (by decide)⟩
   have hM:∀ x:Nat,(gD t x (zS .GRules)).Members.length*8≤140737488355328:=fun x=>by
    by_cases hx:x < t.length
    ·have:=hg2 x hx;omega
    ·have:gD t x (zS .GRules) = zS .GRules:=by rw [gD,List.getD_eq_getElem?_getD,List.getElem?_eq_none (by omega)];rfl
     rw [this];decide
   have hI:qn w.heap.size w a t.length (fun j=>(gD t j (zS .GRules)).From) (fun j=>(gD t j (zS .GRules)).MinDays) (fun j=>(gD t j (zS .GRules)).PostingLimit) (fun j=>(gD t j (zS .GRules)).Substantial) (fun x=>if x < t.length then u x 4 else .slice none 0 0):=by
    intro h0
    obtain ⟨ad,rfl,hb,hcell⟩:=ha h0
    obtain ⟨b,off,sp⟩:=ad
    have hsp:sp = none:=by
     have:=hcell 0 0 h0 (by show 0 < 5;omega)
     unfold World.cell? at this
     cases sp with
     | none=>rfl
     | some s =>
      have e:(Addr.add ⟨b,off,some s⟩ (0*Ty.k (.st .GRules)+0)).spot = some s:=rfl
      split at this
      ·rw [e] at this;simp at this
      ·cases this
    subst hsp
    refine ⟨b,off,rfl,hok b hb,fun j hj=>?_⟩
    have hc:∀ i,i < 5→w.cell? ⟨b,off+(j*5+i),none⟩ = some (u j i):=fun i hi=>by
     have:=hcell j i hj (by show i < 5;exact hi)
     rw [bJ] at this
     exact this
    have h0:=hc 0 (by omega)
    have h1:=hc 1 (by omega)
    have h2:=hc 2 (by omega)
    have h3:=hc 3 (by omega)
    have h4:=hc 4 (by omega)
    rw [lq (hu j 0 _ hj (by rw [hel j hj];rfl))] at h0
    rw [lq (hu j 1 _ hj (by rw [hel j hj];rfl))] at h1
    rw [lq (hu j 2 _ hj (by rw [hel j hj];rfl))] at h2
    rw [lq (hu j 3 _ hj (by rw [hel j hj];rfl))] at h3
    refine ⟨h0,h1,h2,h3, ?_⟩
    show _ = some (if j < t.length then u j 4 else .slice none 0 0)
    rw [if_pos hj]
    exact h4
   refine .inl ⟨dY (c:=jw Tryz.f74) Tryz.func74 (by kernel_rfl) (by kernel_rfl) _ _,(callsIn_wide.1 (at_in Tryz.cl rfl a t.length c day _ _ _ _ _ (fun x=>(gD t x (zS .GRules)).Members) (by omega) w hI hmv hM)).mono ?_⟩
   rintro e w' ⟨hB,⟨rfl,hno⟩ | ⟨k,v,hk,⟨hd1,hd2⟩,hle,hno,rfl,hv⟩⟩
   ·have hy:y = (zS .GRules,false):=by
     cases hbad:(aa (day < 0)||aa (73049≤day)) with
     | true=>rw [hbad,cond_true] at hh;cases hh;rfl
     | false =>
      rw [hbad,cond_false] at hh
      simp only [Bool.or_eq_false_iff,aa,decide_eq_false_iff_not] at hbad
      rcases hno with h | h
      ·omega
      ·have:t.reverse.find? (fun r=>aa (r.From≤day)) = none:=by
        rw [List.find?_eq_none]
        intro r hr
        rw [List.mem_reverse] at hr
        obtain ⟨j,hj⟩:=List.getElem?_of_mem hr
        have hjl:=(List.getElem?_eq_some_iff.1 hj).1
        have:=h j hjl
        rw [vq hjl (zS .GRules)] at hj
        cases hj
        simp only [aa,decide_eq_true_eq]
        omega
       rw [this] at hh
       cases hh;rfl
    subst hy
    refine ⟨_,rfl,hB, ?_⟩
    show ai _ _ _ (.tup [.agg [.c (.lit (.int .i64 0)), .c (.lit (.int .i64 0)), .c (.lit (.int .i64 0)), .c (.lit (.int .i64 0)), .c (.sl (.i .i64) [])],bl false])
    refine .tup [_,_] _ rfl fun i v d hv hd=>?_
    match i with
    | 0 =>
     cases hv;cases hd
     refine .agg [_,_,_,_,_] _ rfl fun i v d hv hd=>?_
     match i with
     | 0=>cases hv;cases hd;exact .c _ _ (.lit _)
     | 1=>cases hv;cases hd;exact .c _ _ (.lit _)
     | 2=>cases hv;cases hd;exact .c _ _ (.lit _)
     | 3=>cases hv;cases hd;exact .c _ _ (.lit _)
     | 4=>cases hv;cases hd;exact .c _ _ (tZ (p:=fun _=>False) (fun _ h _=>h.elim) ⟨none,0,rfl,Nat.le_refl _,by unfold maxLen;omega,fun h=>absurd h (by decide)⟩)
     | i+5=>simp at hv
    | 1=>cases hv;cases hd;exact .c _ _ (.lit _)
    | i+2=>simp at hv
   ·have hy:y = (gD t k (zS .GRules),true):=by
     have hbad:(aa (day < 0)||aa (73049≤day)) = false:=by simp [aa];omega
     rw [hbad,cond_false,Jz (fun r:GRules=>aa (r.From≤day)) (vq hk (zS .GRules)) (by simpa [aa] using hle) fun j r hj hr=>?_] at hh
     ·cases hh;rfl
     ·have hjl:=(List.getElem?_eq_some_iff.1 hr).1
      have:=hno j hj hjl
      rw [vq hjl (zS .GRules)] at hr
      cases hr
      simp only [aa,decide_eq_false_iff_not]
      omega
    subst hy
    refine ⟨_,rfl,hB, ?_⟩
    generalize gD t k (zS .GRules) = r at hv ⊢
    show ai _ _ _ (.tup [.agg [.c (.lit (.int .i64 r.From)), .c (.lit (.int .i64 r.MinDays)), .c (.lit (.int .i64 r.PostingLimit)), .c (.lit (.int .i64 r.Substantial)), .c (.sl (.i .i64) r.Members)],bl true])
    refine .tup [_,_] _ rfl fun i v d hv hd=>?_
    match i with
    | 0 =>
     cases hv;cases hd
     refine .agg [_,_,_,_,_] _ rfl fun i v d hv hd=>?_
     match i with
     | 0=>cases hv;cases hd;exact .c _ _ (.lit _)
     | 1=>cases hv;cases hd;exact .c _ _ (.lit _)
     | 2=>cases hv;cases hd;exact .c _ _ (.lit _)
     | 3=>cases hv;cases hd;exact .c _ _ (.lit _)
     | 4=>cases hv;cases hd;exact .c _ _ (tZ (fun b hb hlt=>.inr ⟨hb,hlt⟩) (by assumption))
     | i+5=>simp at hv
    | 1=>cases hv;cases hd;exact .c _ _ (.lit _)
    | i+2=>simp at hv
end Go.Ax
