import Derived.Test.YtnnblpijaoocaaaGreatWBk
import Derived.Sort.EveryDepth
import Derived.Test.YtnnblpijaoocaaaGreatWLay
namespace Go.Proofs
open Go.RowKit Go.Shelf
attribute [local go_sem] Oper.semAt_some
def du (W:World) (B:Nat) (t:TypeId) (vs:Array Value):Prop:=W.heap[B]? = some (.cells vs t (0,0))
theorem du.lt {W:World} {B:Nat} {t:TypeId} {vs:Array Value} (h:du W B t vs):B < W.heap.size:=(Array.getElem?_eq_some_iff.1 h).1
theorem du.cell {W:World} {B:Nat} {t:TypeId} {vs:Array Value} (h:du W B t vs) (i:Nat):W.cell? ⟨B,i,none⟩ = vs[i]?:=by simp [World.cell?,show W.heap[B]? = _ from h]
theorem du.frozen {W:World} {B:Nat} {t:TypeId} {vs:Array Value} (h:du W B t vs) (i:Nat):W.frozen? ⟨B,i,none⟩ = false:=by simp [World.frozen?,show W.heap[B]? = _ from h]
theorem du.new (W:World) (t:TypeId) (vs:Array Value):du (W.alloc (.cells vs t)) W.heap.size t vs:=World.alloc_heap_new W _
theorem du.kept {W W':World} {row:Option Nat} {B:Nat} {t:TypeId} {vs:Array Value} (h:du W B t vs) (hg:W.grownBy W' row) (hne:some B≠row):du W' B t vs:=(hg.block B h.lt hne).trans h
theorem du.alloc {W:World} {B:Nat} {t:TypeId} {vs:Array Value} (h:du W B t vs) (o:Obj):du (W.alloc o) B t vs:=h.kept (World.grownBy_alloc W o none) (by simp)
theorem Av {β:Type} (B:Nat) (t:TypeId) (f:β→Array Value):Own (fun s W=>du W B t (f s)):=fun s X Y row hs hg hrow =>
 hs.kept hg (fun e'=>by obtain ⟨o,ho,hc⟩:=hrow B e'.symm;rw [show X.heap[B]? = _ from hs] at ho;cases ho;cases hc)
theorem du.set {W:World} {B:Nat} {t:TypeId} {vs:Array Value} (h:du W B t vs) (i:Nat) (u:Value):du (W.setCell ⟨B,i,none⟩ u) B t (vs.setIfInBounds i u):=by
 obtain ⟨hlt,hk⟩:=Array.getElem?_eq_some_iff.1 h
 show (W.heap.modify B _)[B]? = _
 rw [Array.getElem?_eq_getElem (by rw [Array.size_modify];exact hlt),Array.getElem_modify_self,hk]
 rfl
theorem du.other {W:World} {B:Nat} {t:TypeId} {vs:Array Value} (h:du W B t vs) (B' i:Nat) (u:Value) (hne:B≠B'):du (W.setCell ⟨B',i,none⟩ u) B t vs:=(Below.heap_setCell W ⟨B',i,none⟩ u B hne).trans h
theorem qi {W:World} {B:Nat} {t:TypeId} {v:Value} (h:Boxed W B t v) (B' i:Nat) (u:Value) (hne:B≠B'):Boxed (W.setCell ⟨B',i,none⟩ u) B t v:=(Below.heap_setCell W ⟨B',i,none⟩ u B hne).trans h
theorem Sr {B:Nat} {W W':World} (h:Below W.heap.size W W'):KeepsFrom B W W':=⟨h.size,fun k o _ hk _=>(h.block k (Array.getElem?_eq_some_iff.1 hk).1).trans hk⟩
theorem tq {B:Nat} {W W':World} (h:KeepsFrom B W W') (a:Addr) (v:Value):KeepsFrom B W (W'.setCell a v):=h.trans ((KeepsOthers.setCell _ _ _).from _)
theorem du.below {W W':World} {n B:Nat} {t:TypeId} {vs:Array Value} (h:du W B t vs) (hb:Below n W W') (hlt:B < n):du W' B t vs:=(hb.block B hlt).trans h
def iK (p:Nat→Prop) (W:World) (v:Value) (zs:List Int):Prop :=
 ∃ a c,v = .slice a zs.length c∧zs.length≤c∧c≤maxLen∧(0 < zs.length→∃ b off,a = some ⟨b,off,none⟩∧p b∧∀ j,j < zs.length→W.cell? ⟨b,off+j,none⟩ = some (.int .i64 (zs.getD j 0)))
theorem iK.below {n:Nat} {p:Nat→Prop} {A B:World} (h:Below n A B) (hp:∀ b,p b→b < n) {v:Value} {zs:List Int} (hi:iK p A v zs):iK p B v zs:=by
 obtain ⟨a,c,e,h1,h2,h3⟩:=hi
 refine ⟨a,c,e,h1,h2,fun h0=>?_⟩
 obtain ⟨b,off,e,hb,hc⟩:=h3 h0
 exact ⟨b,off,e,hb,fun j hj=>(h.cell (p:=⟨b,_,none⟩) (hp b hb)).trans (hc j hj)⟩
theorem B7 {β:Type} (p:Nat→Prop) (v:β→Value) (zs:β→List Int):Own (fun s W=>iK p W (v s) (zs s)):=by
 rintro s X Y row ⟨a,c,e,h1,h2,h3⟩ hg hrow
 refine ⟨a,c,e,h1,h2,fun h0=>?_⟩
 obtain ⟨b,off,e,hb,hc⟩:=h3 h0
 exact ⟨b,off,e,hb,fun j hj=>cell_kept (hc j hj) hg hrow⟩
theorem wA {p:Nat→Prop} {W:World} {n:Nat} {e:TypeId} {v:Value} {zs:List Int} (h:W.ownsRow n e 1 v zs.length (zs.map (Value.int .i64))) (hp:∀ b,n≤b→p b):iK p W v zs:=by
 obtain ⟨_,⟨rfl,h0⟩ | ⟨g,cap,cur,rfl,hg,hh,hc,hm,hs,ht⟩⟩:=h
 ·exact ⟨none,0,by rw [h0],by omega,by unfold maxLen;omega,fun h=>by omega⟩
 ·refine ⟨_,cap,rfl,hc,hm,fun _=>⟨g,0,rfl,hp g hg,fun j hj=>?_⟩⟩
  have:cur[j]? = some (.int .i64 (zs.getD j 0)):=by
   rw [← Array.getElem?_toList]
   have e1:(cur.toList.take (zs.length*1))[j]? = cur.toList[j]?:=by rw [List.getElem?_take];simp;omega
   rw [← e1,ht]
   simp [List.getD,List.getElem?_eq_getElem hj]
  simp [World.cell?,hh,this]
theorem JY (L:Lays2.n15 Tryz.prog Tryz.cl_ren) (hf:Tryz.cl_ren.f 15 = 111) {p:Nat→Prop} (v:Value) (zs:List Int) (w:World) (h:iK p w v zs) (hlen:zs.length*8≤140737488355328) :
  Calls Tryz.prog 111 #[v] w fun e w'=>∃ v',e = .returned v'∧iK (fun b=>w.heap.size≤b) w' v' zs∧Below w.heap.size w w':=by
 rw [← hf]
 obtain ⟨a,c,rfl,h1,h2,h3⟩:=h
 by_cases h0:0 < zs.length
 ·obtain ⟨b,off,rfl,_,hc⟩:=h3 h0
  refine (Any.slices_Clone_int L b off zs.length c zs w (Nat.le_refl _) hlen hc).mono ?_
  rintro e w' ⟨v',rfl,ho,_,hb⟩
  rw [List.take_length] at ho
  exact ⟨v',rfl,wA ho fun _ h=>h,hb⟩
 ·obtain rfl:zs = []:=by
   match zs,h0 with
   | [],_=>rfl
   | _ :: _,h=>simp at h
  match a with
  | none =>
   refine (Any.slices_Clone_int_nil L 0 c w).mono ?_
   rintro e w' ⟨rfl,rfl⟩
   exact ⟨_,rfl,⟨none,0,rfl,by simp,by unfold maxLen;omega,fun h=>by simp at h⟩,Below.refl _ _⟩
  | some ad =>
   refine (calls_of_every_depth fun D=>AnyS.slices_Clone_int_zero_in L D ad c w).mono ?_
   rintro e w' ⟨v',rfl,ho,_,hb⟩
   exact ⟨v',rfl,wA (zs:=[]) ho fun _ h=>h,hb⟩
theorem JU (day:Int) (w:World):Calls Tryz.prog 109 #[.int .i64 day] w fun e w'=>e = .returned (.bool (decide (0≤day)&&decide (day≤73048)))∧w' = w:=by
 go_enter Tryz.func109,Tryz.ntmps109
 go_wp2
 all_goals (go_ret;simp_all;try omega)
def ro:Value:=.agg #[.int .i64 0, .int .i64 0, .int .i64 0, .int .i64 0, .slice none 0 0]
set_option maxRecDepth 100000 in
set_option maxHeartbeats 4000000 in
theorem at_in (L:Lays2.n15 Tryz.prog Tryz.cl_ren) (hf:Tryz.cl_ren.f 15 = 111) (a:Option Addr) (len cap:Nat) (day:Int) (fr m1 m2 m3:Nat→Int) (mv:Nat→Value) (ms:Nat→List Int) (hreach:len*40≤140737488351232) (w:World)
    (hI:qn w.heap.size w a len fr m1 m2 m3 mv) (hM:∀ x,iK (fun b=>b < w.heap.size) w (mv x) (ms x)) (hlen:∀ x,(ms x).length*8≤140737488355328) :
    CallsIn Fence.wide 9 Tryz.prog 74 #[.slice a len cap, .int .i64 day] w fun e W'=>Below w.heap.size w W' ∧
      ((e = .returned (.tuple #[ro, .bool false])∧((day < 0∨73049≤day)∨∀ j,j < len→day < fr j)) ∨
       ∃ k v,k < len∧(0≤day∧day < 73049)∧fr k≤day∧(∀ j,k < j→j < len→day < fr j)∧e = .returned (.tuple #[.agg #[.int .i64 (fr k), .int .i64 (m1 k), .int .i64 (m2 k), .int .i64 (m3 k),v], .bool true])∧iK (fun b=>w.heap.size≤b) W' v (ms k)):=by
  have hro:Fence.wide.round = none:=rfl
  refine callsIn_of_wp_marks Tryz.func74 rfl trivial ?_ hro
  simp only [Tryz.ntmps74,List.size_toArray,List.length_cons,List.length_nil,Nat.reduceAdd,Nat.reduceSub,Array.replicate_succ,Array.replicate_zero,List.push_toArray,List.append_toArray,List.nil_append,List.cons_append]
  gi_wp2_with (first | (refine ⟨trivial, ?_⟩;gi_at_call 109;refine (callsIn_wide.2 (JU _ _)).mono ?_;rintro e w' ⟨rfl,rfl⟩) | (refine ⟨trivial, ?_⟩;gi_at_call 110;refine (PH Fence.wide _ trivial hro _ _ _ _).mono ?_;rintro e w' ⟨rfl,rfl⟩))
  · rename_i hbad
    have bR:=((du.new (w.alloc (.cells #[.int .i64 day] 3)) 42 #[.int .i64 0, .int .i64 0, .int .i64 0, .int .i64 0, .slice none 0 0])).alloc (.cells #[.bool false] 4)
    have bO:=Boxed.new ((w.alloc (.cells #[.int .i64 day] 3)).alloc (.cells #[.int .i64 0, .int .i64 0, .int .i64 0, .int .i64 0, .slice none 0 0] 42)) 4 (.bool false)
    simp only [World.size_alloc] at bR bO
    have r0:=bR.cell 0
    have r1:=bR.cell 1
    have r2:=bR.cell 2
    have r3:=bR.cell 3
    have r4:=bR.cell 4
    have o0:=bO.cell
    refine ⟨.tuple #[ro, .bool false], ?_,(((Below.refl _ w).alloc (Nat.le_refl _) _).alloc (by simp) _).alloc (by simp;omega) _, .inl ⟨rfl, .inl (by simp at hbad;omega)⟩⟩
    simp at r0 r1 r2 r3 r4
    simp [results,Tryz.f74,go_sem,r0,r1,r2,r3,r4,o0,ro]
  · rename_i hgood _ _
    have bD:=(((Boxed.new w 3 (.int .i64 day)).alloc (.cells #[.int .i64 0, .int .i64 0, .int .i64 0, .int .i64 0, .slice none 0 0] 42)).alloc (.cells #[.bool false] 4)).alloc (.cells #[.slice a len cap] 43)
    have bR:=(((du.new (w.alloc (.cells #[.int .i64 day] 3)) 42 #[.int .i64 0, .int .i64 0, .int .i64 0, .int .i64 0, .slice none 0 0])).alloc (.cells #[.bool false] 4)).alloc (.cells #[.slice a len cap] 43)
    have bO:=(Boxed.new ((w.alloc (.cells #[.int .i64 day] 3)).alloc (.cells #[.int .i64 0, .int .i64 0, .int .i64 0, .int .i64 0, .slice none 0 0] 42)) 4 (.bool false)).alloc (.cells #[.slice a len cap] 43)
    have bN:=Boxed.new (((w.alloc (.cells #[.int .i64 day] 3)).alloc (.cells #[.int .i64 0, .int .i64 0, .int .i64 0, .int .i64 0, .slice none 0 0] 42)).alloc (.cells #[.bool false] 4)) 43 (.slice a len cap)
    simp only [World.size_alloc] at bR bO bN
    have hB0:Below w.heap.size w ((((w.alloc (.cells #[.int .i64 day] 3)).alloc (.cells #[.int .i64 0, .int .i64 0, .int .i64 0, .int .i64 0, .slice none 0 0] 42)).alloc (.cells #[.bool false] 4)).alloc (.cells #[.slice a len cap] 43)) :=
      ((((Below.refl _ w).alloc (Nat.le_refl _) _).alloc (by simp) _).alloc (by simp;omega) _).alloc (by simp;omega) _
    have hsz:((((w.alloc (.cells #[.int .i64 day] 3)).alloc (.cells #[.int .i64 0, .int .i64 0, .int .i64 0, .int .i64 0, .slice none 0 0] 42)).alloc (.cells #[.bool false] 4)).alloc (.cells #[.slice a len cap] 43)).heap.size = w.heap.size+4:=by simp
    obtain ⟨W0,hW0⟩:∃ W0,(((w.alloc (.cells #[.int .i64 day] 3)).alloc (.cells #[.int .i64 0, .int .i64 0, .int .i64 0, .int .i64 0, .slice none 0 0] 42)).alloc (.cells #[.bool false] 4)).alloc (.cells #[.slice a len cap] 43) = W0:=⟨_,rfl⟩
    rw [hW0] at bD bR bO bN hB0 hsz ⊢
    clear hW0
    have hI0:qn W0.heap.size W0 a len fr m1 m2 m3 mv:=fun h0=>by
      obtain ⟨b,off,e,hb,hc⟩:=hI.below hB0 h0
      exact ⟨b,off,e,by omega,hc⟩
    refine wpIn_rangeFunc_ownH hro (by decide) (gf:=150) (lb:=#[.pointer (some ⟨w.heap.size+1+1+1,0,none⟩)]) rfl trivial (enters_of Tryz.func150 (by kernel_rfl) rfl)
      (Lj Fence.wide 8 trivial hro (by omega) (w.heap.size+1+1+1) W0.heap.size a len cap fr m1 m2 m3 mv hreach W0 (by omega) (Nat.le_refl _) bN.cell hI0) belowK_t (belowK_b (Nat.le_refl _)) (Below.refl _ _) (fun _=>rfl)
      (fun pre W=>((((∀ x∈pre,day < fr x)∧Boxed W w.heap.size 3 (.int .i64 day))∧du W (w.heap.size+1) 42 #[.int .i64 0, .int .i64 0, .int .i64 0, .int .i64 0, .slice none 0 0])∧Boxed W (w.heap.size+1+1) 4 (.bool false))∧Below w.heap.size W0 W)
      (fun c pre W=>((c = .ret∧∃ ini k v,pre = ini++[k]∧(∀ x∈ini,day < fr x)∧fr k≤day∧du W (w.heap.size+1) 42 #[.int .i64 (fr k), .int .i64 (m1 k), .int .i64 (m2 k), .int .i64 (m3 k),v]∧iK (fun b=>w.heap.size≤b) W v (ms k))∧Boxed W (w.heap.size+1+1) 4 (.bool true))∧Below w.heap.size w W)
      (OwnFrom.and (OwnFrom.and (OwnFrom.and (OwnFrom.and (ownFrom_pure _ _) (Own.from (boxed_own _ _ _) _)) (Own.from (Av _ _ _) _)) (Own.from (boxed_own _ _ _) _)) (ownFrom_below (by omega) (by omega)))
      (fun c=>OwnFrom.and (OwnFrom.and (Own.from (fun s A B row hs hg hr=>by
        obtain ⟨hc,ini,k,v,e1,e2,e3,hb,hi⟩:=hs
        exact ⟨hc,ini,k,v,e1,e2,e3,Av _ _ (fun _:Unit=>_) () A B row hb hg hr,B7 _ (fun _:Unit=>v) (fun _=>ms k) () A B row hi hg hr⟩) _) (Own.from (boxed_own _ _ _) _)) (ownFrom_below (Nat.le_refl _) (by omega)))
      ⟨⟨⟨⟨by simp,bD⟩,bR⟩,bO⟩,Below.refl _ _⟩
      (fun x a' W=>∃ Bx,W0.heap.size≤Bx∧du W Bx 42 #[.int .i64 (fr x), .int .i64 (m1 x), .int .i64 (m2 x), .int .i64 (m3 x),mv x]∧a' = { tmps:=#[.slice a len cap, .int .i64 day,undef, .pointer (some ⟨w.heap.size,0,none⟩), .pointer (some ⟨w.heap.size+1,0,none⟩), .pointer (some ⟨w.heap.size+1+1,0,none⟩),undef, .pointer (some ⟨Bx,0,none⟩), .int .i64 day,
        .bool (decide (0≤day)&&decide (day≤73048)), .bool false,undef, .slice a len cap, .func (.func 150) #[] #[.pointer (some ⟨w.heap.size+1+1+1,0,none⟩)], .int .i64 (x:Int), .agg #[.int .i64 (fr x), .int .i64 (m1 x), .int .i64 (m2 x), .int .i64 (m3 x),mv x],undef,undef,undef,undef,undef,undef,undef,undef,undef,undef],defers:=[] })
      (fun x a' _ X Y row hs hg hr=>by obtain ⟨Bx,e1,e2,e3⟩:=hs;exact ⟨Bx,e1,Av Bx 42 (fun (_:Unit)=>_) () X Y row e2 hg (fun r e=>(hr r e).2),e3⟩) ?assign ?body ?done ?stop
    case assign =>
      rintro l pre x W K ⟨⟨⟨⟨hp,bD⟩,bR⟩,bO⟩,hB⟩ hK
      obtain ⟨ma,mc,hmx,_⟩:=hM x
      rw [hmx] at hK ⊢
      gi_wp2
      have hs:=hB.size
      exact hK _ _ ((KeepsOthers.alloc _ _).from _) ((Below.refl _ W).alloc hs _) ⟨⟨⟨⟨hp,bD.alloc _⟩,bR.alloc _⟩,bO.alloc _⟩,hB.alloc (by omega) _⟩ ⟨W.heap.size,hs,du.new W 42 _,rfl⟩
    case body =>
      rintro l pre x a' W hl ⟨r,hr⟩ ⟨⟨⟨⟨hp,bD⟩,bR⟩,bO⟩,hB⟩ ⟨Bx,hBx,bX,rfl⟩ hlt
      have x0:W.cell? ⟨Bx,0,none⟩ = some (.int .i64 (fr x)):=bX.cell 0
      have x1:W.cell? ⟨Bx,1,none⟩ = some (.int .i64 (m1 x)):=bX.cell 1
      have x2:W.cell? ⟨Bx,2,none⟩ = some (.int .i64 (m2 x)):=bX.cell 2
      have x3:W.cell? ⟨Bx,3,none⟩ = some (.int .i64 (m3 x)):=bX.cell 3
      have x4:W.cell? ⟨Bx,4,none⟩ = some (mv x):=bX.cell 4
      have d0:=bD.cell
      have hMx:=(hM x).below (hB0.trans hB) fun _ h=>h
      gi_wp2_with (refine ⟨trivial, ?_⟩;gi_at_call 111;refine (CallsIn.inRound l (callsIn_wide.2 (JY L hf _ _ _ hMx (hlen x)))).mono ?_;rintro e w' ⟨v',rfl,⟨va,vc,rfl,hv⟩,hb⟩;have bX':=bX.below hb bX.lt;have bR':=bR.below hb bR.lt;have bO':Boxed w' (w.heap.size+1+1) 4 (.bool false):=(hb.block _ bO.lt).trans bO;have x0':w'.cell? ⟨Bx,0,none⟩ = some (.int .i64 (fr x)):=bX'.cell 0;have x1':w'.cell? ⟨Bx,1,none⟩ = some (.int .i64 (m1 x)):=bX'.cell 1;have x2':w'.cell? ⟨Bx,2,none⟩ = some (.int .i64 (m2 x)):=bX'.cell 2;have x3':w'.cell? ⟨Bx,3,none⟩ = some (.int .i64 (m3 x)):=bX'.cell 3;have x4':w'.cell? ⟨Bx,4,none⟩ = some (mv x):=bX'.cell 4;have f4':=bX'.frozen 4;have r0:w'.cell? ⟨w.heap.size+1,0,none⟩ = some (.int .i64 0):=bR'.cell 0;have r1:w'.cell? ⟨w.heap.size+1,1,none⟩ = some (.int .i64 0):=bR'.cell 1;have r2:w'.cell? ⟨w.heap.size+1,2,none⟩ = some (.int .i64 0):=bR'.cell 2;have r3:w'.cell? ⟨w.heap.size+1,3,none⟩ = some (.int .i64 0):=bR'.cell 3;have r4:w'.cell? ⟨w.heap.size+1,4,none⟩ = some (.slice none 0 0):=bR'.cell 4;have fr0:=bR'.frozen 0;have fr1:=bR'.frozen 1;have fr2:=bR'.frozen 2;have fr3:=bR'.frozen 3;have fr4:=bR'.frozen 4;have o0:=bO'.cell;have fo:=bO'.frozen)
      · have hx:fr x≤day:=by assumption
        have hs:=hB.size
        have hlx:=bX.lt
        have bRf:=((((((bR'.other Bx 4 (.slice va (ms x).length vc) (by omega)).set 0 (.int .i64 (fr x))).set 1 (.int .i64 (m1 x))).set 2 (.int .i64 (m2 x))).set 3 (.int .i64 (m3 x))).set 4 (.slice va (ms x).length vc)).other (w.heap.size+1+1) 0 (.bool true) (by omega)
        have bOf:=(qi (qi (qi (qi (qi (qi bO' Bx 4 (.slice va (ms x).length vc) (by omega)) (w.heap.size+1) 0 (.int .i64 (fr x)) (by omega)) (w.heap.size+1) 1 (.int .i64 (m1 x)) (by omega)) (w.heap.size+1) 2 (.int .i64 (m2 x)) (by omega)) (w.heap.size+1) 3 (.int .i64 (m3 x)) (by omega)) (w.heap.size+1) 4 (.slice va (ms x).length vc) (by omega)).set (.bool true)
        refine ⟨(tq (tq (tq (tq (tq (tq (tq (Sr hb) _ _) _ _) _ _) _ _) _ _) _ _) _ _),⟨⟨rfl,pre,x,_,rfl,hp,hx,bRf,va,vc,rfl,hv.1,hv.2.1,fun h0=>?_⟩,bOf⟩, ?_⟩
        · obtain ⟨b,off,e,hbb,hc⟩:=hv.2.2 h0
          refine ⟨b,off,e,by omega,fun j hj=>?_⟩
          rw [← hc j hj]
          refine World.cell?_of_block ?_
          show _ = w'.heap[b]?
          rw [Below.heap_setCell _ _ _ b (by show b≠w.heap.size+1+1;omega),Below.heap_setCell _ _ _ b (by show b≠w.heap.size+1;omega),Below.heap_setCell _ _ _ b (by show b≠w.heap.size+1;omega),Below.heap_setCell _ _ _ b (by show b≠w.heap.size+1;omega),Below.heap_setCell _ _ _ b (by show b≠w.heap.size+1;omega),Below.heap_setCell _ _ _ b (by show b≠w.heap.size+1;omega),Below.heap_setCell _ _ _ b (by show b≠Bx;omega)]
        · exact ((((((((hB0.trans hB).trans (hb.mono (by omega))).setCell (p:=⟨Bx,4,none⟩) (by show w.heap.size≤Bx;omega) _).setCell (p:=⟨w.heap.size+1,0,none⟩) (by show w.heap.size≤w.heap.size+1;omega) _).setCell (p:=⟨w.heap.size+1,1,none⟩) (by show w.heap.size≤w.heap.size+1;omega) _).setCell (p:=⟨w.heap.size+1,2,none⟩) (by show w.heap.size≤w.heap.size+1;omega) _).setCell (p:=⟨w.heap.size+1,3,none⟩) (by show w.heap.size≤w.heap.size+1;omega) _).setCell (p:=⟨w.heap.size+1,4,none⟩) (by show w.heap.size≤w.heap.size+1;omega) _).setCell (p:=⟨w.heap.size+1+1,0,none⟩) (by show w.heap.size≤w.heap.size+1+1;omega) _
      · have hx:day < fr x:=by assumption
        exact ⟨KeepsFrom.refl _ _,Below.refl _ _,⟨⟨⟨fun y hy=>(List.mem_append.1 hy).elim (hp y) (fun e=>by simp at e;subst e;exact hx),bD⟩,bR⟩,bO⟩,hB⟩
    case done =>
      rintro D ys W hD rfl ⟨⟨⟨⟨hp,bD⟩,bR⟩,bO⟩,hB⟩ hK
      have r0:W.cell? ⟨w.heap.size+1,0,none⟩ = some (.int .i64 0):=bR.cell 0
      have r1:W.cell? ⟨w.heap.size+1,1,none⟩ = some (.int .i64 0):=bR.cell 1
      have r2:W.cell? ⟨w.heap.size+1,2,none⟩ = some (.int .i64 0):=bR.cell 2
      have r3:W.cell? ⟨w.heap.size+1,3,none⟩ = some (.int .i64 0):=bR.cell 3
      have r4:W.cell? ⟨w.heap.size+1,4,none⟩ = some (.slice none 0 0):=bR.cell 4
      have fr0:=bR.frozen 0
      have fr1:=bR.frozen 1
      have fr2:=bR.frozen 2
      have fr3:=bR.frozen 3
      have fr4:=bR.frozen 4
      have o0:=bO.cell
      have fo:=bO.frozen
      gi_wp2
      have hs:=hB.size
      have bR:du W (w.heap.size+1) 42 #[.int .i64 0, .int .i64 0, .int .i64 0, .int .i64 0, .slice none 0 0]:=bR
      have bO:Boxed W (w.heap.size+1+1) 4 (.bool false):=bO
      have bRf:=(((((bR.set 0 (.int .i64 0)).set 1 (.int .i64 0)).set 2 (.int .i64 0)).set 3 (.int .i64 0)).set 4 (.slice none 0 0)).other (w.heap.size+1+1) 0 (.bool false) (by omega)
      have bOf:=(qi (qi (qi (qi (qi bO (w.heap.size+1) 0 (.int .i64 0) (by omega)) (w.heap.size+1) 1 (.int .i64 0) (by omega)) (w.heap.size+1) 2 (.int .i64 0) (by omega)) (w.heap.size+1) 3 (.int .i64 0) (by omega)) (w.heap.size+1) 4 (.slice none 0 0) (by omega)).set (.bool false)
      have hBf:=((((((hB0.trans hB).setCell (p:=⟨w.heap.size+1,0,none⟩) (by show w.heap.size≤w.heap.size+1;omega) (.int .i64 0)).setCell (p:=⟨w.heap.size+1,1,none⟩) (by show w.heap.size≤w.heap.size+1;omega) (.int .i64 0)).setCell (p:=⟨w.heap.size+1,2,none⟩) (by show w.heap.size≤w.heap.size+1;omega) (.int .i64 0)).setCell (p:=⟨w.heap.size+1,3,none⟩) (by show w.heap.size≤w.heap.size+1;omega) (.int .i64 0)).setCell (p:=⟨w.heap.size+1,4,none⟩) (by show w.heap.size≤w.heap.size+1;omega) (.slice none 0 0)).setCell (p:=⟨w.heap.size+1+1,0,none⟩) (by show w.heap.size≤w.heap.size+1+1;omega) (.bool false)
      have hKf:=(tq (tq (tq (tq (tq (tq (KeepsFrom.refl W0.heap.size W) ⟨w.heap.size+1,0,none⟩ (.int .i64 0)) ⟨w.heap.size+1,1,none⟩ (.int .i64 0)) ⟨w.heap.size+1,2,none⟩ (.int .i64 0)) ⟨w.heap.size+1,3,none⟩ (.int .i64 0)) ⟨w.heap.size+1,4,none⟩ (.slice none 0 0)) ⟨w.heap.size+1+1,0,none⟩ (.bool false)).same D _ hD hK rfl
      generalize ((((((W.setCell ⟨w.heap.size+1,0,none⟩ (.int .i64 0)).setCell ⟨w.heap.size+1,1,none⟩ (.int .i64 0)).setCell ⟨w.heap.size+1,2,none⟩ (.int .i64 0)).setCell ⟨w.heap.size+1,3,none⟩ (.int .i64 0)).setCell ⟨w.heap.size+1,4,none⟩ (.slice none 0 0)).setCell ⟨w.heap.size+1+1,0,none⟩ (.bool false)) = Wf at bRf bOf hBf hKf ⊢
      refine ⟨by simp, .inl ⟨_,_,rfl,run_takeDeferred hKf, ?_⟩⟩
      have bRg:=bRf.kept (grownBy_putObj' Wf D (.deferred none)) (by simp;omega)
      have bOg:=bOf.kept (grownBy_putObj' Wf D (.deferred none)) (by simp;omega)
      have g0:=bRg.cell 0
      have g1:=bRg.cell 1
      have g2:=bRg.cell 2
      have g3:=bRg.cell 3
      have g4:=bRg.cell 4
      have g5:=bOg.cell
      simp at g0 g1 g2 g3 g4
      refine ⟨.tuple #[ro, .bool false], ?_,hBf.trans (belowK_b (w:=w) (Nat.le_refl _) Wf D _ _ (by omega) hKf rfl rfl), .inl ⟨rfl, .inr fun j hj=>hp j ?_⟩⟩
      · simp [results,Tryz.f74,go_sem,g0,g1,g2,g3,g4,g5,ro]
      · simp only [iQ,List.mem_map,List.mem_range]
        exact ⟨len - 1 - j,by omega,by omega⟩
    case stop =>
      rintro D c pre W hD ⟨k,hk,rfl⟩ ⟨⟨⟨rfl,ini,k',v,e1,e2,e3,bR,hv⟩,bO⟩,hB⟩ hK
      gi_wp2
      have bR:du W (w.heap.size+1) 42 #[.int .i64 (fr k'), .int .i64 (m1 k'), .int .i64 (m2 k'), .int .i64 (m3 k'),v]:=bR
      have bO:Boxed W (w.heap.size+1+1) 4 (.bool true):=bO
      refine ⟨by simp, .inl ⟨_,_,rfl,run_takeDeferred hK, ?_⟩⟩
      have bRg:=bR.kept (grownBy_putObj' W D (.deferred none)) (by simp;omega)
      have bOg:=bO.kept (grownBy_putObj' W D (.deferred none)) (by simp;omega)
      have g0:(W.putObj D (.deferred none)).cell? ⟨w.heap.size+1,0,none⟩ = some (.int .i64 (fr k')):=bRg.cell 0
      have g1:(W.putObj D (.deferred none)).cell? ⟨w.heap.size+1,1,none⟩ = some (.int .i64 (m1 k')):=bRg.cell 1
      have g2:(W.putObj D (.deferred none)).cell? ⟨w.heap.size+1,2,none⟩ = some (.int .i64 (m2 k')):=bRg.cell 2
      have g3:(W.putObj D (.deferred none)).cell? ⟨w.heap.size+1,3,none⟩ = some (.int .i64 (m3 k')):=bRg.cell 3
      have g4:(W.putObj D (.deferred none)).cell? ⟨w.heap.size+1,4,none⟩ = some (v):=bRg.cell 4
      have g5:=bOg.cell
      obtain ⟨m,rfl⟩:∃ m,k = m+1:=by
        cases k with
        | zero=>simp [iQ] at e1
        | succ m=>exact ⟨m,rfl⟩
      rw [tf] at e1
      obtain ⟨rfl,e5⟩:=List.append_inj' e1 rfl
      obtain rfl:len - 1 - m = k':=by simpa using e5
      refine ⟨.tuple #[.agg #[.int .i64 (fr (len - 1 - m)), .int .i64 (m1 (len - 1 - m)), .int .i64 (m2 (len - 1 - m)), .int .i64 (m3 (len - 1 - m)),v], .bool true], ?_,hB.trans (belowK_b (w:=w) (Nat.le_refl _) W D _ _ (by omega) hK rfl rfl),
        .inr ⟨len - 1 - m,v,by omega,by simp at hgood;omega,e3,fun j h1 h2=>e2 j ?_,rfl,B7 _ (fun _:Unit=>v) (fun _=>ms (len - 1 - m)) () _ _ _ hv (grownBy_putObj' W D (.deferred none)) (fun r e=>by cases e;exact ⟨_,hK,rfl⟩)⟩⟩
      · simp [results,Tryz.f74,go_sem,g0,g1,g2,g3,g4,g5]
      · simp only [iQ,List.mem_map,List.mem_range]
        exact ⟨len - 1 - j,by omega,by omega⟩
end Go.Proofs
