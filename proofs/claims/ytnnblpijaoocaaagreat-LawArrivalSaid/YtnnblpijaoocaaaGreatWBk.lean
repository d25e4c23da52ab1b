import Derived.RangeFuncNested
import Derived.RangeFuncBound
import Derived.RangeFuncBox
import Derived.RangeFuncCalls
import Derived.RangeFuncLeaves
import Derived.Shelf.Abstract
import Derived.Shelf.RegionOpen
import Derived.WalkKit
import Derived.OwnWalkIn
import Derived.TacticsInMore
import Derived.LoopNIn
import Derived.LoopIn
import Derived.Shelf.Slices.Clone
import Derived.Shelf.Slices.In.Clone
import Derived.Test.YtnnblpijaoocaaaGreatProg
namespace Go.Proofs
open Go.RowKit Go.Shelf
attribute [local go_sem] Oper.semAt_some
def iQ (len k:Nat):List Nat:=(List.range k).map fun i=>len - 1 - i
theorem tf (len k:Nat):iQ len (k+1) = iQ len k++[len - 1 - k]:=by simp [iQ,List.range_succ]
theorem Gc (len k:Nat):(iQ len k).length = k:=by simp [iQ]
set_option maxRecDepth 100000 in
set_option maxHeartbeats 2000000 in
theorem back1_in (F:Fence) (n:Nat) (h15:F.fn 150) (hro:F.round = none) (hn:1≤n) (l Bs n₀ b off len cap:Nat) (fr m1 m2 m3:Nat→Int) (mv:Nat→Value) (hreach:len*40≤140737488351232) (hb:b < n₀) (J Jx:List Nat→World→Prop)
  (hY:∀ pre (x:Nat) W,J pre W→pre.length < len→YieldAt F (n - 1) Tryz.prog l #[.int .i64 (x:Int), .agg #[.int .i64 (fr x), .int .i64 (m1 x), .int .i64 (m2 x), .int .i64 (m3 x),mv x]] W fun e W' =>
   (e = .returned (.bool true)∧J (pre++[x]) W'∧Below n₀ W W')∨(e = .returned (.bool false)∧Jx (pre++[x]) W'))
  (W:World) (hBs:W.cell? ⟨Bs,0,none⟩ = some (.slice (some ⟨b,off,none⟩) len cap)) (hBn:Bs < n₀)
  (hc0:∀ j,j < len→W.cell? ⟨b,off+j*5,none⟩ = some (.int .i64 (fr j))) (hc1:∀ j,j < len→W.cell? ⟨b,off+j*5+1,none⟩ = some (.int .i64 (m1 j)))
  (hc2:∀ j,j < len→W.cell? ⟨b,off+j*5+2,none⟩ = some (.int .i64 (m2 j))) (hc3:∀ j,j < len→W.cell? ⟨b,off+j*5+3,none⟩ = some (.int .i64 (m3 j)))
  (hc4:∀ j,j < len→W.cell? ⟨b,off+j*5+4,none⟩ = some (mv j)) (h0:J [] W) :
  CallsIn F n Tryz.prog 150 #[.func (.yield l) #[] #[], .pointer (some ⟨Bs,0,none⟩)] W fun e W'=>(∃ v,e = .returned v) ∧
   ((∃ ys,ys = iQ len len∧J ys W')∨(∃ pre,(∃ k,k≤len∧pre = iQ len k)∧Jx pre W')):=by
 refine callsIn_of_wp Tryz.func150 rfl h15 ?_ hro
 simp only [Tryz.ntmps150,List.size_toArray,List.length_cons,List.length_nil,Nat.reduceAdd,Nat.reduceSub,Array.replicate_succ,Array.replicate_zero,List.push_toArray,List.append_toArray,List.nil_append,List.cons_append]
 gi_wp2
 gi_loopw [3] (fun i wr=>∃ k:Nat,k≤len∧i = .int .i64 ((len:Int) - 1 - k)∧J (iQ len k) wr∧Below n₀ W wr)
  (fun i _=>(intOf i+1).toNat)
 case atStart=>exact ⟨0,Nat.zero_le _,by simp,h0,Below.refl _ _⟩
 case round =>
  obtain ⟨k,hk,rfl,hJs,hnx⟩:=hrel
  have hBs':=(hnx.cell (p:=⟨Bs,0,none⟩) hBn).trans hBs
  by_cases hlt:k < len
  ·have e1:((len:Int) - 1 - k) = ((len - 1 - k:Nat):Int):=by omega
   rw [e1]
   obtain ⟨j,hj⟩:∃ j,len - 1 - k = j:=⟨_,rfl⟩
   rw [hj]
   have hjl:j < len:=by omega
   have c0:=(hnx.cell (p:=⟨b,off+j*5,none⟩) hb).trans (hc0 j hjl)
   have c1:=(hnx.cell (p:=⟨b,off+j*5+1,none⟩) hb).trans (hc1 j hjl)
   have c2:=(hnx.cell (p:=⟨b,off+j*5+2,none⟩) hb).trans (hc2 j hjl)
   have c3:=(hnx.cell (p:=⟨b,off+j*5+3,none⟩) hb).trans (hc3 j hjl)
   have c4:=(hnx.cell (p:=⟨b,off+j*5+4,none⟩) hb).trans (hc4 j hjl)
   obtain ⟨fn,tmps,assign,body,hy,hR⟩:=hY _ j wr hJs (by rw [Gc];exact hlt)
   gi_wp2
   refine hR.mono ?_
   rintro e W3 (⟨rfl,hJ3,hk3⟩ | ⟨rfl,hJx3⟩)
   ·gi_wp2
    go_roundw
    case rel=>exact ⟨k+1,by omega,by simp;omega,by rw [tf,hj];exact hJ3,hnx.trans hk3⟩
    case measure=>first | (simp [intOf];done) | (simp [intOf];omega)
   ·gi_wp2
    refine bodyPost_ret (results_none rfl _ _ _) rfl ?_
    exact ⟨⟨_,rfl⟩, .inr ⟨_,⟨k+1,by omega,by rw [tf,hj]⟩,hJx3⟩⟩
  ·obtain rfl:k = len:=by omega
   gi_wp2
   go_end0
   exact ⟨⟨_,rfl⟩, .inl ⟨_,rfl,hJs⟩⟩
set_option maxRecDepth 100000 in
set_option maxHeartbeats 1000000 in
theorem back1_nil_in (F:Fence) (n:Nat) (h15:F.fn 150) (hro:F.round = none) (l Bs:Nat) (a:Option Addr) (cap:Nat) (J:List Nat→World→Prop) (W:World) (hBs:W.cell? ⟨Bs,0,none⟩ = some (.slice a 0 cap)) (h0:J [] W) :
  CallsIn F n Tryz.prog 150 #[.func (.yield l) #[] #[], .pointer (some ⟨Bs,0,none⟩)] W fun e W'=>(∃ v,e = .returned v)∧J [] W':=by
 refine callsIn_of_wp Tryz.func150 rfl h15 ?_ hro
 simp only [Tryz.ntmps150,List.size_toArray,List.length_cons,List.length_nil,Nat.reduceAdd,Nat.reduceSub,Array.replicate_succ,Array.replicate_zero,List.push_toArray,List.append_toArray,List.nil_append,List.cons_append]
 gi_wp2
 gi_loopw [3] (fun i wr=>i = .int .i64 (-1)∧J [] wr) (fun _ _=>0)
 case atStart=>exact ⟨rfl,h0⟩
 case round =>
  obtain ⟨rfl,hJs⟩:=hrel
  gi_wp2
  go_end0
  exact ⟨⟨_,rfl⟩,hJs⟩
set_option maxHeartbeats 1000000 in
theorem PH (F:Fence) (n:Nat) (h6:F.fn 110) (hro:F.round = none) (a:Option Addr) (len cap:Nat) (w:World) :
  CallsIn F n Tryz.prog 110 #[.slice a len cap] w fun e w'=>e = .returned (.func (.func 150) #[] #[.pointer (some ⟨w.heap.size,0,none⟩)])∧w' = w.alloc (.cells #[.slice a len cap] 43):=by
 refine callsIn_of_wp Tryz.func110 rfl h6 ?_ hro
 simp only [Tryz.ntmps110,List.size_toArray,List.length_cons,List.length_nil,Nat.reduceAdd,Nat.reduceSub,Array.replicate_succ,Array.replicate_zero,List.push_toArray,List.append_toArray,List.nil_append,List.cons_append]
 gi_wp2
 go_ret
 exact ⟨rfl,rfl⟩
def qn (n₀:Nat) (W:World) (a:Option Addr) (len:Nat) (fr m1 m2 m3:Nat→Int) (mv:Nat→Value):Prop :=
 0 < len→∃ b off,a = some ⟨b,off,none⟩∧b < n₀∧∀ j,j < len→W.cell? ⟨b,off+j*5,none⟩ = some (.int .i64 (fr j))∧W.cell? ⟨b,off+j*5+1,none⟩ = some (.int .i64 (m1 j)) ∧
  W.cell? ⟨b,off+j*5+2,none⟩ = some (.int .i64 (m2 j))∧W.cell? ⟨b,off+j*5+3,none⟩ = some (.int .i64 (m3 j))∧W.cell? ⟨b,off+j*5+4,none⟩ = some (mv j)
theorem qn.below {n₀:Nat} {A B:World} (h:Below n₀ A B) {a:Option Addr} {len:Nat} {fr m1 m2 m3:Nat→Int} {mv:Nat→Value} (hr:qn n₀ A a len fr m1 m2 m3 mv):qn n₀ B a len fr m1 m2 m3 mv:=fun h0=>by
 obtain ⟨b,off,e,hb,hc⟩:=hr h0
 exact ⟨b,off,e,hb,fun j hj=>⟨(h.cell (p:=⟨b,_,none⟩) hb).trans (hc j hj).1,(h.cell (p:=⟨b,_,none⟩) hb).trans (hc j hj).2.1,(h.cell (p:=⟨b,_,none⟩) hb).trans (hc j hj).2.2.1,(h.cell (p:=⟨b,_,none⟩) hb).trans (hc j hj).2.2.2.1,(h.cell (p:=⟨b,_,none⟩) hb).trans (hc j hj).2.2.2.2⟩⟩
theorem Lj (F:Fence) (n:Nat) (h15:F.fn 150) (hro:F.round = none) (hn:1≤n) (Bs n₀:Nat) (a:Option Addr) (len cap:Nat) (fr m1 m2 m3:Nat→Int) (mv:Nat→Value) (hreach:len*40≤140737488351232) (w:World) (hBs:Bs < n₀) (hn₀:n₀≤w.heap.size)
  (hc:w.cell? ⟨Bs,0,none⟩ = some (.slice a len cap)) (hI:qn n₀ w a len fr m1 m2 m3 mv) :
  SeqStopsK F n Tryz.prog 150 #[.pointer (some ⟨Bs,0,none⟩)] (fun x:Nat=>#[Value.int .i64 (x:Int), .agg #[.int .i64 (fr x), .int .i64 (m1 x), .int .i64 (m2 x), .int .i64 (m3 x),mv x]]) (Below n₀) (fun ys=>ys = iQ len len)
   (fun pre=>∃ k,k≤len∧pre = iQ len k) len w:=fun l J Jx W hW _ _ hY h0=>by
 have hc':=(hW.cell (p:=⟨Bs,0,none⟩) (Nat.lt_of_lt_of_le hBs hn₀)).trans hc
 have hI':=hI.below (hW.mono hn₀)
 by_cases hl:0 < len
 ·obtain ⟨b,off,rfl,hb,hcs⟩:=hI' hl
  exact back1_in F n h15 hro hn l Bs n₀ b off len cap fr m1 m2 m3 mv hreach hb J Jx hY W hc' hBs (fun j hj=>(hcs j hj).1) (fun j hj=>(hcs j hj).2.1) (fun j hj=>(hcs j hj).2.2.1) (fun j hj=>(hcs j hj).2.2.2.1) (fun j hj=>(hcs j hj).2.2.2.2) h0
 ·obtain rfl:len = 0:=by omega
  exact (back1_nil_in F n h15 hro l Bs a cap J W hc' h0).mono fun e W' ⟨he,hj⟩=>⟨he, .inl ⟨_,rfl,hj⟩⟩
end Go.Proofs
