import Derived.Test.YtnnblpijaoocaaaGreatWHd
import Derived.Test.YtnnblpijaoocaaaGreatWLay
import Derived.LoopN
import Derived.Deep.RegionHeld3
import Derived.WalkKit
import Derived.Deep.QuietTactic
set_option linter.all false
set_option maxRecDepth 100000
/- slices.SortFunc of postings. -/
namespace Go.Ax
open Go.Proofs Go.Proofs.YtnnblpijaoocaaaGreat Go.RowKit Go.Shelf Go.Lib Go.Sort
def Ms (x y z:Int):Int:=if x = 0 then (if y = 0 then z else y) else x
theorem OH (W:World) (x:Int):Calls Tryz.prog 67 #[.int .i64 x] W fun e w'=>e = .returned (.bool false)∧w' = W:=by
 go_enter Tryz.func67,Tryz.ntmps67
 go_wp2
 go_ret
 exact ⟨by simp,rfl⟩
theorem OK (W:World) (x y:Int):Calls Tryz.prog 37 #[.int .i64 x, .int .i64 y] W fun e w'=>e = .returned (.int .i64 (Lib.compareInt x y))∧w' = W:=by
 go_enter Tryz.func37,Tryz.ntmps37
 go_wp2_with (refine (OH _ _).mono ?_;rintro e w' ⟨rfl,hw⟩;rw [hw])
 all_goals (go_ret;refine ⟨?_,rfl⟩;unfold Lib.compareInt; (repeat' split) <;> first | rfl | (exfalso;omega))
theorem Qw (W:World) (b:Nat) (x y z:Int) (c0:W.cell? ⟨b,0,none⟩ = some (.int .i64 x)) (c1:W.cell? ⟨b,1,none⟩ = some (.int .i64 y)) (c2:W.cell? ⟨b,2,none⟩ = some (.int .i64 z)) :
  Calls Tryz.prog 36 #[.slice (some ⟨b,0,none⟩) 3 3] W fun e w'=>e = .returned (.int .i64 (Ms x y z))∧w' = W:=by
 go_enter Tryz.func36,Tryz.ntmps36
 go_wp2_with (first | (refine wp_loop_rounds 4 ?_;unfold Code.rounds) | unfold Code.rounds)
 all_goals (go_ret;simp_all [Ms])
theorem qK (W:World) (C:Array Value) (t:TypeId) (i:Nat) {b:Nat} (hb:b = W.heap.size):(W.alloc (.cells C t)).cell? ⟨b,i,none⟩ = C[i]?:=by
 subst hb
 simp only [World.cell?,heap_alloc_new]
 simp
theorem Oe (W:World) (o:Obj) {b:Nat} (i:Nat) (h:b < W.heap.size):(W.alloc o).cell? ⟨b,i,none⟩ = W.cell? ⟨b,i,none⟩:=World.cell?_of_block (heap_alloc_old W o h)
def Gw (W w:World):Prop:=∃ q os',w = Sort.grow (W.drewN q) os'
theorem Gw.refl (W:World):Gw W W:=⟨0, #[],by simp [Sort.grow,World.drewN]⟩
theorem Gw.alloc {W w:World} (h:Gw W w) (o:Obj):Gw W (w.alloc o):=by
 obtain ⟨q,os,rfl⟩:=h
 exact ⟨q,os.push o,by simp [Sort.grow,World.alloc]⟩
theorem Gw.drew {W w:World} (h:Gw W w):Gw W w.drew:=by
 obtain ⟨q,os,rfl⟩:=h
 exact ⟨q+1,os,by simp [Sort.grow,World.drew,World.drewN];omega⟩
set_option maxHeartbeats 4000000 in
theorem ME (W:World) (s1 t1 f1 e1 s2 t2 f2 e2:Int):Calls Tryz.prog 35 #[.agg #[.int .i64 s1, .int .i64 t1, .int .i64 f1, .int .i64 e1], .agg #[.int .i64 s2, .int .i64 t2, .int .i64 f2, .int .i64 e2]] W fun e w' =>
  e = .returned (.int .i64 (Ms (Lib.compareInt f1 f2) (Lib.compareInt s1 s2) (Lib.compareInt t1 t2)))∧∃ q os',w' = Sort.grow (W.drewN q) os':=by
 have a_:∀ i,((W.alloc (.cells #[.int .i64 s1, .int .i64 t1, .int .i64 f1, .int .i64 e1] 32)).alloc (.cells #[.int .i64 s2, .int .i64 t2, .int .i64 f2, .int .i64 e2] 32)).cell? ⟨W.heap.size,i,none⟩ = (#[.int .i64 s1, .int .i64 t1, .int .i64 f1, .int .i64 e1]:Array Value)[i]?:=fun i=>by
  rw [Oe _ _ _ (by simp),qK _ _ _ _ rfl]
 have b_:∀ i,((W.alloc (.cells #[.int .i64 s1, .int .i64 t1, .int .i64 f1, .int .i64 e1] 32)).alloc (.cells #[.int .i64 s2, .int .i64 t2, .int .i64 f2, .int .i64 e2] 32)).cell? ⟨W.heap.size+1,i,none⟩ = (#[.int .i64 s2, .int .i64 t2, .int .i64 f2, .int .i64 e2]:Array Value)[i]?:=fun i=>by
  rw [qK _ _ _ _ (by simp)]
 have a0:=a_ 0
 have a1:=a_ 1
 have a2:=a_ 2
 have b0:=b_ 0
 have b1:=b_ 1
 have b2:=b_ 2
 clear a_ b_
 simp only [List.getElem?_toArray,List.getElem?_cons_zero,List.getElem?_cons_succ] at a0 a1 a2 b0 b1 b2
 go_enter Tryz.func35,Tryz.ntmps35
 go_wp2
 go_region_held (fun w'=>w'.cell? ⟨W.heap.size,0,none⟩ = some (.int .i64 s1)∧w'.cell? ⟨W.heap.size,1,none⟩ = some (.int .i64 t1)∧w'.cell? ⟨W.heap.size,2,none⟩ = some (.int .i64 f1)∧w'.cell? ⟨W.heap.size+1,0,none⟩ = some (.int .i64 s2)∧w'.cell? ⟨W.heap.size+1,1,none⟩ = some (.int .i64 t2)∧w'.cell? ⟨W.heap.size+1,2,none⟩ = some (.int .i64 f2)) (go_keep)
  (first | (go_at_call 37;refine (OK _ _ _).mono ?_;rintro e w' ⟨rfl,rfl⟩) | (go_at_call 36;refine (Qw _ _ _ _ _ (qK _ _ _ _ (by simp)) (qK _ _ _ _ (by simp)) (qK _ _ _ _ (by simp))).mono ?_;rintro e w' ⟨rfl,rfl⟩))
 all_goals go_wp2
 all_goals (go_ret;refine ⟨rfl, ?_⟩; (repeat' (first | exact Gw.refl _ | refine Gw.alloc ?_ _ | refine Gw.drew ?_)))
def Hf (a b:GPosting):Int:=Ms (Lib.compareInt a.Span.From b.Span.From) (Lib.compareInt a.Seat b.Seat) (Lib.compareInt a.State b.State)
theorem E9:ltOf Hf = dw:=by
 funext a b
 have key:∀ x y:Int,(Lib.compareInt x y = -1∧x < y)∨(Lib.compareInt x y = 0∧x = y)∨(Lib.compareInt x y = 1∧y < x):=fun x y=>by
  unfold Lib.compareInt
  by_cases h:x < y
  ·exact .inl ⟨by simp [h],h⟩
  ·by_cases h2:x = y
   ·exact .inr (.inl ⟨by simp [h2],h2⟩)
   ·exact .inr (.inr ⟨by rw [if_neg h,if_pos (by omega)],by omega⟩)
 unfold ltOf Hf dw Ms
 have k1:=key a.Span.From b.Span.From
 have k2:=key a.Seat b.Seat
 have k3:=key a.State b.State
 generalize Lib.compareInt a.Span.From b.Span.From = c1 at *
 generalize Lib.compareInt a.Seat b.Seat = c2 at *
 generalize Lib.compareInt a.State b.State = c3 at *
 generalize a.Span.From = x1 at *
 generalize b.Span.From = y1 at *
 rw [Bool.eq_iff_iff]
 simp only [aa,af,decide_eq_true_eq,Bool.or_eq_true,Bool.and_eq_true,beq_iff_eq]
 split
 ·split
  ·omega
  ·omega
 ·omega
theorem BH:SWO dw:=by
 refine ⟨fun x=>by simp [dw,aa],fun x y z h1 h2=>?_,fun x y z h1 h2=>?_⟩
 ·simp only [dw,aa,af,Bool.or_eq_true,Bool.and_eq_true,decide_eq_true_eq,beq_iff_eq] at *
  omega
 ·simp only [dw,aa,af,Bool.or_eq_false_iff,Bool.and_eq_false_iff,decide_eq_false_iff_not,beq_eq_false_iff_ne,ne_eq] at *
  omega
theorem IG (x:GPosting):∀ u∈(Ty.st .GPosting).lits x,u.oneCell' = true:=by
 intro v hv
 have e:(Ty.st .GPosting).lits x = [.int .i64 x.Seat, .int .i64 x.State, .int .i64 x.Span.From, .int .i64 x.Span.To]:=rfl
 rw [e] at hv
 simp only [List.mem_cons,List.not_mem_nil,or_false] at hv
 rcases hv with rfl | rfl | rfl | rfl <;> rfl
instance post_i:Inhabited (Ty.st SK.GPosting).T:=⟨zS SK.GPosting⟩
theorem O2:yb Tryz.prog 34 35 (Ty.st SK.GPosting).k (Ty.st SK.GPosting).lits (dw:(Ty.st SK.GPosting).T→(Ty.st SK.GPosting).T→Bool):=by
 have h:=IH (T:=(Ty.st SK.GPosting).T) (enc:=(Ty.st SK.GPosting).lits) (k:=(Ty.st SK.GPosting).k) (g:=35) (cf:=Hf) (ρ:=Tryz.sf_ren) { Tryz.sf with } (f:=34) (by kernel_rfl) (enters_of (c:=jw Tryz.f34) Tryz.func34 (by kernel_rfl) (by kernel_rfl)) (fun _=>by kernel_rfl) (fun _=>by kernel_rfl)
  (fun x=>by rw [Ty.lits,List.length_map,gI]) IG (by rw [E9];exact BH) (enters_of (c:=jw Tryz.f35) Tryz.func35 (by kernel_rfl) (by kernel_rfl)) (fun W x y=>ME W _ _ _ _ _ _ _ _)
 rw [E9] at h
 exact h
theorem So (X:XT) (hX:True):aQ Tryz.prog 34 (rI X (.mut (fun _=>zi 35 32 (.st .GPosting) dK))) :=
 Hh (ty:=.st .GPosting) (lt:=(dw:(Ty.st SK.GPosting).T→(Ty.st SK.GPosting).T→Bool)) BH (by decide) (by decide) (fun x=>rfl) IG (fun l=>rfl) O2
end Go.Ax
