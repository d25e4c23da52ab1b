import Derived.Test.YtbjfcadcipfolaaGreatYHd
import Derived.Test.YtbjfcadcipfolaaGreatYLay
import Derived.LoopN
import Derived.Deep.RegionHeld3
import Derived.WalkKit
import Derived.Deep.QuietTactic
set_option linter.all false
set_option maxRecDepth 100000
/- slices.SortFunc of claims. -/
namespace Go.Ax
open Go.Proofs Go.Proofs.YtbjfcadcipfolaaGreat Go.RowKit Go.Shelf Go.Lib Go.Sort
def MZ (a b c d e f:Int):Int:=if a = 0 then (if b = 0 then (if c = 0 then (if d = 0 then (if e = 0 then f else e) else d) else c) else b) else a
theorem OM (W:World) (x:Int):Calls Tryz.prog 145 #[.int .i64 x] W fun e w'=>e = .returned (.bool false)∧w' = W:=by
 go_enter Tryz.func145,Tryz.ntmps145
 go_wp2
 go_ret
 exact ⟨by simp,rfl⟩
theorem Pp (W:World) (x y:Int):Calls Tryz.prog 112 #[.int .i64 x, .int .i64 y] W fun e w'=>e = .returned (.int .i64 (Lib.compareInt x y))∧w' = W:=by
 go_enter Tryz.func112,Tryz.ntmps112
 go_wp2_with (refine (OM _ _).mono ?_;rintro e w' ⟨rfl,hw⟩;rw [hw])
 all_goals (go_ret;refine ⟨?_,rfl⟩;unfold Lib.compareInt; (repeat' split) <;> first | rfl | (exfalso;omega))
theorem Qe (W:World) (b:Nat) (x y z u v t:Int) (c0:W.cell? ⟨b,0,none⟩ = some (.int .i64 x)) (c1:W.cell? ⟨b,1,none⟩ = some (.int .i64 y)) (c2:W.cell? ⟨b,2,none⟩ = some (.int .i64 z)) (c3:W.cell? ⟨b,3,none⟩ = some (.int .i64 u)) (c4:W.cell? ⟨b,4,none⟩ = some (.int .i64 v)) (c5:W.cell? ⟨b,5,none⟩ = some (.int .i64 t)) :
  Calls Tryz.prog 111 #[.slice (some ⟨b,0,none⟩) 6 6] W fun e w'=>e = .returned (.int .i64 (MZ x y z u v t))∧w' = W:=by
 go_enter Tryz.func111,Tryz.ntmps111
 go_wp2_with (first | (refine wp_loop_rounds 7 ?_;unfold Code.rounds) | unfold Code.rounds)
 all_goals (go_ret;simp_all [MZ])
theorem li (W:World) (C:Array Value) (t:TypeId) (i:Nat) {b:Nat} (hb:b = W.heap.size):(W.alloc (.cells C t)).cell? ⟨b,i,none⟩ = C[i]?:=by
 subst hb
 simp only [World.cell?,heap_alloc_new]
 simp
theorem OD (W:World) (o:Obj) {b:Nat} (i:Nat) (h:b < W.heap.size):(W.alloc o).cell? ⟨b,i,none⟩ = W.cell? ⟨b,i,none⟩:=World.cell?_of_block (heap_alloc_old W o h)
def Gw (W w:World):Prop:=∃ q os',w = Sort.grow (W.drewN q) os'
theorem Gw.refl (W:World):Gw W W:=⟨0, #[],by simp [Sort.grow,World.drewN]⟩
theorem Gw.alloc {W w:World} (h:Gw W w) (o:Obj):Gw W (w.alloc o):=by
 obtain ⟨q,os,rfl⟩:=h
 exact ⟨q,os.push o,by simp [Sort.grow,World.alloc]⟩
theorem Gw.drew {W w:World} (h:Gw W w):Gw W w.drew:=by
 obtain ⟨q,os,rfl⟩:=h
 exact ⟨q+1,os,by simp [Sort.grow,World.drew,World.drewN];omega⟩
set_option maxHeartbeats 8000000 in
theorem Na (W:World) (a0 a1 a2 a3 a4 a5 b0 b1 b2 b3 b4 b5:Int):Calls Tryz.prog 74 #[.agg #[.int .i64 a0, .int .i64 a1, .int .i64 a2, .int .i64 a3, .int .i64 a4, .int .i64 a5], .agg #[.int .i64 b0, .int .i64 b1, .int .i64 b2, .int .i64 b3, .int .i64 b4, .int .i64 b5]] W fun e w' =>
  e = .returned (.int .i64 (MZ (Lib.compareInt a0 b0) (Lib.compareInt a1 b1) (Lib.compareInt a5 b5) (Lib.compareInt a2 b2) (Lib.compareInt a3 b3) (Lib.compareInt a4 b4)))∧∃ q os',w' = Sort.grow (W.drewN q) os':=by
 have a_:∀ i,((W.alloc (.cells #[.int .i64 a0, .int .i64 a1, .int .i64 a2, .int .i64 a3, .int .i64 a4, .int .i64 a5] 64)).alloc (.cells #[.int .i64 b0, .int .i64 b1, .int .i64 b2, .int .i64 b3, .int .i64 b4, .int .i64 b5] 64)).cell? ⟨W.heap.size,i,none⟩ = (#[.int .i64 a0, .int .i64 a1, .int .i64 a2, .int .i64 a3, .int .i64 a4, .int .i64 a5]:Array Value)[i]?:=fun i=>by
  rw [OD _ _ _ (by simp),li _ _ _ _ rfl]
 have b_:∀ i,((W.alloc (.cells #[.int .i64 a0, .int .i64 a1, .int .i64 a2, .int .i64 a3, .int .i64 a4, .int .i64 a5] 64)).alloc (.cells #[.int .i64 b0, .int .i64 b1, .int .i64 b2, .int .i64 b3, .int .i64 b4, .int .i64 b5] 64)).cell? ⟨W.heap.size+1,i,none⟩ = (#[.int .i64 b0, .int .i64 b1, .int .i64 b2, .int .i64 b3, .int .i64 b4, .int .i64 b5]:Array Value)[i]?:=fun i=>by
  rw [li _ _ _ _ (by simp)]
 have h0:=a_ 0
 have h1:=a_ 1
 have h2:=a_ 2
 have h3:=a_ 3
 have h4:=a_ 4
 have h5:=a_ 5
 have k0:=b_ 0
 have k1:=b_ 1
 have k2:=b_ 2
 have k3:=b_ 3
 have k4:=b_ 4
 have k5:=b_ 5
 clear a_ b_
 simp only [List.getElem?_toArray,List.getElem?_cons_zero,List.getElem?_cons_succ] at h0 h1 h2 h3 h4 h5 k0 k1 k2 k3 k4 k5
 go_enter Tryz.func74,Tryz.ntmps74
 go_wp2
 go_region_held (fun w'=>w'.cell? ⟨W.heap.size,0,none⟩ = some (.int .i64 a0)∧w'.cell? ⟨W.heap.size,1,none⟩ = some (.int .i64 a1)∧w'.cell? ⟨W.heap.size,2,none⟩ = some (.int .i64 a2)∧w'.cell? ⟨W.heap.size,3,none⟩ = some (.int .i64 a3)∧w'.cell? ⟨W.heap.size,4,none⟩ = some (.int .i64 a4)∧w'.cell? ⟨W.heap.size,5,none⟩ = some (.int .i64 a5)∧w'.cell? ⟨W.heap.size+1,0,none⟩ = some (.int .i64 b0)∧w'.cell? ⟨W.heap.size+1,1,none⟩ = some (.int .i64 b1)∧w'.cell? ⟨W.heap.size+1,2,none⟩ = some (.int .i64 b2)∧w'.cell? ⟨W.heap.size+1,3,none⟩ = some (.int .i64 b3)∧w'.cell? ⟨W.heap.size+1,4,none⟩ = some (.int .i64 b4)∧w'.cell? ⟨W.heap.size+1,5,none⟩ = some (.int .i64 b5)) (go_keep)
  (first | (go_at_call 112;refine (Pp _ _ _).mono ?_;rintro e w' ⟨rfl,rfl⟩) | (go_at_call 111;refine (Qe _ _ _ _ _ _ _ _ (li _ _ _ _ (by simp)) (li _ _ _ _ (by simp)) (li _ _ _ _ (by simp)) (li _ _ _ _ (by simp)) (li _ _ _ _ (by simp)) (li _ _ _ _ (by simp))).mono ?_;rintro e w' ⟨rfl,rfl⟩))
 all_goals go_wp2
 all_goals (go_ret;refine ⟨rfl, ?_⟩; (repeat' (first | exact Gw.refl _ | refine Gw.alloc ?_ _ | refine Gw.drew ?_)))
def Ii (a b:GClaim):Int:=MZ (Lib.compareInt a.Issuer b.Issuer) (Lib.compareInt a.Number b.Number) (Lib.compareInt a.Day b.Day) (Lib.compareInt a.Person b.Person) (Lib.compareInt a.Benefit b.Benefit) (Lib.compareInt a.Ref b.Ref)
theorem sg (x y:Int):(Lib.compareInt x y = -1∧x < y)∨(Lib.compareInt x y = 0∧x = y)∨(Lib.compareInt x y = 1∧y < x):=by
 unfold Lib.compareInt
 by_cases h:x < y
 ·exact .inl ⟨by simp [h],h⟩
 ·by_cases h2:x = y
  ·exact .inr (.inl ⟨by simp [h2],h2⟩)
  ·exact .inr (.inr ⟨by rw [if_neg h,if_pos (by omega)],by omega⟩)
theorem fX (x:Int):Lib.compareInt x x = 0:=by unfold Lib.compareInt;simp
theorem Fy:ltOf Ii = df:=by
 funext a b
 unfold ltOf Ii df MZ
 rw [Bool.eq_iff_iff]
 simp only [aa,ak,decide_eq_true_eq,Bool.or_eq_true,Bool.and_eq_true,beq_iff_eq]
 rcases sg a.Issuer b.Issuer with ⟨e,h⟩ | ⟨e,h⟩ | ⟨e,h⟩
 ·simp [fX,e,h]
 rotate_left
 ·simp [fX,e];omega
 rcases sg a.Number b.Number with ⟨e1,h1⟩ | ⟨e1,h1⟩ | ⟨e1,h1⟩
 ·simp [fX,e,h,e1,h1]
 rotate_left
 ·simp [fX,e,h,e1];omega
 rcases sg a.Day b.Day with ⟨e2,h2⟩ | ⟨e2,h2⟩ | ⟨e2,h2⟩
 ·simp [fX,e,h,e1,h1,e2,h2]
 rotate_left
 ·simp [fX,e,h,e1,h1,e2];omega
 rcases sg a.Person b.Person with ⟨e3,h3⟩ | ⟨e3,h3⟩ | ⟨e3,h3⟩
 ·simp [fX,e,h,e1,h1,e2,h2,e3,h3]
 rotate_left
 ·simp [fX,e,h,e1,h1,e2,h2,e3];omega
 rcases sg a.Benefit b.Benefit with ⟨e4,h4⟩ | ⟨e4,h4⟩ | ⟨e4,h4⟩
 ·simp [fX,e,h,e1,h1,e2,h2,e3,h3,e4,h4]
 rotate_left
 ·simp [fX,e,h,e1,h1,e2,h2,e3,h3,e4];omega
 rcases sg a.Ref b.Ref with ⟨e5,h5⟩ | ⟨e5,h5⟩ | ⟨e5,h5⟩ <;> simp [fX,e,h,e1,h1,e2,h2,e3,h3,e4,h4,e5] <;> omega
theorem AT:SWO df:=by
 refine ⟨fun x=>by simp [df,aa,ak],fun x y z h1 h2=>?_,fun x y z h1 h2=>?_⟩
 ·simp only [df,aa,ak,Bool.or_eq_true,Bool.and_eq_true,decide_eq_true_eq,beq_iff_eq] at *
  omega
 ·simp only [df,aa,ak,Bool.or_eq_false_iff,Bool.and_eq_false_iff,decide_eq_false_iff_not,beq_eq_false_iff_ne,ne_eq] at *
  omega
theorem JH (x:GClaim):∀ u∈(Ty.st .GClaim).lits x,u.oneCell' = true:=by
 intro v hv
 have e:(Ty.st .GClaim).lits x = [.int .i64 x.Issuer, .int .i64 x.Number, .int .i64 x.Person, .int .i64 x.Benefit, .int .i64 x.Ref, .int .i64 x.Day]:=rfl
 rw [e] at hv
 simp only [List.mem_cons,List.not_mem_nil,or_false] at hv
 rcases hv with rfl | rfl | rfl | rfl | rfl | rfl <;> rfl
instance post_i:Inhabited (Ty.st SK.GClaim).T:=⟨zS SK.GClaim⟩
theorem Pk:zL Tryz.prog 73 74 (Ty.st SK.GClaim).k (Ty.st SK.GClaim).lits (df:(Ty.st SK.GClaim).T→(Ty.st SK.GClaim).T→Bool):=by
 have h:=I9 (T:=(Ty.st SK.GClaim).T) (enc:=(Ty.st SK.GClaim).lits) (k:=(Ty.st SK.GClaim).k) (g:=74) (cf:=Ii) (ρ:=Tryz.sf_ren) { Tryz.sf with } (f:=73) (by kernel_rfl) (enters_of (c:=qB Tryz.f73) Tryz.func73 (by kernel_rfl) (by kernel_rfl)) (fun _=>by kernel_rfl) (fun _=>by kernel_rfl)
  (fun x=>by rw [Ty.lits,List.length_map,j4]) JH (by rw [Fy];exact AT) (enters_of (c:=qB Tryz.f74) Tryz.func74 (by kernel_rfl) (by kernel_rfl)) (fun W x y=>Na W _ _ _ _ _ _ _ _ _ _ _ _)
 rw [Fy] at h
 exact h
theorem R0 (X:XT) (hX:True):bz Tryz.prog 73 (xT X (.mut (fun _=>Am 74 64 (.st .GClaim) qf))) :=
 Jh (ty:=.st .GClaim) (lt:=(df:(Ty.st SK.GClaim).T→(Ty.st SK.GClaim).T→Bool)) AT (by decide) (by decide) (fun x=>rfl) JH (fun l=>rfl) Pk
end Go.Ax
