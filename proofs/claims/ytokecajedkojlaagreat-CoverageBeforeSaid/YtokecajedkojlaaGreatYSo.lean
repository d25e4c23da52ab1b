import Derived.Test.YtokecajedkojlaaGreatYE
import Derived.Test.YtokecajedkojlaaGreatYLay
import Derived.Laws.Externs
set_option linter.all false
/- Functions of the library, walked by hand. -/
set_option maxRecDepth 100000
namespace Go.Ax
open Go.Proofs Go.Proofs.YtokecajedkojlaaGreat Go.RowKit Go.Shelf Go.Lib Go.Sort
abbrev sQ:=(Ty.st SK.GSpan).T
instance so109_i:Inhabited sQ:=⟨zS SK.GSpan⟩
abbrev jK (a b:sQ):Bool:=aa (a.From < b.From)
theorem DT:Go.Sort.SWO jK:=⟨fun x=>by simp [jK],fun x y z h1 h2=>by simp [jK] at *; omega,fun x y z h1 h2=>by simp [jK] at *; omega⟩
theorem DR (x:sQ):∀ v∈(.st .GSpan:Ty).lits x,v.oneCell' = true:=by
  intro v hv
  have e:(.st .GSpan:Ty).lits x = [.int .i64 x.From, .int .i64 x.To]:=rfl
  rw [e] at hv
  simp only [List.mem_cons,List.not_mem_nil,or_false] at hv
  rcases hv with rfl | rfl <;> rfl
set_option maxHeartbeats 2000000 in
theorem Kd (W:World) (blk off c Bs size:Nat) (G:Nat→Int) (hs:W.cell? ⟨Bs,0,none⟩ = some (.slice (some ⟨blk,off,none⟩) size c))
    (hc:∀ t,t < size→W.cell? ⟨blk,off+t*2,none⟩ = some (.int .i64 (G t))) (i j:Nat) (hi:i < size) (hj:j < size) (_hsz:size < 4611686018427387904) :
    Calls Tryz.prog 110 #[.int .i64 i, .int .i64 j, .pointer (some ⟨Bs,0,none⟩)] W fun e w'=>e = .returned (.bool (decide (G i < G j)))∧∃ q,w' = W.drewN q:=by
  have ci:=hc i hi
  have cj:=hc j hj
  go_enter Tryz.func110,Tryz.ntmps110
  go_wp2
  go_quiet (fail)
  go_wp2
  go_ret
  exact ⟨rfl,nq,rfl⟩
theorem J5 (W:World) (blk c Bs:Nat) (d:Array sQ) (hH:HoldsK (.st .GSpan:Ty).lits (.st .GSpan:Ty).k W blk 0 d) (hsz:d.size < 4611686018427387904) (hs:W.cell? ⟨Bs,0,none⟩ = some (.slice (some ⟨blk,0,none⟩) d.size c)) (i j:Nat) (hi:i < d.size) (hj:j < d.size) :
    Calls Tryz.prog 110 #[.int .i64 i, .int .i64 j, .pointer (some ⟨Bs,0,none⟩)] W fun e w'=>e = .returned (.bool (jK d[i]! d[j]!))∧∃ q,w' = W.drewN q :=
  Kd W blk 0 c Bs d.size (fun t=>d[t]!.From) hs (fun t ht=>(hH.cell (i:=t) (c:=0) ht (by show 0 < 2; omega)).1) i j hi hj hsz
noncomputable def MM:TypeInfo:=(Tryz.prog.info? 45).get (by kernel_rfl)
noncomputable def zR:TypeInfo:=(Tryz.prog.info? 50).get (by kernel_rfl)
theorem K6:CN Tryz.prog 109 45 110 (.st .GSpan:Ty).k (.st .GSpan:Ty).lits jK:=by
  have hp:zR.hasPointers = false:=by kernel_rfl
  have hb:zR.bytes = 16:=by kernel_rfl
  exact KC (T:=sQ) (enc:=(.st .GSpan:Ty).lits) (k:=(.st .GSpan:Ty).k) (lt:=jK) (t:=45) (e:=50) (g:=110) (i:=MM) (ie:=zR) (s:=9) (f2:=232) Tryz.sl (by kernel_rfl) (by kernel_rfl) (by kernel_rfl) (by kernel_rfl) (ke:=25) (fun _=>by kernel_rfl) (fun _=>rfl) (by kernel_rfl) (fun _=>by kernel_rfl) DR DT
    (om (c:=FR Tryz.f110) Tryz.func110 (by kernel_rfl) (by kernel_rfl)) (by kernel_rfl) (om (c:=FR Tryz.f109) Tryz.func109 (by kernel_rfl) (by kernel_rfl)) (f0:=224) (by kernel_rfl) (f1:=225) (by kernel_rfl)
    (fun n h2=>by
      have c:(n == 0) = false:=by simp; omega
      have d:(n == 1) = false:=by simp; omega
      simp [Lib.swapperK,hp,hb,c,d]) (by kernel_rfl) (gS:=false) (fun args W=>run_callFunc_extern Tryz.func232 (by kernel_rfl) (by kernel_rfl) (by kernel_rfl) (e:=Extern.ReflectliteSwapper.swap false) (by kernel_rfl) args W)
    J5
theorem PA (X:XT) (hX:True):bI Tryz.prog 109 (EB X (.mut (fun _=>pt 45 110 50 (.st .GSpan) fm))) :=
  AN (ty:=.st .GSpan) (lt:=jK) DT (by decide) (by decide) (by kernel_rfl) (fun x=>rfl) DR (fun l=>rfl) K6
theorem PB (X:XT) (hX:True):bI Tryz.prog 302 (EB X (.hand f302 Mt)):=by
  refine MA (by kernel_rfl) fun ok w xs vs a y hx hok hr hh=>?_
  have hx:=Lv (O2 (by kernel_rfl) hr) hx
  obtain ⟨s,c⟩:=a
  have hy:y = Go.firstIdx s c.toNat.toUInt8:=(Option.some.inj hh).symm
  subst hy
  obtain ⟨x,z,rfl⟩:∃ x z,xs = [x,z]:=by
    have:=hx.1
    match xs,this with
    | [x,z],_=>exact ⟨x,z,rfl⟩
  have e1:x = .string s:=al.lit_inv (hx.2 0 x _ rfl rfl)
  have e2:z = .int .u8 c:=al.lit_inv (hx.2 1 z _ rfl rfl)
  subst e1 e2
  refine .inr ⟨.int .i64 (Go.firstIdx s c.toNat.toUInt8),w, ?_, .refl _ _, .lit _⟩
  rw [run_callFunc_extern (fn:=Tryz.f302) (e:=Extern.BytealgIndexByte.indexByte) (by kernel_rfl) (by kernel_rfl) (by kernel_rfl) (by kernel_rfl) (by kernel_rfl)]
  have:=run_indexByte_string (P:=Tryz.prog) s c w
  rw [show [Value.string s,Value.int .u8 c].toArray = #[Value.string s,Value.int .u8 c] from rfl,this]
  rfl
end Go.Ax
