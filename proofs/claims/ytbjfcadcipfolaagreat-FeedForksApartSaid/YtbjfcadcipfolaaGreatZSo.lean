import Derived.Test.YtbjfcadcipfolaaGreatZFk
import Derived.Test.YtbjfcadcipfolaaGreatZB21
import Derived.Test.YtbjfcadcipfolaaGreatZE
import Derived.Test.YtbjfcadcipfolaaGreatZLay
import Derived.Laws.Externs
set_option linter.all false
/- Functions of the library, walked by hand. -/
set_option maxRecDepth 100000
namespace Go.Ax
open Go.Proofs Go.Proofs.YtbjfcadcipfolaaGreat Go.RowKit Go.Shelf Go.Lib Go.Sort
abbrev rX:=(Ty.st SK.GSpan).T
instance so127_i:Inhabited rX:=⟨zS SK.GSpan⟩
abbrev jw (a b:rX):Bool:=aa (a.From < b.From)
theorem B4:Go.Sort.SWO jw:=⟨fun x=>by simp [jw],fun x y z h1 h2=>by simp [jw] at *; omega,fun x y z h1 h2=>by simp [jw] at *; omega⟩
theorem B9 (x:rX):∀ v∈(.st .GSpan:Ty).lits x,v.oneCell' = true:=by
 intro v hv
 have e:(.st .GSpan:Ty).lits x = [.int .i64 x.From, .int .i64 x.To]:=rfl
 rw [e] at hv
 simp only [List.mem_cons,List.not_mem_nil,or_false] at hv
 rcases hv with rfl | rfl <;> rfl
set_option maxHeartbeats 2000000 in
theorem It (W:World) (blk off c Bs size:Nat) (G:Nat→Int) (hs:W.cell? ⟨Bs,0,none⟩ = some (.slice (some ⟨blk,off,none⟩) size c))
  (hc:∀ t,t < size→W.cell? ⟨blk,off+t*2,none⟩ = some (.int .i64 (G t))) (i j:Nat) (hi:i < size) (hj:j < size) (_hsz:size < 4611686018427387904) :
  Calls Tryz.prog 128 #[.int .i64 i, .int .i64 j, .pointer (some ⟨Bs,0,none⟩)] W fun e w'=>e = .returned (.bool (decide (G i < G j)))∧∃ q,w' = W.drewN q:=by
 have ci:=hc i hi
 have cj:=hc j hj
 go_enter Tryz.func128,Tryz.ntmps128
 go_wp2
 go_quiet (fail)
 go_wp2
 go_ret
 exact ⟨rfl,nq,rfl⟩
theorem Iq (W:World) (blk c Bs:Nat) (d:Array rX) (hH:HoldsK (.st .GSpan:Ty).lits (.st .GSpan:Ty).k W blk 0 d) (hsz:d.size < 4611686018427387904) (hs:W.cell? ⟨Bs,0,none⟩ = some (.slice (some ⟨blk,0,none⟩) d.size c)) (i j:Nat) (hi:i < d.size) (hj:j < d.size) :
  Calls Tryz.prog 128 #[.int .i64 i, .int .i64 j, .pointer (some ⟨Bs,0,none⟩)] W fun e w'=>e = .returned (.bool (jw d[i]! d[j]!))∧∃ q,w' = W.drewN q :=
 It W blk 0 c Bs d.size (fun t=>d[t]!.From) hs (fun t ht=>(hH.cell (i:=t) (c:=0) ht (by show 0 < 2;omega)).1) i j hi hj hsz
noncomputable def KM:TypeInfo:=(Tryz.prog.info? 106).get (by kernel_rfl)
noncomputable def xV:TypeInfo:=(Tryz.prog.info? 105).get (by kernel_rfl)
theorem JU:Bo Tryz.prog 127 106 128 (.st .GSpan:Ty).k (.st .GSpan:Ty).lits jw:=by
 have hp:xV.hasPointers = false:=by kernel_rfl
 have hb:xV.bytes = 16:=by kernel_rfl
 exact Ie (T:=rX) (enc:=(.st .GSpan:Ty).lits) (k:=(.st .GSpan:Ty).k) (lt:=jw) (t:=106) (e:=105) (g:=128) (i:=KM) (ie:=xV) (s:=9) (f2:=191) Tryz.sl (by kernel_rfl) (by kernel_rfl) (by kernel_rfl) (by kernel_rfl) (ke:=25) (fun _=>by kernel_rfl) (fun _=>rfl) (by kernel_rfl) (fun _=>by kernel_rfl) B9 B4
  (eZ (c:=nX Tryz.f128) Tryz.func128 (by kernel_rfl) (by kernel_rfl)) (by kernel_rfl) (eZ (c:=nX Tryz.f127) Tryz.func127 (by kernel_rfl) (by kernel_rfl)) (f0:=183) (by kernel_rfl) (f1:=184) (by kernel_rfl)
  (fun n h2=>by
   have c:(n == 0) = false:=by simp;omega
   have d:(n == 1) = false:=by simp;omega
   simp [Lib.swapperK,hp,hb,c,d]) (by kernel_rfl) (gS:=false) (fun args W=>run_callFunc_extern Tryz.func191 (by kernel_rfl) (by kernel_rfl) (by kernel_rfl) (e:=Extern.ReflectliteSwapper.swap false) (by kernel_rfl) args W)
  Iq
theorem NL (X:XT) (hX:True):bq Tryz.prog 127 (uA X (.mut (fun _=>oY 106 128 105 (.st .GSpan) iq))) :=
 y7 (ty:=.st .GSpan) (lt:=jw) B4 (by decide) (by decide) (by kernel_rfl) (fun x=>rfl) B9 (fun l=>rfl) JU
theorem N0 (X:XT) (hX:True):bq Tryz.prog 95 (uA X (.mut (fun _=>DE))):=GI fun e=>Fz (e:=e) Tryz.si (by kernel_rfl) (eZ (c:=nX Tryz.f95) Tryz.func95 (by kernel_rfl) (by kernel_rfl))
theorem N2 (X:XT) (hX:True):bq Tryz.prog 78 (uA X (.mut (fun _=>Ab))):=E8 (eZ (c:=nX Tryz.f78) Tryz.func78 (by kernel_rfl) (by kernel_rfl)) fun b es clock w h=>AnyW.maps_Clone Tryz.mc b es clock w h
theorem N1 (X:XT) (hX:True):bq Tryz.prog 45 (uA X (.hand f45 MZ)):=by
 refine yz (by kernel_rfl) fun ok w xs vs a y hx hok hr hh=>?_
 have hx:=za (E6 (by kernel_rfl) hr) hx
 have hh:vJ a = some y:=hh
 unfold vJ gb at hh
 by_cases hl:a.length≤140737488355328
 ·rw [show aa (a.length≤140737488355328) = true from decide_eq_true hl] at hh
  have hy:y = a:=(Option.some.inj hh).symm
  subst hy
  obtain ⟨x,rfl⟩:∃ x,xs = [x]:=by
   have:=hx.1
   match xs,this with
   | [x],_=>exact ⟨x,rfl⟩
  exact zm (f:=45) (e:=5) Tryz.bc (by kernel_rfl) (by kernel_rfl) (eZ (c:=nX Tryz.f45) Tryz.func45 (by kernel_rfl) (by kernel_rfl)) (hx.2 0 x _ rfl rfl) hl
 ·rw [show aa (a.length≤140737488355328) = false from decide_eq_false hl] at hh
  cases hh
theorem NI (X:XT) (hX:True):bq Tryz.prog 215 (uA X (.hand f215 KH)):=by
 refine yz (by kernel_rfl) fun ok w xs vs a y hx hok hr hh=>?_
 have hx:=za (E6 (by kernel_rfl) hr) hx
 obtain ⟨s,c⟩:=a
 have hy:y = Go.firstIdx s c.toNat.toUInt8:=(Option.some.inj hh).symm
 subst hy
 obtain ⟨x,z,rfl⟩:∃ x z,xs = [x,z]:=by
  have:=hx.1
  match xs,this with
  | [x,z],_=>exact ⟨x,z,rfl⟩
 have e1:x = .string s:=af.lit_inv (hx.2 0 x _ rfl rfl)
 have e2:z = .int .u8 c:=af.lit_inv (hx.2 1 z _ rfl rfl)
 subst e1 e2
 refine .inr ⟨.int .i64 (Go.firstIdx s c.toNat.toUInt8),w, ?_, .refl _ _, .lit _⟩
 rw [run_callFunc_extern (fn:=Tryz.f215) (e:=Extern.BytealgIndexByte.indexByte) (by kernel_rfl) (by kernel_rfl) (by kernel_rfl) (by kernel_rfl) (by kernel_rfl)]
 have:=run_indexByte_string (P:=Tryz.prog) s c w
 rw [show [Value.string s,Value.int .u8 c].toArray = #[Value.string s,Value.int .u8 c] from rfl,this]
 rfl
theorem N3 (X:XT) (hX:True):bq Tryz.prog 97 (uA X (.hand f97 MW)):=by
 refine yz (by kernel_rfl) fun ok w xs vs a y hx hok hr hh=>?_
 have hx:=za (E6 (by kernel_rfl) hr) hx
 obtain ⟨s,c⟩:=a
 have hy:y = fm s c:=(Option.some.inj hh).symm
 subst hy
 obtain ⟨x,z,rfl⟩:∃ x z,xs = [x,z]:=by
  have:=hx.1
  match xs,this with
  | [x,z],_=>exact ⟨x,z,rfl⟩
 exact .inr ⟨.int .i64 (fm s c),w,Fb Tryz.func97 (by kernel_rfl) (by kernel_rfl) (by kernel_rfl) (by kernel_rfl) (hx.2 0 x _ rfl rfl) (hx.2 1 z _ rfl rfl), .refl _ _, .lit _⟩
end Go.Ax
