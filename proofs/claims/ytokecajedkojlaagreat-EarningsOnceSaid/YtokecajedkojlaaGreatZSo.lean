import Derived.Test.YtokecajedkojlaaGreatZE
import Derived.Test.YtokecajedkojlaaGreatZLay
import Derived.Laws.Externs
import Derived.Test.YtokecajedkojlaaGreatZB17
import Derived.Shelf.SortM.Plain
import Derived.Shelf.SortM.SortNone
set_option linter.all false
/- Functions of the library, walked by hand. -/
set_option maxRecDepth 100000
namespace Go.Ax
open Go.Proofs Go.Proofs.YtokecajedkojlaaGreat Go.RowKit Go.Shelf Go.Lib Go.Sort
theorem TF (m:Nat):Go.Proofs.AnyZI.SortsIn Tryz.prog Tryz.se_ren Fence.wide m :=
  ⟨fun blk off cap ss W hH hblk hsz=>callsIn_wide.2 (AnyM.slices_Sort_int Tryz.sm blk off cap ss W hH hblk hsz),fun p cap W=>callsIn_wide.2 (AnyM.slices_Sort_int_none Tryz.sm p cap W)⟩
abbrev yj:=(Ty.st SK.GSpan).T
instance so109_i:Inhabited yj:=⟨zS SK.GSpan⟩
abbrev mm (a b:yj):Bool:=aa (a.From < b.From)
theorem J7:Go.Sort.SWO mm:=⟨fun x=>by simp [mm],fun x y z h1 h2=>by simp [mm] at *; omega,fun x y z h1 h2=>by simp [mm] at *; omega⟩
theorem JL (x:yj):∀ v∈(.st .GSpan:Ty).lits x,v.oneCell' = true:=by
  intro v hv
  have e:(.st .GSpan:Ty).lits x = [.int .i64 x.From, .int .i64 x.To]:=rfl
  rw [e] at hv
  simp only [List.mem_cons,List.not_mem_nil,or_false] at hv
  rcases hv with rfl | rfl <;> rfl
set_option maxHeartbeats 2000000 in
theorem Ra (W:World) (blk off c Bs size:Nat) (G:Nat→Int) (hs:W.cell? ⟨Bs,0,none⟩ = some (.slice (some ⟨blk,off,none⟩) size c))
    (hc:∀ t,t < size→W.cell? ⟨blk,off+t*2,none⟩ = some (.int .i64 (G t))) (i j:Nat) (hi:i < size) (hj:j < size) (_hsz:size < 4611686018427387904) :
    Calls Tryz.prog 110 #[.int .i64 i, .int .i64 j, .pointer (some ⟨Bs,0,none⟩)] W fun e w'=>e = .returned (.bool (decide (G i < G j)))∧∃ q,w' = W.drewN q:=by
  have ci:=hc i hi
  have cj:=hc j hj
  go_enter Tryz.func110,Tryz.ntmps110
  go_wp2
  go_quiet (fail)
  go_wp2
  go_ret
  exact ⟨rfl,nq,rfl⟩
theorem Qf (W:World) (blk c Bs:Nat) (d:Array yj) (hH:HoldsK (.st .GSpan:Ty).lits (.st .GSpan:Ty).k W blk 0 d) (hsz:d.size < 4611686018427387904) (hs:W.cell? ⟨Bs,0,none⟩ = some (.slice (some ⟨blk,0,none⟩) d.size c)) (i j:Nat) (hi:i < d.size) (hj:j < d.size) :
    Calls Tryz.prog 110 #[.int .i64 i, .int .i64 j, .pointer (some ⟨Bs,0,none⟩)] W fun e w'=>e = .returned (.bool (mm d[i]! d[j]!))∧∃ q,w' = W.drewN q :=
  Ra W blk 0 c Bs d.size (fun t=>d[t]!.From) hs (fun t ht=>(hH.cell (i:=t) (c:=0) ht (by show 0 < 2; omega)).1) i j hi hj hsz
noncomputable def Ua:TypeInfo:=(Tryz.prog.info? 45).get (by kernel_rfl)
noncomputable def DE:TypeInfo:=(Tryz.prog.info? 50).get (by kernel_rfl)
theorem Sb:Ig Tryz.prog 109 45 110 (.st .GSpan:Ty).k (.st .GSpan:Ty).lits mm:=by
  have hp:DE.hasPointers = false:=by kernel_rfl
  have hb:DE.bytes = 16:=by kernel_rfl
  exact Qp (T:=yj) (enc:=(.st .GSpan:Ty).lits) (k:=(.st .GSpan:Ty).k) (lt:=mm) (t:=45) (e:=50) (g:=110) (i:=Ua) (ie:=DE) (s:=9) (f2:=232) Tryz.sl (by kernel_rfl) (by kernel_rfl) (by kernel_rfl) (by kernel_rfl) (ke:=25) (fun _=>by kernel_rfl) (fun _=>rfl) (by kernel_rfl) (fun _=>by kernel_rfl) JL J7
    (iz (c:=uD Tryz.f110) Tryz.func110 (by kernel_rfl) (by kernel_rfl)) (by kernel_rfl) (iz (c:=uD Tryz.f109) Tryz.func109 (by kernel_rfl) (by kernel_rfl)) (f0:=224) (by kernel_rfl) (f1:=225) (by kernel_rfl)
    (fun n h2=>by
      have c:(n == 0) = false:=by simp; omega
      have d:(n == 1) = false:=by simp; omega
      simp [Lib.swapperK,hp,hb,c,d]) (by kernel_rfl) (gS:=false) (fun args W=>run_callFunc_extern Tryz.func232 (by kernel_rfl) (by kernel_rfl) (by kernel_rfl) (e:=Extern.ReflectliteSwapper.swap false) (by kernel_rfl) args W)
    Qf
theorem Xd (X:XT) (hX:True):bI Tryz.prog 109 (Dr X (.mut (fun _=>ua 45 110 50 (.st .GSpan) jZ))) :=
  FR (ty:=.st .GSpan) (lt:=mm) J7 (by decide) (by decide) (by kernel_rfl) (fun x=>rfl) JL (fun l=>rfl) Sb
set_option maxHeartbeats 1000000 in
theorem Xo (X:XT) (hX:True):bI Tryz.prog 60 (Dr X (.mut (fun _=>CF 129 3))):=by
  refine Lk (f:=60) (g:=129) (k:=3) (e:=3) (by decide) (iz (c:=uD Tryz.f60) Tryz.func60 (by kernel_rfl) (by kernel_rfl)) (by kernel_rfl) fun W Bm b n D0 R hBm hc hown hsz=>?_
  have hseq:SeqGives Fence.wide 2 Tryz.prog 129 #[.pointer (some ⟨Bm,0,none⟩)] encZ (fun ss=>ss.Perm (intKeys D0)) (Maps.size D0) W :=
    AnyZI.keys_gives (ρ:=Tryz.ke_ren) { Tryz.ke with } Fence.wide _ trivial rfl (by omega) Bm b n D0 W hBm hc hown
  have cS:=AnyZI.sorted_in Tryz.se Fence.wide 5 trivial trivial trivial trivial rfl (by omega) (TF _) (iz (c:=uD Tryz.f128) Tryz.func128 (by kernel_rfl) (by kernel_rfl)) 129 #[.pointer (some ⟨Bm,0,none⟩)] trivial (iz (c:=uD Tryz.f129) Tryz.func129 (by kernel_rfl) (by kernel_rfl)) _ _ (by unfold maxLen; omega) (by omega) _ hseq
  refine (callsIn_wide.1 cS).mono ?_
  rintro e' w' ⟨v,ss,rfl,h1,h2,_,h3⟩
  exact ⟨v,ss,rfl,h1,h2,h3⟩
set_option maxHeartbeats 1000000 in
theorem Xl (X:XT) (hX:True):bI Tryz.prog 61 (Dr X (.mut (fun _=>Ly 129))) :=
  ON (f:=61) (g:=129) (by decide) (iz (c:=uD Tryz.f61) Tryz.func61 (by kernel_rfl) (by kernel_rfl)) (fun mb W=>callsIn_wide.1 (AnyZI.keys_in Tryz.ke Fence.wide 5 trivial rfl mb W))
theorem Xa (X:XT) (hX:True):bI Tryz.prog 302 (Dr X (.hand f302 TL)):=by
  refine TR (by kernel_rfl) fun ok w xs vs a y hx hok hr hh=>?_
  have hx:=R4 (Wp (by kernel_rfl) hr) hx
  obtain ⟨s,c⟩:=a
  have hy:y = Go.firstIdx s c.toNat.toUInt8:=(Option.some.inj hh).symm
  subst hy
  obtain ⟨x,z,rfl⟩:∃ x z,xs = [x,z]:=by
    have:=hx.1
    match xs,this with
    | [x,z],_=>exact ⟨x,z,rfl⟩
  have e1:x = .string s:=al.lit_inv (hx.2 0 x _ rfl rfl)
  have e2:z = .int .u8 c:=al.lit_inv (hx.2 1 z _ rfl rfl)
  subst e1 e2
  refine .inr ⟨.int .i64 (Go.firstIdx s c.toNat.toUInt8),w, ?_, .refl _ _, .lit _⟩
  rw [run_callFunc_extern (fn:=Tryz.f302) (e:=Extern.BytealgIndexByte.indexByte) (by kernel_rfl) (by kernel_rfl) (by kernel_rfl) (by kernel_rfl) (by kernel_rfl)]
  have:=run_indexByte_string (P:=Tryz.prog) s c w
  rw [show [Value.string s,Value.int .u8 c].toArray = #[Value.string s,Value.int .u8 c] from rfl,this]
  rfl
end Go.Ax
