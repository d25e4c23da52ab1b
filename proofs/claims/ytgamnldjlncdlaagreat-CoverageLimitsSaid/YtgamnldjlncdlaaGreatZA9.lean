import Derived.Test.YtgamnldjlncdlaaGreatZA8
import Derived.Deep.QuietTactic
set_option linter.all false
/- What a call of sort.Slice costs, paid once. -/
namespace Go.Ax
open Go.RowKit Go.Sort Go.Lib Go.Shelf Go.Proofs
theorem SP {T:Type} [Inhabited T] {P:Program} {ρ:Ren} (L:LaysGg.n6 P ρ) {t e g:Nat} {i ie:TypeInfo} (hi:P.info? t = some i) (hd:i.desc = .slice e) (hpk:P.packed t = false) (hie:P.info? e = some ie) {ke:Nat} (hke:∀ w,(Extern.Rtype.kind e).run P w = .ok ke w)
    {enc:T→List Value} {k:Nat} (hk:∀ x,(enc x).length = k) (hs1:ie.size = k) (hagg:∀ w,(isAgg e).run P w = .ok true w) (h1:∀ x, ∀ v∈enc x,v.oneCell' = true) {lt:T→T→Bool} (hO:SWO lt)
    (eg:∀ args w,(callFunc g args).run P w = .ok (.enter g args) w) {fS:Nat} (hfS:fS = ρ.f 6) (eS:∀ args w,(callFunc fS args).run P w = .ok (.enter fS args) w)
    {f0 f1 f2 s:Nat} (hf0:P.funcs.findIdx? (·.name == "internal/reflectlite" ++ ".Swapper$" ++ toString 1) = some f0) (hf1:P.funcs.findIdx? (·.name == "internal/reflectlite" ++ ".Swapper$" ++ toString 2) = some f1)
    (hs:∀ n,2≤n→swapperK n ie ke = s) (hf2:P.funcs.findIdx? (·.name == "internal/reflectlite" ++ ".Swapper$" ++ toString s) = some f2)
    {gS:Bool} (hx:∀ args W,(callFunc f2 args).run P W = ((Extern.ReflectliteSwapper.swap gS args).run P W).andThen fun v w'=>.ok (.value v) w')
    (hless:∀ (W:World) (blk c Bs:Nat) (d:Array T),HoldsK enc k W blk 0 d→d.size < 4611686018427387904→W.cell? ⟨Bs,0,none⟩ = some (.slice (some ⟨blk,0,none⟩) d.size c)→∀ i j:Nat,i < d.size→j < d.size →
      Calls P g #[.int .i64 i, .int .i64 j, .pointer (some ⟨Bs,0,none⟩)] W fun e w'=>e = .returned (.bool (lt d[i]! d[j]!))∧∃ q,w' = W.drewN q):LM P fS t g k enc lt:=by
  subst hfS
  have k0:swapperK 0 ie ke = 1:=by simp [swapperK]
  have k1:swapperK 1 ie ke = 2:=by simp [swapperK]
  refine ⟨fun w lb=>.inl ⟨eS _ _,(Any.sort_Slice_tiny L t e i ie hi hd hpk hie ke hke none 0 0 (by omega) f0 (by rw [k0]; exact hf0) (.func g) #[] lb w).mono ?_⟩,fun w blk c Bs l hsz hH hblk hcell hBs hne=>?_⟩
  · rintro e w' ⟨rfl,h⟩
    exact ⟨_,rfl,rfl,h⟩
  · by_cases h2:l.length < 2
    · have e1:fP lt l = l:=by unfold fP; rw [if_pos h2]
      obtain ⟨f,hf⟩:∃ f,P.funcs.findIdx? (·.name == "internal/reflectlite" ++ ".Swapper$" ++ toString (swapperK l.length ie ke)) = some f:=by
        have:l.length = 0∨l.length = 1:=by omega
        rcases this with h | h
        · rw [h,k0]; exact ⟨_,hf0⟩
        · rw [h,k1]; exact ⟨_,hf1⟩
      refine .inl ⟨eS _ _,(Any.sort_Slice_tiny L t e i ie hi hd hpk hie ke hke (some ⟨blk,0,none⟩) l.length c (by omega) f hf (.func g) #[] #[.pointer (some ⟨Bs,0,none⟩)] w).mono ?_⟩
      rintro e w' ⟨rfl,os,rfl⟩
      refine ⟨_,rfl,rfl,0,os, ?_⟩
      rw [ahead_zero,e1,putRowK_self _ _ _ _ _ _ hH]
    · have h2':2≤l.toArray.size:=by show 2≤l.length; omega
      have e1:(fP lt l).toArray = pdq lt l.toArray 0 l.toArray.size (Lib.bitLen l.toArray.size) true true:=by unfold fP; rw [if_neg h2]
      have hl:LessReadsK P g #[.pointer (some ⟨Bs,0,none⟩)] enc k lt blk 0 l.toArray.size w:=by
        intro m os dk hs i j hi hj
        have e:sortWorldK enc k w blk 0 m dk os = putRowK enc k (grow (Sort.ahead w m) os) blk 0 dk:=by
          unfold sortWorldK; rw [putRowK_grow _ _ (Sort.ahead w m) _ blk 0 _ hblk]
        have hHg:HoldsK enc k (grow (Sort.ahead w m) os) blk 0 l.toArray:=holdsK_grow _ _ _ _ blk 0 _ hblk (holdsK_ahead _ _ _ _ _ _ _ hH)
        refine hless _ blk c Bs dk ?_ (by rw [hs]; exact hsz) ?_ i j (by omega) (by omega)
        · rw [e]; exact holdsK_putRowK _ _ _ blk 0 _ dk hHg hs
        · rw [e,cell?_putRowK_other _ _ _ blk 0 dk _ (by exact hne),cell?_grow _ _ _ (by exact hBs),hs]; exact hcell
      refine .inl ⟨eS _ _,(Any.sort_Slice_cells_eq L t e i ie hi hd hpk hie ke hke enc k hk hs1 hagg h1 lt hO g _ eg blk 0 c l.toArray h2' hsz f2 (by rw [hs _ h2']; exact hf2) gS hx w hl hH hblk).mono ?_⟩
      rintro e w' ⟨rfl,n,os,rfl⟩
      exact ⟨_,rfl,rfl,n,os,by rw [e1]⟩
end Go.Ax
