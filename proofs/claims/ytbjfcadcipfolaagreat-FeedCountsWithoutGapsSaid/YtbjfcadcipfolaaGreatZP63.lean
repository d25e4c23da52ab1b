import Derived.Test.YtbjfcadcipfolaaGreatZP62
set_option linter.all false
/- Get returns the encodings of the reference; Missing agrees with the reference. -/
set_option maxRecDepth 100000
namespace Go.Ax
theorem LT {l:List (List Int)} (h:gk l):HA l:=fun b hb=>⟨(h b hb).1,by have:=(fJ (h b hb).1 (h b hb).2).2;omega⟩
theorem K8 {l m:List (List Int)} (h:oq l m) (hl:gk l):gk m:=fun b hb=>hl b ((h.2 b).1 hb)
theorem wz {m:List (List Int)} (h:gk m) (hm:m.length≤24):∃ L ks vs,cB m = some (true,m,⟨L⟩,ks,vs)∧bg (aR m) ks vs∧di (aR m) L∧aS (aR m)∧ks.length≤24∧L.length≤24:=by
 obtain ⟨L,ks,vs,h1,h2,h3,h4,h5⟩:=Fa (LT h) (by omega)
 exact ⟨L,ks,vs,h1,h2,h3,P4 (LT h),by omega,by omega⟩
theorem oS (l:List GPensionlaw31_Raw) (xby:List Int):∃ d m L ks vs,iP l = some d∧fX d xby = some m∧cB m = some (true,m,⟨L⟩,ks,vs)∧Dd d∧oq d m∧gk m∧bg (aR m) ks vs∧di (aR m) L∧aS (aR m)∧ks.length≤24∧L.length≤24:=by
 obtain ⟨d,h1,h2⟩:=Pm l
 obtain ⟨m,h3,h4⟩:=(xL xby h2.1).1
 have hok:=K8 h4 h2.2
 obtain ⟨L,ks,vs,g1,g2,g3,g4,g5,g6⟩:=wz hok h4.1
 exact ⟨d,m,L,ks,vs,h1,h3,g1,h2,h4,hok,g2,g3,g4,g5,g6⟩
theorem Bh (l:List GPensionlaw31_Raw) (xby:List Int) (sender number:Int):pr l xby sender number = some true:=by
 obtain ⟨d,m,L,ks,vs,h1,h2,h3,_,_,_,hM,hL,hK,hk,hl⟩:=oS l xby
 have g:∀ s n:Int,aB ((aR m s n).getD []):=fun s n=>(HG hK s n).2
 rw [vL,h1,Option.bind_some,h2,Option.bind_some,h3,Option.bind_some,bT _ _ (by omega) (by omega),Option.bind_some,bT _ _ (by omega) (by omega),Option.bind_some]
 dsimp only
 rw [kW hK hM,Option.bind_some,km hK hL (by omega),Option.bind_some]
 dsimp only
 rw [kW hK hM,Option.bind_some,km hK hL (by omega),Option.bind_some,ew,Option.bind_some]
 dsimp only
 have e:∀ b:Bool,Lb b b = true:=fun b=>by cases b <;> rfl
 rw [cond_true,cond_true,e,cond_true,dN (g _ _) (g _ _),decide_eq_true rfl,Option.bind_some,cond_true,e,cond_true,dN (g _ _) (g _ _),decide_eq_true rfl]
 rfl
theorem uN {a:List (List Int)} (h:∀ b∈a,aB b) (hl:a.length≤100000):qk a a = some true:=by
 rw [Fc,bj.2 rfl,cond_false]
 refine (AV a (fun i=>ep a a i) (fun _=>false) none (some true) ?_ fun i hi=>?_).trans (by simp)
 ·show ep _ _ _ = _
  rw [qO,cJ];rfl
 ·show ep _ _ _ = if (false:Bool) = true then none else ep a a ((i+1:Nat):Int)
  have hb:=h _ (List.getElem_mem hi)
  rw [if_neg (by simp),qO]
  simp only [dj hi,bH,cond_true,ap,Bool.or_true,cz hi,co hi (by omega)]
  rw [dN hb hb,decide_eq_true rfl]
  rfl
theorem Lx {K:ao} (hK:aS K) (inv:List Int):(∀ b∈(kC K inv).1, ∃ s n,K s n = some b)∧(kC K inv).1.length≤5994:=by
 unfold kC
 split
 ·refine ⟨fun b hb=>?_,tA K inv 6⟩
  obtain ⟨s,_,hs⟩:=List.mem_flatMap.1 hb
  obtain ⟨n,hn,rfl⟩:=List.mem_map.1 hs
  have:=(bX hK _ _).1 (List.mem_filter.1 hn).1
  cases hk:K (s:Int) n with
  | none=>rw [hk] at this;cases this
  | some b=>exact ⟨(s:Int),n,hk⟩
 ·exact ⟨fun b hb=>(by cases hb),by simp⟩
theorem IN {b:List Int} (h:∀ n,kO n (.ls (.i .u8)) b):aB b∧b.length≤9223372036854775807:=by
 obtain ⟨h1,h2⟩:=h 2
 refine ⟨fun x hx=>?_,h1⟩
 have this:IntKind.min .u8≤x∧x≤IntKind.max .u8:=h2 x hx
 rw [show IntKind.min .u8 = 0 from rfl,show IntKind.max .u8 = 255 from rfl] at this
 omega
theorem wV (l k:List GPensionlaw31_Raw) (xby:List Int) (raw:List Int) (hwf:∀ n,kO n (.ls (.i .u8)) raw):md l k xby raw = some true:=by
 have hraw:=(IN hwf).1
 obtain ⟨d,m,L,ks,vs,h1,h2,h3,_,_,_,hM,hL,hK,hk,hl⟩:=oS l xby
 obtain ⟨d',m',L',ks',vs',h1',h2',h3',_,_,_,hM',hL',hK',hk',hl'⟩:=oS k xby
 rw [rB,h1,Option.bind_some,h2,Option.bind_some,h3,Option.bind_some,h1',Option.bind_some,h2',Option.bind_some,h3',Option.bind_some,ew]
 dsimp only
 rw [Bool.not_true,cond_false,cond_false,Option.bind_some,Bool.not_true,cond_false,aH hK' hM',Option.bind_some]
 dsimp only
 rw [bO hK hM (by omega) (fM _),Option.bind_some,aH hK' hM',Option.bind_some]
 dsimp only
 rw [mh hK hL (by omega) (fM _),Option.bind_some,bO hK hM (by omega) hraw,Option.bind_some]
 dsimp only
 rw [mh hK hL (by omega) hraw,Option.bind_some,dv,cond_true]
 have ok:∀ inv, ∀ b∈(kC (aR m) inv).1,aB b:=fun inv b hb=>by
  obtain ⟨s,n,h⟩:=(Lx hK inv).1 b hb
  exact (hK _ _ _ h).1
 have ln:=fun inv=>(Lx hK inv).2
 rw [uN (ok _) (by have:=ln (aG (aR m'));omega),Option.bind_some,cond_true,dv,cond_true,uN (ok _) (by have:=ln raw;omega)]
 rfl
end Go.Ax
