import Derived.Test.YtgamnldjlncdlaaGreatZL142
set_option linter.all false
/- Words, names, inputs, the source's numbers: they end. -/
set_option maxRecDepth 100000
namespace Go.Ax
open Go.Proofs
theorem VM (s:ByteArray) (h:s.size≤1000):En True (fun _=>True) (uy s):=by
  unfold uy; simp only [tw,oT]; unfold tp
  refine En.bind (R:=fun _=>True) ?_ fun y hy=>?_
  · refine En.fixL (fun i=>0≤i∧i≤(s.size:Int)) (fun i=>((s.size:Int) - i).toNat) ⟨by omega,by omega⟩ ?_
    intro i hi
    show En True _ (oQ s i).opt
    simp only [oQ,oT]
    refine En.bif (fun hc=>?_) fun hc=>.some trivial
    have hlt:i < (s.size:Int):=by simpa using hc
    refine En.gd (by omega) (En.bind (R:=fun _=>True) (En.of (y:=bif decide (97≤((s.data.getD (Int.toNat i) 0).toNat:Int)) then decide (((s.data.getD (Int.toNat i) 0).toNat:Int)≤122) else false) rfl trivial) fun r _=>?_)
    refine En.gd (fun _=>by omega) (En.gd (fun _=>hlt) (En.gd (fun _=>rfl) (En.gd (fun _=>by omega) (En.gd (fun _=>hlt) (En.bif (fun _=>.some trivial) fun _=>.some ?_)))))
    simp only []
    rw [bu (by omega) (by omega)]
    omega
  · rcases y with ⟨⟩ | ⟨⟩ <;> exact .some trivial
theorem OI (s:ByteArray):En True (fun _=>True) (ov s):=by
  unfold ov; simp only [sS,oT]; simp only [bI,oT]
  repeat' first | exact .some trivial | refine En.bif (fun _=>?_) (fun _=>?_)
theorem VO (s:ByteArray) (h:s.size≤1000):En True (fun _=>True) (mV s):=by
  unfold mV; simp only [tF,oT]
  exact En.bind (VM s h) fun r _=>En.gd (fun _=>(OI s).isSome) (.some trivial)
theorem Vt (n:Int):En True (fun _=>True) (zA n):=by
  unfold zA; simp only [xW,oT]
  repeat' first | exact .some trivial | refine En.bif (fun _=>?_) (fun _=>?_)
theorem R8 (s:ByteArray):En True (fun _=>True) (xq s):=by
  unfold xq; simp only [wy,oT]; simp only [cc,oT]
  repeat' first | exact .some trivial | refine En.bif (fun _=>?_) (fun _=>?_)
theorem QL (l:List Int):(oy l).size = l.length:=by
  unfold oy
  simp [ByteArray.size]
theorem Gc (i:Int):En True (fun s=>s.size≤100) (oG i):=by
  unfold oG sx
  refine .some ?_
  rw [QL]
  exact (by decide:3≤100)
def iq (n:Nat) (l:List ByteArray):Prop:=l.length≤n∧∀ b∈l,b.size≤100
theorem iq.append {n m:Nat} {l l':List ByteArray} (h:iq n l) (h':iq m l'):iq (n+m) (l++l') :=
  ⟨by rw [List.length_append]; have:=h.1; have:=h'.1; omega,fun b hb=>(List.mem_append.1 hb).elim (h.2 b) (h'.2 b)⟩
theorem iq.one {b:ByteArray} (h:b.size≤100):iq 1 [b]:=⟨Nat.le_refl 1,fun c hc=>by rw [List.mem_singleton.1 hc]; exact h⟩
theorem iq.getD {n:Nat} {l:List ByteArray} (h:iq n l) (i:Nat):(l.getD i (ak [])).size≤100:=by
  rw [List.getD_eq_getElem?_getD]
  cases e:l[i]? with
  | none=>exact Nat.zero_le 100
  | some b=>exact h.2 b (List.mem_of_getElem? e)
theorem TM:∃ l,xC = some l∧iq 11 l∧l.length = 11:=by
  refine ⟨_,rfl,⟨Nat.le_refl 11, ?_⟩,rfl⟩
  have key:(xC.getD []).all (fun b=>Nat.ble b.size 100) = true:=by kernel_rfl
  intro b hb
  exact Nat.le_of_ble_eq_true (List.all_eq_true.1 key b hb)
theorem QV (dim:Int):En True (iq 11) (vk dim):=by
  obtain ⟨l,hl,hl1,hl2⟩:=TM
  unfold vk; simp only [tk,oT]
  rw [hl,Option.bind_some]
  unfold ua
  refine En.bind (R:=iq 11) ?_ fun y hy=>.some hy
  refine En.fixL (fun s=>0≤s.2∧s.2≤11∧iq s.2.toNat s.1) (fun s=>(11 - s.2).toNat) ⟨by simp,by simp,by exact ⟨Nat.le_refl 0,fun b hb=>nomatch hb⟩⟩ ?_
  rintro ⟨out,i⟩ ⟨h1,h2,h3⟩
  simp only [] at h1 h2 h3
  show En True _ (oI dim l out i).opt
  simp only [oI,oT]
  refine En.bif (fun hc=>?_) fun hc=>.some ⟨Nat.le_trans h3.1 (by omega),h3.2⟩
  have hlt:i < 11:=by rw [hl2] at hc; simpa using hc
  have hi:i < (l.length:Int):=by omega
  have hw:ai (i+1) = i+1:=bu (by omega) (by omega)
  refine En.gd (by omega) (En.bind (R8 _) fun r _=>En.bif (fun _=>En.gd (by omega) (En.gd ?_ (.some ?_))) fun _=>.some ?_)
  · have:=h3.1
    exact lC (by omega) (by omega)
  · simp only [hw]
    refine ⟨⟨by omega,by omega, ?_⟩,by omega⟩
    rw [show (i+1).toNat = i.toNat+1 by omega]
    exact h3.append (.one (hl1.getD _))
  · simp only [hw]
    exact ⟨⟨by omega,by omega,Nat.le_trans h3.1 (by omega),h3.2⟩,by omega⟩
def iU (A:Nat) (s:aa):Prop:=0≤s.at_∧s.at_≤(A:Int)
theorem iU.mono {A B:Nat} {s:aa} (h:iU A s) (hb:A≤B):iU B s:=⟨h.1,by have:=h.2; omega⟩
theorem oq {tot:Prop} {A:Nat} (s:aa) (k:Int) (hs:iU A s) (hA:A≤100000) (hk:1≤k) (hk2:k≤10000):En tot (fun y=>0≤y.1∧y.1 < k∧iU (A+1) y.2) (bi s k):=by
  have hp:∀ n,En tot (fun y:Int × aa=>0≤y.1∧y.1 < k∧iU (A+1) y.2) (hU k n s).opt:=by
    intro n
    simp only [hU,oT]
    rw [rK n k (by omega),Option.bind_some]
    obtain ⟨h1,h2⟩:=hs
    refine .some ⟨?_, ?_, ?_, ?_⟩
    · rw [if_neg (by omega)]; exact Int.emod_nonneg _ (by omega)
    · rw [if_neg (by omega)]; exact Int.emod_lt_of_pos _ (by omega)
    · simp only []; rw [bu (by omega) (by omega)]; omega
    · simp only []; rw [bu (by omega) (by omega)]; omega
  unfold bi; simp only [nc,oT]
  exact En.bif (fun hc=>En.gd ⟨hs.1,by simpa using hc⟩ (hp _)) fun _=>hp _
theorem VB (n d:Nat) (hn:n≤4000) (hd:d≤10000) (h0:0 < d):Bq (Ha n d).1:=by
  obtain ⟨e,h1,h2,h3,h4⟩:=H8 n d h0 (by omega) (by omega)
  rw [e]
  generalize n / Nat.gcd n d = a at *
  generalize d / Nat.gcd n d = b at *
  exact ⟨by simp only []; omega,by simp only []; omega,by simp only []; omega,by simp only []; omega⟩
theorem Uy {tot:Prop} (n d:Int) (h:0≤n) (hn:n≤4000) (hd:d≤10000) (h0:0 < d):En tot (fun y=>Bq y.1) (fm n d):=by
  obtain ⟨n,rfl⟩:=Int.eq_ofNat_of_zero_le h
  obtain ⟨d,rfl⟩:=Int.eq_ofNat_of_zero_le (by omega:0≤d)
  exact .of (EA n d (by omega) (by omega) (by omega)) (VB n d (by omega) (by omega) (by omega))
theorem QG {tot:Prop} {A:Nat} (s:aa) (hs:iU A s) (hA:A≤99990):En tot (fun y=>Bq y.1∧iU (A+2) y.2) (iL s):=by
  unfold iL; simp only [lP,oT]
  refine En.bind (oq s 4000 hs (by omega) (by omega) (by omega)) fun y hy=>En.bind (oq y.2 7 hy.2.2 (by omega) (by omega) (by omega)) fun z hz=>En.gd (by have:=hz.1; have:=hz.2.1; omega) ?_
  have hd:0 < ([1,1,1,10,4,1000,10000]:List Int).getD (0+Int.toNat z.1) (0:Int)∧([1,1,1,10,4,1000,10000]:List Int).getD (0+Int.toNat z.1) (0:Int)≤10000:=by
    have h:z.1 = 0∨z.1 = 1∨z.1 = 2∨z.1 = 3∨z.1 = 4∨z.1 = 5∨z.1 = 6:=by have:=hz.1; have:=hz.2.1; omega
    rcases h with h | h | h | h | h | h | h <;> rw [h] <;> decide
  exact En.bind (Uy _ _ hy.1 (by have:=hy.2.1; omega) hd.2 hd.1) fun w hw=>.some ⟨hw,hz.2.2⟩
end Go.Ax
