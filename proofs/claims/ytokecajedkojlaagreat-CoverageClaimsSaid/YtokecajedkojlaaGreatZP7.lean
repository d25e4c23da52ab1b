import Derived.Test.YtokecajedkojlaaGreatZP6
set_option linter.all false
/- The document's validity; facts that count; life. -/
set_option maxRecDepth 100000
namespace Go.Ax
theorem DL (k:Int) (c:Nat) (hc:c < 256):uZ k (c:Int) = some (cW k c):=by
  rw [Gb,kK,Option.bind_some]
  have hn:=qX k
  have hs:=tl k
  unfold cW
  generalize dl k = l at hn hs
  have:=Ki l (fun i=>d8 c (ab l) i) (fun x=>x == c) (some true) (some false) (by
    show d8 _ _ _ = _
    rw [pS,ap,bm]; rfl) fun i hi=>by
      show d8 _ _ _ = if _ then _ else d8 _ _ _
      rw [pS,ap]
      simp only [be hi,bA,cond_true,aC,Bool.or_true,bK hi,bc hi (by omega)]
      rw [Int.toNat_natCast,KO l i hi]
      have hv:((UInt8.ofNat l[i]).toNat:Int) = (l[i]:Int):=by
        have:=hs _ (List.getElem_mem hi)
        simp [Nat.mod_eq_of_lt this]
      rw [hv]
      by_cases e:l[i] = c
      · rw [dn.2 (by omega),if_pos (by simp [e])]; rfl
      · rw [lG.2 (by omega),if_neg (by simp [e])]; rfl
  rw [this]
  have e2:l.any (fun x=>x == c) = l.contains c:=by rw [List.contains_eq_any_beq]; congr 1; funext x; exact Bool.beq_comm
  rw [e2]
  cases l.contains c <;> rfl
theorem eR (k:Int) (c:Nat) (hc:c < 256) (n l m:Int):bX k (c:Int) n l m = some (bt (cW k c) n l m):=by
  rw [Eh,DL k c hc,Option.bind_some]
  unfold bt eQ
  cases cW k c
  · rfl
  · simp only [cond_true,bM,if_true]
theorem rf (k n l m:Int):(bX k 83 n l m = some (bt (cW k 83) n l m))∧(bX k 84 n l m = some (bt (cW k 84) n l m))∧(bX k 72 n l m = some (bt (cW k 72) n l m)) ∧
    (bX k 67 n l m = some (bt (cW k 67) n l m))∧(bX k 65 n l m = some (bt (cW k 65) n l m))∧(bX k 82 n l m = some (bt (cW k 82) n l m)) :=
  ⟨eR k 83 (by decide) n l m,eR k 84 (by decide) n l m,eR k 72 (by decide) n l m,eR k 67 (by decide) n l m,eR k 65 (by decide) n l m,eR k 82 (by decide) n l m⟩
theorem uY {f:GFact} (h:dU f = true→False):some false = some (dU f):=by
  cases hv:dU f with
  | false=>rfl
  | true=>exact (h hv).elim
theorem ga (f:GFact):gE f = some (dU f):=by
  rw [Er,kK]
  have out:∀ {p:Prop} [Decidable p] {o:Option Bool},(p→dU f = true→False)→(¬ p→o = some (dU f))→(bif aa p then some false else o) = some (dU f):=by
    intro p _ o h1 h2
    by_cases hp:p
    · rw [bG hp,cond_true]; exact uY (h1 hp)
    · rw [dB hp,cond_false]; exact h2 hp
  have V:=uL f
  refine out (fun h hv=>?_) fun c1=>out (fun h hv=>?_) fun c2=>out (fun h hv=>?_) fun c3=>out (fun h hv=>?_) fun c4=>out (fun h hv=>?_) fun c5=>out (fun h hv=>?_) fun c6=>out (fun h hv=>?_) fun c7=>out (fun h hv=>?_) fun c8=>?_
  any_goals (obtain ⟨g0,g1,g2,g3,g4,_⟩:=V.1 hv; omega)
  rw [Option.bind_some,Hi]
  cases h0:(dl f.Kind).isEmpty with
  | true=>rw [cond_true]; exact uY fun hv=>by obtain ⟨g0,_⟩:=V.1 hv; rw [g0] at h0; cases h0
  | false =>
    rw [cond_false]
    simp only [gf,bM]
    cases h2:(aa (f.Span.From < 0)||aa (f.Span.To≤f.Span.From)||aa (73049 < f.Span.To)) with
    | true =>
      rw [cond_true]
      refine uY fun hv=>?_
      obtain ⟨g0,g1,g2,g3,g4,_,_,g5,_⟩:=V.1 hv
      simp only [Bool.or_eq_true,decide_eq_true_eq] at h2
      omega
    | false =>
      rw [cond_false]
      simp only [Bool.or_eq_false_iff,decide_eq_false_iff_not] at h2
      rw [ak (by omega) (by omega)]
      cases h3:((ah f.Kind 11||ah f.Kind 12)&&bn (f.Span.To - f.Span.From) 1||ah f.Kind 4&&ah f.Seat f.State||(ah f.Kind 10||ah f.Kind 14)&&ah f.Ref f.Person) with
      | true =>
        rw [cond_true]
        refine uY fun hv=>?_
        obtain ⟨_,g1,g2,g3,g4,_,_,g5,_,_,_,_,g6⟩:=V.1 hv
        unfold uU at g6
        simp only [Bool.or_eq_true,Bool.and_eq_true,beq_iff_eq,bne_iff_ne,ne_eq,ah,bn] at h3
        split at g6
        · simp only [bne_iff_ne,ne_eq] at g6; omega
        · split at g6
          · simp only [beq_iff_eq] at g6; omega
          · split at g6
            · simp only [bne_iff_ne,ne_eq] at g6; omega
            · omega
      | false =>
        rw [cond_false]
        have hf:=fun n l m=>rf f.Kind n l m
        simp only [(hf _ _ _).1,(hf _ _ _).2.1,(hf _ _ _).2.2.1,(hf _ _ _).2.2.2.1,(hf _ _ _).2.2.2.2.1,(hf _ _ _).2.2.2.2.2,Option.bind_some]
        have hkind:uU f = true:=by
          simp only [Bool.or_eq_false_iff,Bool.and_eq_false_iff,beq_eq_false_iff_ne,bne_eq_false_iff_eq,ne_eq,ah,bn] at h3
          unfold uU
          split
          · simp only [bne_iff_ne,ne_eq]; omega
          · split
            · simp only [beq_iff_eq]; omega
            · split
              · simp only [bne_iff_ne,ne_eq]; omega
              · rfl
        have e:∀ (a b:Bool),(bif a then some b else some false) = some (a&&b):=by intro a b; cases a <;> rfl
        simp only [e,Option.some.injEq]
        rw [Bool.eq_iff_iff,V]
        simp only [Bool.and_eq_true]
        constructor
        · rintro ⟨a1,a2,a3,a4,a5,a6⟩
          exact ⟨h0,by omega,by omega,by omega,by omega,a1,a2,by omega,a3,a4,a5,a6,hkind⟩
        · rintro ⟨_,_,_,_,_,a1,a2,_,a3,a4,a5,a6,_⟩
          exact ⟨a1,a2,a3,a4,a5,a6⟩
def Oo (person:Int) (f:GFact):Bool:=ah f.Person person
theorem Iq (l:List GFact) (person:Int) (hn:l.length≤1000000):ux l person = some (l.filter (Oo person)):=by
  rw [Jj]
  refine (Ln l (fun i out=>eG l person i out) (Oo person) fun i out hi ho=>?_).trans ?_
  · show eG _ _ _ _ = eG _ _ _ _
    rw [sC]
    simp only [be hi,bA,cond_true,aC,Bool.or_true,bK hi,bc hi (by omega)]
    rw [im]
    unfold Oo
    cases ah l[i].Person person <;> rfl
  · show eG _ _ _ _ = _
    rw [sC,bm]; rfl
def aU (f:GFact):Bool:=dU f&&!f.Withdrawn
theorem jX (f:GFact):hY f = some (aU f):=by
  rw [zd,El,Option.bind_some,bM]; rfl
theorem dF (l:List GFact) (hn:l.length≤1000000):dI l = some (l.filter aU):=by
  rw [zR]
  refine (Ln l (fun i out=>co l i out) aU fun i out hi ho=>?_).trans ?_
  · show co _ _ _ = co _ _ _
    rw [mK]
    simp only [be hi,bA,cond_true,aC,Bool.or_true,bK hi,bc hi (by omega)]
    rw [ga,Option.bind_some,im]
    unfold aU
    cases dU l[i] <;> cases l[i].Withdrawn <;> rfl
  · show co _ _ _ = _
    rw [mK,bm]; rfl
theorem yh (l:List GFact) (hn:l.length≤1000000):nY l = some (l.filter aU):=by
  rw [zc,Ao]
  have:bT l (l.length:Int) 0 [] = some (l.filter aU):=by
    refine (Ln l (fun i out=>bT l (l.length:Int) i out) aU fun i out hi ho=>?_).trans ?_
    · show bT _ _ _ _ = bT _ _ _ _
      rw [mA]
      simp only [be hi,bA,cond_true,aC,Bool.or_true,bK hi,bc hi (by omega)]
      rw [jX,Option.bind_some,im]
      cases aU l[i] <;> rfl
    · show bT _ _ _ _ = _
      rw [mA,bm]; rfl
  rw [this]; rfl
def Hz (kind:Int) (f:GFact) (a:Int × Bool):Int × Bool:=if (ah f.Kind kind&&(!a.2||aa (f.Span.From < a.1))) = true then (f.Span.From,true) else a
def gm (l:List GFact) (kind:Int):Int × Bool:=(l.filter aU).foldl (fun a f=>Hz kind f a) (0,false)
theorem pu {A:Type} (p:GFact→Bool) (g:A→GFact→A):∀ (l:List GFact) (a:A),(l.filter p).foldl g a = l.foldl (fun a f=>if p f = true then g a f else a) a
  | [],_=>rfl
  | f :: l,a=>by
    rw [List.filter_cons,List.foldl_cons]
    by_cases h:p f = true
    · rw [if_pos h,if_pos h,List.foldl_cons,pu p g l]
    · rw [if_neg h,if_neg h,pu p g l]
theorem ra (l:List GFact) (kind:Int) (hn:l.length≤1000000):mL l kind = some (gm l kind):=by
  rw [BF]
  have:=(Bv l (fun i (a:Int × Bool)=>cJ kind a.1 a.2 l (l.length:Int) i) (fun a f=>if aU f = true then Hz kind f a else a) (fun _ _=>True) (fun i a hi _=>⟨?_,trivial⟩) (0,false) trivial).1
  · refine Eq.trans this ?_
    show cJ _ _ _ _ _ _ = _
    rw [nB,bm]
    unfold gm
    rw [pu]; rfl
  · show cJ _ _ _ _ _ _ = cJ _ _ _ _ _ _
    rw [nB]
    simp only [be hi,bA,cond_true,aC,Bool.or_true,bK hi,bc hi (by omega)]
    rw [jX,Option.bind_some]
    unfold Hz
    simp only [bM,gf]
    cases aU l[i] with
    | false=>rfl
    | true =>
      simp only [Bool.true_and,if_true]
      cases (ah l[i].Kind kind&&(!a.2||aa (l[i].Span.From < a.1))) <;> rfl
theorem sk (l:List GFact) (kind:Int) (hn:l.length≤1000000):oD l kind = some (gm l kind):=by
  rw [Du,dF l hn,Option.bind_some]
  have hc:(l.filter aU).length≤l.length:=List.length_filter_le _ _
  unfold gm
  generalize l.filter aU = c at hc
  have:=(Bv c (fun i (a:Int × Bool)=>cF kind a.1 a.2 i c) (fun a f=>Hz kind f a) (fun _ _=>True) (fun i a hi _=>⟨?_,trivial⟩) (0,false) trivial).1
  · refine Eq.trans this ?_
    show cF _ _ _ _ _ = _
    rw [nv,bm]; rfl
  · show cF _ _ _ _ _ = cF _ _ _ _ _
    rw [nv]
    simp only [be hi,bA,cond_true,aC,Bool.or_true,bK hi,bc hi (by omega)]
    unfold Hz
    simp only [bM,gf]
    cases (ah c[i].Kind kind&&(!a.2||aa (c[i].Span.From < a.1))) <;> rfl
def dw (l:List GFact):GSpan :=
  let d:=if (gm l 12).2 then (gm l 12).1 else 73048
  if d < (gm l 11).1 then ⟨0,0⟩ else ⟨(gm l 11).1,ac (d+1)⟩
theorem Kk (a b:Int × Bool):(bif (!b.2) then bif aa (73048 < a.1) then some (⟨0,0⟩:GSpan) else some (⟨a.1,73049⟩:GSpan) else bif aa (b.1 < a.1) then some (⟨0,0⟩:GSpan) else some (⟨a.1,(ac (b.1+1))⟩:GSpan)) =
    some (let d:=if b.2 then b.1 else 73048; if d < a.1 then ⟨0,0⟩ else ⟨a.1,ac (d+1)⟩):=by
  cases b.2 with
  | false =>
    simp only [Bool.not_false,cond_true]
    by_cases h:73048 < a.1
    · simp [h]
    · simp [h,show ac 73049 = 73049 from ak (by omega) (by omega)]
  | true =>
    simp only [Bool.not_true,cond_false,if_true]
    by_cases h:b.1 < a.1
    · simp [h]
    · simp [h]
theorem AD (l:List GFact) (hn:l.length≤1000000):rE l = some (gm l 11):=by rw [BD,ra l 11 hn]; rfl
theorem AX (l:List GFact) (hn:l.length≤1000000):qV l = some (gm l 12):=by rw [Co,ra l 12 hn]; rfl
theorem BY (l:List GFact) (hn:l.length≤1000000):sT l = some (gm l 11):=by rw [D1,sk l 11 hn]; rfl
theorem CJ (l:List GFact) (hn:l.length≤1000000):ta l = some (gm l 12):=by rw [DN,sk l 12 hn]; rfl
theorem sf (l:List GFact) (hn:l.length≤1000000):oe l = some (dw l):=by
  rw [Di,AD l hn,Option.bind_some,AX l hn,Option.bind_some]
  exact Kk _ _
theorem il (l:List GFact) (hn:l.length≤1000000):iA l = some (dw l):=by
  rw [F4,BY l hn,Option.bind_some,CJ l hn,Option.bind_some]
  exact Kk _ _
end Go.Ax
