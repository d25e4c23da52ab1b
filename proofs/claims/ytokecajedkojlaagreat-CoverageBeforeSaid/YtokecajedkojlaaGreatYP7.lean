import Derived.Test.YtokecajedkojlaaGreatYP6
set_option linter.all false
/- The document's validity; facts that count; life. -/
set_option maxRecDepth 100000
namespace Go.Ax
theorem Dh (k:Int) (c:Nat) (hc:c < 256):uJ k (c:Int) = some (cR k c):=by
  rw [Fc,kq,Option.bind_some]
  have hn:=pY k
  have hs:=sF k
  unfold cR
  generalize da k = l at hn hs
  have:=I2 l (fun i=>dU c (ab l) i) (fun x=>x == c) (some true) (some false) (by
    show dU _ _ _ = _
    rw [o9,ap,bU]; rfl) fun i hi=>by
      show dU _ _ _ = if _ then _ else dU _ _ _
      rw [o9,ap]
      simp only [bG hi,cd,cond_true,aK,Bool.or_true,cy hi,bP hi (by omega)]
      rw [Int.toNat_natCast,JU l i hi]
      have hv:((UInt8.ofNat l[i]).toNat:Int) = (l[i]:Int):=by
        have:=hs _ (List.getElem_mem hi)
        simp [Nat.mod_eq_of_lt this]
      rw [hv]
      by_cases e:l[i] = c
      · rw [fe.2 (by omega),if_pos (by simp [e])]; rfl
      · rw [rO.2 (by omega),if_neg (by simp [e])]; rfl
  rw [this]
  have e2:l.any (fun x=>x == c) = l.contains c:=by rw [List.contains_eq_any_beq]; congr 1; funext x; exact Bool.beq_comm
  rw [e2]
  cases l.contains c <;> rfl
theorem ez (k:Int) (c:Nat) (hc:c < 256) (n l m:Int):bQ k (c:Int) n l m = some (bn (cR k c) n l m):=by
  rw [Db,Dh k c hc,Option.bind_some]
  unfold bn eI
  cases cR k c
  · rfl
  · simp only [cond_true,ck,if_true]
theorem rf (k n l m:Int):(bQ k 83 n l m = some (bn (cR k 83) n l m))∧(bQ k 84 n l m = some (bn (cR k 84) n l m))∧(bQ k 72 n l m = some (bn (cR k 72) n l m)) ∧
    (bQ k 67 n l m = some (bn (cR k 67) n l m))∧(bQ k 65 n l m = some (bn (cR k 65) n l m))∧(bQ k 82 n l m = some (bn (cR k 82) n l m)) :=
  ⟨ez k 83 (by decide) n l m,ez k 84 (by decide) n l m,ez k 72 (by decide) n l m,ez k 67 (by decide) n l m,ez k 65 (by decide) n l m,ez k 82 (by decide) n l m⟩
theorem uZ {f:GFact} (h:dH f = true→False):some false = some (dH f):=by
  cases hv:dH f with
  | false=>rfl
  | true=>exact (h hv).elim
theorem fO (f:GFact):gn f = some (dH f):=by
  rw [Cl,kq]
  have out:∀ {p:Prop} [Decidable p] {o:Option Bool},(p→dH f = true→False)→(¬ p→o = some (dH f))→(bif aa p then some false else o) = some (dH f):=by
    intro p _ o h1 h2
    by_cases hp:p
    · rw [bY hp,cond_true]; exact uZ (h1 hp)
    · rw [em hp,cond_false]; exact h2 hp
  have V:=uH f
  refine out (fun h hv=>?_) fun c1=>out (fun h hv=>?_) fun c2=>out (fun h hv=>?_) fun c3=>out (fun h hv=>?_) fun c4=>out (fun h hv=>?_) fun c5=>out (fun h hv=>?_) fun c6=>out (fun h hv=>?_) fun c7=>out (fun h hv=>?_) fun c8=>?_
  any_goals (obtain ⟨g0,g1,g2,g3,g4,_⟩:=V.1 hv; omega)
  rw [Option.bind_some,FE]
  cases h0:(da f.Kind).isEmpty with
  | true=>rw [cond_true]; exact uZ fun hv=>by obtain ⟨g0,_⟩:=V.1 hv; rw [g0] at h0; cases h0
  | false =>
    rw [cond_false]
    simp only [fp,ck]
    cases h2:(aa (f.Span.From < 0)||aa (f.Span.To≤f.Span.From)||aa (73049 < f.Span.To)) with
    | true =>
      rw [cond_true]
      refine uZ fun hv=>?_
      obtain ⟨g0,g1,g2,g3,g4,_,_,g5,_⟩:=V.1 hv
      simp only [Bool.or_eq_true,decide_eq_true_eq] at h2
      omega
    | false =>
      rw [cond_false]
      simp only [Bool.or_eq_false_iff,decide_eq_false_iff_not] at h2
      rw [ak (by omega) (by omega)]
      cases h3:((ah f.Kind 11||ah f.Kind 12)&&bq (f.Span.To - f.Span.From) 1||ah f.Kind 4&&ah f.Seat f.State||(ah f.Kind 10||ah f.Kind 14)&&ah f.Ref f.Person) with
      | true =>
        rw [cond_true]
        refine uZ fun hv=>?_
        obtain ⟨_,g1,g2,g3,g4,_,_,g5,_,_,_,_,g6⟩:=V.1 hv
        unfold tH at g6
        simp only [Bool.or_eq_true,Bool.and_eq_true,beq_iff_eq,bne_iff_ne,ne_eq,ah,bq] at h3
        split at g6
        · simp only [bne_iff_ne,ne_eq] at g6; omega
        · split at g6
          · simp only [beq_iff_eq] at g6; omega
          · split at g6
            · simp only [bne_iff_ne,ne_eq] at g6; omega
            · omega
      | false =>
        rw [cond_false]
        have hf:=fun n l m=>rf f.Kind n l m
        simp only [(hf _ _ _).1,(hf _ _ _).2.1,(hf _ _ _).2.2.1,(hf _ _ _).2.2.2.1,(hf _ _ _).2.2.2.2.1,(hf _ _ _).2.2.2.2.2,Option.bind_some]
        have hkind:tH f = true:=by
          simp only [Bool.or_eq_false_iff,Bool.and_eq_false_iff,beq_eq_false_iff_ne,bne_eq_false_iff_eq,ne_eq,ah,bq] at h3
          unfold tH
          split
          · simp only [bne_iff_ne,ne_eq]; omega
          · split
            · simp only [beq_iff_eq]; omega
            · split
              · simp only [bne_iff_ne,ne_eq]; omega
              · rfl
        have e:∀ (a b:Bool),(bif a then some b else some false) = some (a&&b):=by intro a b; cases a <;> rfl
        simp only [e,Option.some.injEq]
        rw [Bool.eq_iff_iff,V]
        simp only [Bool.and_eq_true]
        constructor
        · rintro ⟨a1,a2,a3,a4,a5,a6⟩
          exact ⟨h0,by omega,by omega,by omega,by omega,a1,a2,by omega,a3,a4,a5,a6,hkind⟩
        · rintro ⟨_,_,_,_,_,a1,a2,_,a3,a4,a5,a6,_⟩
          exact ⟨a1,a2,a3,a4,a5,a6⟩
def Nx (person:Int) (f:GFact):Bool:=ah f.Person person
theorem F4 (l:List GFact) (person:Int) (hn:l.length≤1000000):uw l person = some (l.filter (Nx person)):=by
  rw [II]
  refine (Ks l (fun i out=>et l person i out) (Nx person) fun i out hi ho=>?_).trans ?_
  · show et _ _ _ _ = et _ _ _ _
    rw [rI]
    simp only [bG hi,cd,cond_true,aK,Bool.or_true,cy hi,bP hi (by omega)]
    rw [kN]
    unfold Nx
    cases ah l[i].Person person <;> rfl
  · show et _ _ _ _ = _
    rw [rI,bU]; rfl
def bw (f:GFact):Bool:=dH f&&!f.Withdrawn
theorem jS (f:GFact):gQ f = some (bw f):=by
  rw [yn,B3,Option.bind_some,ck]; rfl
theorem gH (l:List GFact) (hn:l.length≤1000000):fL l = some (l.filter bw):=by
  rw [yX]
  refine (Ks l (fun i out=>cl l i out) bw fun i out hi ho=>?_).trans ?_
  · show cl _ _ _ = cl _ _ _
    rw [mj]
    simp only [bG hi,cd,cond_true,aK,Bool.or_true,cy hi,bP hi (by omega)]
    rw [fO,Option.bind_some,kN]
    unfold bw
    cases dH l[i] <;> cases l[i].Withdrawn <;> rfl
  · show cl _ _ _ = _
    rw [mj,bU]; rfl
theorem wc (l:List GFact) (hn:l.length≤1000000):nc l = some (l.filter bw):=by
  rw [yi,zU]
  have:bL l (l.length:Int) 0 [] = some (l.filter bw):=by
    refine (Ks l (fun i out=>bL l (l.length:Int) i out) bw fun i out hi ho=>?_).trans ?_
    · show bL _ _ _ _ = bL _ _ _ _
      rw [lU]
      simp only [bG hi,cd,cond_true,aK,Bool.or_true,cy hi,bP hi (by omega)]
      rw [jS,Option.bind_some,kN]
      cases bw l[i] <;> rfl
    · show bL _ _ _ _ = _
      rw [lU,bU]; rfl
  rw [this]; rfl
def Gs (kind:Int) (f:GFact) (a:Int × Bool):Int × Bool:=if (ah f.Kind kind&&(!a.2||aa (f.Span.From < a.1))) = true then (f.Span.From,true) else a
def gf (l:List GFact) (kind:Int):Int × Bool:=(l.filter bw).foldl (fun a f=>Gs kind f a) (0,false)
theorem oZ {A:Type} (p:GFact→Bool) (g:A→GFact→A):∀ (l:List GFact) (a:A),(l.filter p).foldl g a = l.foldl (fun a f=>if p f = true then g a f else a) a
  | [],_=>rfl
  | f :: l,a=>by
    rw [List.filter_cons,List.foldl_cons]
    by_cases h:p f = true
    · rw [if_pos h,if_pos h,List.foldl_cons,oZ p g l]
    · rw [if_neg h,if_neg h,oZ p g l]
theorem qJ (l:List GFact) (kind:Int) (hn:l.length≤1000000):lT l kind = some (gf l kind):=by
  rw [AO]
  have:=(Bz l (fun i (a:Int × Bool)=>cA kind a.1 a.2 l (l.length:Int) i) (fun a f=>if bw f = true then Gs kind f a else a) (fun _ _=>True) (fun i a hi _=>⟨?_,trivial⟩) (0,false) trivial).1
  · refine Eq.trans this ?_
    show cA _ _ _ _ _ _ = _
    rw [mU,bU]
    unfold gf
    rw [oZ]; rfl
  · show cA _ _ _ _ _ _ = cA _ _ _ _ _ _
    rw [mU]
    simp only [bG hi,cd,cond_true,aK,Bool.or_true,cy hi,bP hi (by omega)]
    rw [jS,Option.bind_some]
    unfold Gs
    simp only [ck,fp]
    cases bw l[i] with
    | false=>rfl
    | true =>
      simp only [Bool.true_and,if_true]
      cases (ah l[i].Kind kind&&(!a.2||aa (l[i].Span.From < a.1))) <;> rfl
theorem rV (l:List GFact) (kind:Int) (hn:l.length≤1000000):nO l kind = some (gf l kind):=by
  rw [BY,gH l hn,Option.bind_some]
  have hc:(l.filter bw).length≤l.length:=List.length_filter_le _ _
  unfold gf
  generalize l.filter bw = c at hc
  have:=(Bz c (fun i (a:Int × Bool)=>cD kind a.1 a.2 i c) (fun a f=>Gs kind f a) (fun _ _=>True) (fun i a hi _=>⟨?_,trivial⟩) (0,false) trivial).1
  · refine Eq.trans this ?_
    show cD _ _ _ _ _ = _
    rw [mF,bU]; rfl
  · show cD _ _ _ _ _ = cD _ _ _ _ _
    rw [mF]
    simp only [bG hi,cd,cond_true,aK,Bool.or_true,cy hi,bP hi (by omega)]
    unfold Gs
    simp only [ck,fp]
    cases (ah c[i].Kind kind&&(!a.2||aa (c[i].Span.From < a.1))) <;> rfl
def eh (l:List GFact):GSpan :=
  let d:=if (gf l 12).2 then (gf l 12).1 else 73048
  if d < (gf l 11).1 then ⟨0,0⟩ else ⟨(gf l 11).1,ac (d+1)⟩
theorem Jw (a b:Int × Bool):(bif (!b.2) then bif aa (73048 < a.1) then some (⟨0,0⟩:GSpan) else some (⟨a.1,73049⟩:GSpan) else bif aa (b.1 < a.1) then some (⟨0,0⟩:GSpan) else some (⟨a.1,(ac (b.1+1))⟩:GSpan)) =
    some (let d:=if b.2 then b.1 else 73048; if d < a.1 then ⟨0,0⟩ else ⟨a.1,ac (d+1)⟩):=by
  cases b.2 with
  | false =>
    simp only [Bool.not_false,cond_true]
    by_cases h:73048 < a.1
    · simp [h]
    · simp [h,show ac 73049 = 73049 from ak (by omega) (by omega)]
  | true =>
    simp only [Bool.not_true,cond_false,if_true]
    by_cases h:b.1 < a.1
    · simp [h]
    · simp [h]
theorem Ad (l:List GFact) (hn:l.length≤1000000):qD l = some (gf l 11):=by rw [A1,qJ l 11 hn]; rfl
theorem Af (l:List GFact) (hn:l.length≤1000000):qn l = some (gf l 12):=by rw [Bl,qJ l 12 hn]; rfl
theorem Av (l:List GFact) (hn:l.length≤1000000):sn l = some (gf l 11):=by rw [CW,rV l 11 hn]; rfl
theorem Bc (l:List GFact) (hn:l.length≤1000000):si l = some (gf l 12):=by rw [Dn,rV l 12 hn]; rfl
theorem rK (l:List GFact) (hn:l.length≤1000000):nJ l = some (eh l):=by
  rw [Dv,Ad l hn,Option.bind_some,Af l hn,Option.bind_some]
  exact Jw _ _
theorem nd (l:List GFact) (hn:l.length≤1000000):lY l = some (eh l):=by
  rw [E4,Av l hn,Option.bind_some,Bc l hn,Option.bind_some]
  exact Jw _ _
end Go.Ax
