import Derived.Test.YtbjfcadcipfolaaGreatYP1
set_option linter.all false
/- The document's validity;facts that count;life. -/
set_option maxRecDepth 100000
namespace Go.Ax
theorem Ek (k:Int) (c:Nat) (hc:c < 256):wP k (c:Int) = some (cu k c):=by
 rw [GD,i6,Option.bind_some]
 have hn:=iY k
 have hs:=md k
 unfold cu
 generalize bi k = l at hn hs
 have:=D5 l (fun i=>ep c (aI l) i) (fun x=>x == c) (some true) (some false) (by
  show ep _ _ _ = _
  rw [qT,dZ,cV];rfl) fun i hi=>by
   show ep _ _ _ = if _ then _ else ep _ _ _
   rw [qT,dZ]
   simp only [cA hi,bu,cond_true,an,Bool.or_true,cd hi,bW hi (by omega)]
   rw [Int.toNat_natCast,DB l i hi]
   have hv:((UInt8.ofNat l[i]).toNat:Int) = (l[i]:Int):=by
    have:=hs _ (List.getElem_mem hi)
    simp [Nat.mod_eq_of_lt this]
   rw [hv]
   by_cases e:l[i] = c
   ·rw [aY.2 (by omega),if_pos (by simp [e])];rfl
   ·rw [eF.2 (by omega),if_neg (by simp [e])];rfl
 rw [this]
 have e2:l.any (fun x=>x == c) = l.contains c:=by rw [List.contains_eq_any_beq];congr 1;funext x;exact Bool.beq_comm
 rw [e2]
 cases l.contains c <;> rfl
theorem e7 (k:Int) (c:Nat) (hc:c < 256) (n l m:Int):bZ k (c:Int) n l m = some (bK (cu k c) n l m):=by
 rw [Fb,Ek k c hc,Option.bind_some]
 unfold bK ar
 cases cu k c
 ·rfl
 ·simp only [cond_true,cc,if_true]
theorem rf (k n l m:Int):(bZ k 83 n l m = some (bK (cu k 83) n l m))∧(bZ k 84 n l m = some (bK (cu k 84) n l m))∧(bZ k 72 n l m = some (bK (cu k 72) n l m)) ∧
  (bZ k 67 n l m = some (bK (cu k 67) n l m))∧(bZ k 65 n l m = some (bK (cu k 65) n l m))∧(bZ k 82 n l m = some (bK (cu k 82) n l m)) :=
 ⟨e7 k 83 (by decide) n l m,e7 k 84 (by decide) n l m,e7 k 72 (by decide) n l m,e7 k 67 (by decide) n l m,e7 k 65 (by decide) n l m,e7 k 82 (by decide) n l m⟩
theorem ww {f:GFact} (h:aB f = true→False):some false = some (aB f):=by
 cases hv:aB f with
 | false=>rfl
 | true=>exact (h hv).elim
theorem gP (f:GFact):iF f = some (aB f):=by
 rw [Ee,i6]
 have out:∀ {p:Prop} [Decidable p] {o:Option Bool},(p→aB f = true→False)→(¬ p→o = some (aB f))→(bif aa p then some false else o) = some (aB f):=by
  intro p _ o h1 h2
  by_cases hp:p
  ·rw [aT hp,cond_true];exact ww (h1 hp)
  ·rw [aX hp,cond_false];exact h2 hp
 have V:=jD f
 refine out (fun h hv=>?_) fun c1=>out (fun h hv=>?_) fun c2=>out (fun h hv=>?_) fun c3=>out (fun h hv=>?_) fun c4=>out (fun h hv=>?_) fun c5=>out (fun h hv=>?_) fun c6=>out (fun h hv=>?_) fun c7=>out (fun h hv=>?_) fun c8=>?_
 any_goals (obtain ⟨g0,g1,g2,g3,g4,_⟩:=V.1 hv;omega)
 rw [Option.bind_some,JI]
 cases h0:(bi f.Kind).isEmpty with
 | true=>rw [cond_true];exact ww fun hv=>by obtain ⟨g0,_⟩:=V.1 hv;rw [g0] at h0;cases h0
 | false =>
  rw [cond_false]
  simp only [De,cc]
  cases h2:(aa (f.Span.From < 0)||aa (f.Span.To≤f.Span.From)||aa (73049 < f.Span.To)) with
  | true =>
   rw [cond_true]
   refine ww fun hv=>?_
   obtain ⟨g0,g1,g2,g3,g4,_,_,g5,_⟩:=V.1 hv
   simp only [Bool.or_eq_true,decide_eq_true_eq] at h2
   omega
  | false =>
   rw [cond_false]
   simp only [Bool.or_eq_false_iff,decide_eq_false_iff_not] at h2
   rw [aA (by omega) (by omega)]
   cases h3:((ak f.Kind 11||ak f.Kind 12)&&aV (f.Span.To - f.Span.From) 1||ak f.Kind 4&&ak f.Seat f.State||(ak f.Kind 10||ak f.Kind 14)&&ak f.Ref f.Person) with
   | true =>
    rw [cond_true]
    refine ww fun hv=>?_
    obtain ⟨_,g1,g2,g3,g4,_,_,g5,_,_,_,_,g6⟩:=V.1 hv
    unfold xC at g6
    simp only [Bool.or_eq_true,Bool.and_eq_true,beq_iff_eq,bne_iff_ne,ne_eq,ak,aV] at h3
    split at g6
    ·simp only [bne_iff_ne,ne_eq] at g6;omega
    ·split at g6
     ·simp only [beq_iff_eq] at g6;omega
     ·split at g6
      ·simp only [bne_iff_ne,ne_eq] at g6;omega
      ·omega
   | false =>
    rw [cond_false]
    have hf:=fun n l m=>rf f.Kind n l m
    simp only [(hf _ _ _).1,(hf _ _ _).2.1,(hf _ _ _).2.2.1,(hf _ _ _).2.2.2.1,(hf _ _ _).2.2.2.2.1,(hf _ _ _).2.2.2.2.2,Option.bind_some]
    have hkind:xC f = true:=by
     simp only [Bool.or_eq_false_iff,Bool.and_eq_false_iff,beq_eq_false_iff_ne,bne_eq_false_iff_eq,ne_eq,ak,aV] at h3
     unfold xC
     split
     ·simp only [bne_iff_ne,ne_eq];omega
     ·split
      ·simp only [beq_iff_eq];omega
      ·split
       ·simp only [bne_iff_ne,ne_eq];omega
       ·rfl
    have e:∀ (a b:Bool),(bif a then some b else some false) = some (a&&b):=by intro a b;cases a <;> rfl
    simp only [e,Option.some.injEq]
    rw [Bool.eq_iff_iff,V]
    simp only [Bool.and_eq_true]
    constructor
    ·rintro ⟨a1,a2,a3,a4,a5,a6⟩
     exact ⟨h0,by omega,by omega,by omega,by omega,a1,a2,by omega,a3,a4,a5,a6,hkind⟩
    ·rintro ⟨_,_,_,_,_,a1,a2,_,a3,a4,a5,a6,_⟩
     exact ⟨a1,a2,a3,a4,a5,a6⟩
end Go.Ax
set_option linter.all false
/- Spans: lists that are joined; Make. -/
set_option maxRecDepth 100000
namespace Go.Ax
theorem Qh {T:Type} (p:List T) (x z:T):gD (p++[x]) p.length z = x:=Ot p [] x z
end Go.Ax
