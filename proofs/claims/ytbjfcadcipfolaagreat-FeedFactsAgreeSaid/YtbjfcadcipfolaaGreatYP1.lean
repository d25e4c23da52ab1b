import Derived.Test.YtbjfcadcipfolaaGreatYE
import Derived.Test.YtbjfcadcipfolaaGreatYP0
set_option linter.all false
/- The reading of tokens ends. -/
set_option maxRecDepth 100000
namespace Go.Ax
end Go.Ax
set_option linter.all false
/- Fractions, decimals, words, trees: what is asked of them ends. -/
set_option maxRecDepth 100000
namespace Go.Ax
end Go.Ax
set_option linter.all false
/- The reading of statutes ends. -/
set_option maxRecDepth 100000
namespace Go.Ax
end Go.Ax
set_option linter.all false
/- Clauses, versions, statutes: their reading ends. -/
set_option maxRecDepth 100000
namespace Go.Ax
section
end
end Go.Ax
set_option linter.all false
/- Raw numbers, the texts of statutes and the made laws: their making ends. -/
set_option maxRecDepth 100000
namespace Go.Ax
theorem Mz (n:Int) {m:Int} (h:0 < m):(n.tmod m = n % m)∨(n.tmod m = n % m - m∧n % m≠0):=by
 rw [Int.tmod_eq_emod]
 split
 ·left;omega
 ·next hc =>
  right
  rw [not_or] at hc
  refine ⟨?_,fun h0=>hc.2 (Int.dvd_of_emod_eq_zero h0)⟩
  have:(m.natAbs:Int) = m:=by omega
  omega
theorem fj (n m:Int) (h:0 < m) (h':m≤9223372036854775807):ax n m = some (n % m):=by
 rw [I0,ab (by omega)]
 have h1:=Int.emod_nonneg n (show m≠0 by omega)
 have h2:=Int.emod_lt_of_pos n h
 rcases Mz n h with hc | ⟨hc,hz⟩
 ·rw [hc,aX (by omega)];rfl
 ·rw [hc,aT (by omega),cond_true,aA (by omega) (by omega)]
  congr 1;omega
theorem Rj (n m:Int) (h:0 < m) (h':m≤9223372036854775807):En (fun y=>0≤y∧y < m) (ax n m) :=
 .of (fj n m h h') ⟨Int.emod_nonneg _ (by omega),Int.emod_lt_of_pos _ h⟩
theorem i8 {α:Type} {Q:α→Prop} {n m:Int} {f:Int→Option α} (h:0 < m∧m≤9223372036854775807) (hf:∀ y,0≤y→y < m→En Q (f y)):En Q ((ax n m).bind f) :=
 .bind (Rj n m h.1 (by omega)) fun y hy=>hf y hy.1 hy.2
section
variable {n:List Int} (hn:n.length≤9223372036854775807)
include hn
set_option maxHeartbeats 4000000 in
end
end Go.Ax
set_option linter.all false
/- Loops that walk a list;letters, fields and validity of facts. -/
set_option maxRecDepth 100000
namespace Go.Ax
theorem cd {T:Type} {l:List T} {i:Nat} {z:T} (hi:i < l.length):gD l ((i:Int)).toNat z = l[i]:=by
 show l.getD _ _ = _
 rw [Int.toNat_natCast,List.getD_eq_getElem?_getD,List.getElem?_eq_getElem hi];rfl
theorem O0 {i:Nat} (h:i < 9223372036854775807):ac ((i:Int)+1) = ((i+1:Nat):Int):=by rw [aA (by omega) (by omega)];omega
theorem Dj {T S R:Type} (l:List T) (F:Int→S→Option R) (g:S→T→S) (Inv:Nat→S→Prop)
  (h:∀ (i:Nat) (s:S) (hi:i < l.length),Inv i s→F (i:Int) s = F ((i+1:Nat):Int) (g s l[i])∧Inv (i+1) (g s l[i])) (s:S) (h0:Inv 0 s):F 0 s = F (l.length:Int) (l.foldl g s)∧Inv l.length (l.foldl g s):=by
 have key:∀ (n i:Nat) (s:S),l.length = i+n→Inv i s→F (i:Int) s = F (l.length:Int) ((l.drop i).foldl g s)∧Inv l.length ((l.drop i).foldl g s):=by
  intro n
  induction n with
  | zero =>
   intro i s hn hs
   rw [List.drop_of_length_le (by omega),List.foldl_nil]
   have:i = l.length:=by omega
   subst this
   exact ⟨rfl,hs⟩
  | succ n ih =>
   intro i s hn hs
   have hi:i < l.length:=by omega
   obtain ⟨h1,h2⟩:=h i s hi hs
   rw [h1,List.drop_eq_getElem_cons hi,List.foldl_cons]
   exact ih (i+1) _ (by omega) h2
 exact key l.length 0 s (by omega) h0
theorem uo {T A:Type} (p:T→Bool) (g:T→A):∀ l:List T,(l.flatMap fun x=>if p x = true then [g x] else []) = (l.filter p).map g
 | []=>rfl
 | x :: l=>by
  rw [List.flatMap_cons,uo p g l,List.filter_cons]
  split <;> simp
theorem D5 {T R:Type} (l:List T) (F:Int→Option R) (p:T→Bool) (y n:Option R) (hn:F (l.length:Int) = n)
  (h:∀ (i:Nat) (hi:i < l.length),F (i:Int) = if p l[i] = true then y else F ((i+1:Nat):Int)):F 0 = if l.any p = true then y else n:=by
 have key:∀ (n' i:Nat),l.length = i+n'→F (i:Int) = if (l.drop i).any p = true then y else n:=by
  intro n'
  induction n' with
  | zero =>
   intro i hi
   rw [List.drop_of_length_le (by omega)]
   have:i = l.length:=by omega
   subst this
   simpa using hn
  | succ n' ih =>
   intro i hi
   have hlt:i < l.length:=by omega
   rw [h i hlt,List.drop_eq_getElem_cons hlt,List.any_cons]
   cases hp:p l[i] with
   | true=>simp
   | false=>rw [Bool.false_or,if_neg (by simp)];exact ih (i+1) (by omega)
 exact key l.length 0 (by omega)
theorem cA {i n:Nat} (h:i < n):aa ((i:Int) < (n:Int)) = true:=aT (by omega)
theorem cV (n:Nat):aa ((n:Int) < (n:Int)) = false:=aX (by omega)
theorem bu (i:Nat):aa ((0:Int)≤(i:Int)) = true:=aT (by omega)
theorem an {α:Type} (o:Option α):gb true o = o:=rfl
theorem bW {i n:Nat} (h:i < n) (hn:n≤1000000000000):ac ((i:Int)+1) = ((i+1:Nat):Int):=O0 (by omega)
def bi (k:Int):List Nat :=
 if k = 1 then [83,80,84,72,67,65] else if k = 2 then [83,80,72,67,65] else if k = 3 then [83,80,72,67,65] else if k = 4 then [83,80,84] else
 if k = 5 then [83,80] else if k = 6 then [83,80,67,65] else if k = 7 then [83,80] else if k = 8 then [83,80] else if k = 9 then [83,80] else
 if k = 10 then [83,80,82] else if k = 11 then [80] else if k = 12 then [80] else if k = 13 then [80] else if k = 14 then [80,82] else []
theorem kinds {k:Int} (h1:1≤k) (h2:k≤14):k = 1∨k = 2∨k = 3∨k = 4∨k = 5∨k = 6∨k = 7∨k = 8∨k = 9∨k = 10∨k = 11∨k = 12∨k = 13∨k = 14:=by omega
theorem jj {k:Int} (h:¬ (1≤k∧k≤14)):bi k = []:=by
 unfold bi
 have e:∀ n:Int,1≤n→n≤14→k≠n:=fun n a b c=>h (by omega)
 rw [if_neg (e 1 (by omega) (by omega)),if_neg (e 2 (by omega) (by omega)),if_neg (e 3 (by omega) (by omega)),if_neg (e 4 (by omega) (by omega)),if_neg (e 5 (by omega) (by omega)),if_neg (e 6 (by omega) (by omega)),if_neg (e 7 (by omega) (by omega)),
  if_neg (e 8 (by omega) (by omega)),if_neg (e 9 (by omega) (by omega)),if_neg (e 10 (by omega) (by omega)),if_neg (e 11 (by omega) (by omega)),if_neg (e 12 (by omega) (by omega)),if_neg (e 13 (by omega) (by omega)),if_neg (e 14 (by omega) (by omega))]
theorem mH (k:Int):eJ k = some (aI (bi k)):=by
 rw [JK]
 simp only [AC]
 simp only [yG]
 simp only [w8]
 by_cases h:1≤k∧k≤14
 ·obtain rfl | rfl | rfl | rfl | rfl | rfl | rfl | rfl | rfl | rfl | rfl | rfl | rfl | rfl:=kinds h.1 h.2 <;> rfl
 ·rw [jj h]
  have e:∀ n:Int,1≤n→n≤14→ak k n = false:=fun n a b=>eF.2 fun c=>h (by omega)
  simp only [e 1 (by omega) (by omega),e 2 (by omega) (by omega),e 3 (by omega) (by omega),e 4 (by omega) (by omega),e 5 (by omega) (by omega),e 6 (by omega) (by omega),e 7 (by omega) (by omega),e 8 (by omega) (by omega),e 9 (by omega) (by omega),e 10 (by omega) (by omega),e 11 (by omega) (by omega),e 12 (by omega) (by omega),e 13 (by omega) (by omega),e 14 (by omega) (by omega),cond_false]
theorem i6 (k:Int):jN k = some (aI (bi k)):=by
 rw [GQ]
 by_cases h:1≤k∧k≤14
 ·rw [aX (p:=k < 1) (by omega),aX (p:=15≤k) (by omega),cond_false,cond_false,ab (by omega),ab (by omega)]
  obtain rfl | rfl | rfl | rfl | rfl | rfl | rfl | rfl | rfl | rfl | rfl | rfl | rfl | rfl:=kinds h.1 h.2 <;> rfl
 ·rw [jj h]
  have:(bif aa (k < 1) then true else aa (15≤k)) = true:=by
   rw [De,Bool.or_eq_true,decide_eq_true_iff,decide_eq_true_iff];omega
  rw [this];rfl
def cu (k:Int) (c:Nat):Bool:=(bi k).contains c
theorem md (k:Int):∀ c∈bi k,c < 256:=by
 by_cases h:1≤k∧k≤14
 ·obtain rfl | rfl | rfl | rfl | rfl | rfl | rfl | rfl | rfl | rfl | rfl | rfl | rfl | rfl:=kinds h.1 h.2 <;> decide
 ·rw [jj h];intro c hc;simp at hc
theorem iY (k:Int):(bi k).length≤6:=by
 by_cases h:1≤k∧k≤14
 ·obtain rfl | rfl | rfl | rfl | rfl | rfl | rfl | rfl | rfl | rfl | rfl | rfl | rfl | rfl:=kinds h.1 h.2 <;> decide
 ·rw [jj h];decide
theorem pW (l:List Nat):(aI l).toList = l.map UInt8.ofNat:=by
 rw [ByteArray.toList_eq]
 rfl
theorem QD (s:ByteArray) (i:Nat) (h:i < s.size):s[i]! = s.data.toList[i]'(by simpa using h):=by
 rw [getElem!_pos s i h]
 rfl
theorem Cu (s:ByteArray) (b:UInt8):0≤Go.firstIdx s b↔b∈s.data.toList:=by
 unfold Go.firstIdx
 constructor
 ·intro h
  split at h
  ·next i hi =>
   have h1:=List.find?_some hi
   have h2:=List.mem_range.1 (List.mem_of_find?_eq_some hi)
   rw [QD s i h2] at h1
   have h3:s.data.toList[i]'(by simpa using h2) = b:=by simpa using h1
   rw [← h3]
   exact List.getElem_mem _
  ·simp at h
 ·intro h
  obtain ⟨i,hi,e⟩:=List.getElem_of_mem h
  have h2:i < s.size:=by simpa using hi
  split
  ·exact Int.natCast_nonneg _
  ·next hn =>
   have:=List.find?_eq_none.1 hn i (List.mem_range.2 h2)
   rw [QD s i h2,e] at this
   simp at this
theorem M4 {l:List Nat} (hl:∀ c∈l,c < 256) {c:Nat} (hc:c < 256):UInt8.ofNat c∈(aI l).data.toList↔c∈l:=by
 show UInt8.ofNat c∈l.map UInt8.ofNat↔_
 constructor
 ·intro h
  obtain ⟨d,hd,e⟩:=List.mem_map.1 h
  have h1:=congrArg UInt8.toNat e
  have h2:(UInt8.ofNat d).toNat = d:=by simp [Nat.mod_eq_of_lt (hl d hd)]
  have h3:(UInt8.ofNat c).toNat = c:=by simp [Nat.mod_eq_of_lt hc]
  rw [h2,h3] at h1
  subst h1;exact hd
 ·exact fun h=>List.mem_map_of_mem h
theorem DB (l:List Nat) (i:Nat) (h:i < l.length):(aI l).data.getD i (UInt8.ofNat 0) = UInt8.ofNat l[i]:=by
 show ((l.map UInt8.ofNat).toArray).getD i _ = _
 rw [Array.getD_eq_getD_getElem?]
 simp [h]
theorem jh (k:Int) (c:Nat) (hc:c < 256):eL (aI [c]) (aI (bi k)) = some (cu k c):=by
 rw [Cm,yh,BM,we]
 have h1:((aI [c]).size:Int) = 1:=rfl
 have h2:(((((aI [c]).data.getD 0 (UInt8.ofNat 0)).toNat:Int))).toNat.toUInt8 = UInt8.ofNat c:=by
  show (((UInt8.ofNat c).toNat:Int)).toNat.toUInt8 = UInt8.ofNat c
  rw [Int.toNat_natCast]
  simp [Nat.mod_eq_of_lt hc]
 have hz:ak 1 0 = false:=rfl
 have ho:ak 1 1 = true:=rfl
 rw [h1,hz,ho,cond_false]
 unfold cu
 have hcon:(bi k).contains c = decide (c∈bi k):=by simp
 rw [hcon]
 cases he:n7 (aI [c]) (aI (bi k)) with
 | true =>
  have e:[UInt8.ofNat c] = (bi k).map UInt8.ofNat:=by
   have:(aI [c]).toList = (aI (bi k)).toList:=by simpa using he
   rwa [pW,pW] at this
  have hm:c∈bi k:=(M4 (md k) hc).1 (by show _∈(bi k).map UInt8.ofNat;rw [← e];simp)
  simp [hm]
 | false =>
  rw [cond_false,cond_true,ab (by decide),tj]
  show ((((some (Go.firstIdx _ _)).bind _).bind _).bind _).bind _ = _
  simp only [Option.bind_some,Option.some.injEq]
  rw [h2,decide_eq_decide,Cu,M4 (md k) hc]
def ar (x l h:Int):Bool:=decide (l≤x)&&decide (x≤h)
theorem ux (x l h:Int):iG x l h = some (ar x l h):=by
 rw [E9,cc];rfl
def bK (u:Bool) (x l h:Int):Bool:=if u then ar x l h else x == 0
theorem DQ (u:Bool) (x l h:Int):ic u x l h = some (bK u x l h):=by
 rw [GF,ux]
 unfold bK
 cases u <;> simp <;> cases ar x l h <;> rfl
def zV (s:GSpan):Bool:=decide (0≤s.From)&&decide (s.From < s.To)&&decide (s.To≤73049)
theorem zo (s:GSpan):pm s = some (zV s):=by
 rw [Ap,cc,cc];rfl
def xC (f:GFact):Bool:=if f.Kind = 4 then f.State != f.Seat else if f.Kind = 11∨f.Kind = 12 then f.Span.To == f.Span.From+1 else if f.Kind = 10∨f.Kind = 14 then f.Ref != f.Person else true
def aB (f:GFact):Bool :=
 !(bi f.Kind).isEmpty&&ar f.Issuer 0 5&&ar f.Number 1 999&&ar f.Version 1 99&&ar f.Person 1 99 &&
 bK (cu f.Kind 83) f.State 0 5&&bK (cu f.Kind 84) f.Seat 0 5&&zV f.Span &&
 bK (cu f.Kind 72) f.Share 1 100&&bK (cu f.Kind 67) f.Currency 1 999&&bK (cu f.Kind 65) f.Amount 0 1000000000&&bK (cu f.Kind 82) f.Ref 1 99&&xC f
theorem uM {x l h:Int}:ar x l h = true↔l≤x∧x≤h:=by
 unfold ar
 simp only [Bool.and_eq_true,decide_eq_true_eq]
theorem Gr {s:GSpan}:zV s = true↔0≤s.From∧s.From < s.To∧s.To≤73049:=by
 unfold zV
 simp only [Bool.and_eq_true,decide_eq_true_eq,and_assoc]
theorem jD (f:GFact):aB f = true↔(bi f.Kind).isEmpty = false∧(0≤f.Issuer∧f.Issuer≤5)∧(1≤f.Number∧f.Number≤999)∧(1≤f.Version∧f.Version≤99)∧(1≤f.Person∧f.Person≤99) ∧
  bK (cu f.Kind 83) f.State 0 5 = true∧bK (cu f.Kind 84) f.Seat 0 5 = true∧(0≤f.Span.From∧f.Span.From < f.Span.To∧f.Span.To≤73049)∧bK (cu f.Kind 72) f.Share 1 100 = true∧bK (cu f.Kind 67) f.Currency 1 999 = true ∧
  bK (cu f.Kind 65) f.Amount 0 1000000000 = true∧bK (cu f.Kind 82) f.Ref 1 99 = true∧xC f = true:=by
 unfold aB
 simp only [Bool.and_eq_true,uM,Gr,Bool.not_eq_true',and_assoc]
theorem JI (k:Int):n7 (aI (bi k)) (aI []) = (bi k).isEmpty:=by
 show ((aI (bi k)).toList == (aI []).toList) = _
 rw [pW,pW]
 cases bi k <;> rfl
theorem GA (f:GFact) (h:zV f.Span = true):(bif (ak f.Kind 4) then some (aV f.State f.Seat) else bif (ak f.Kind 11) then gi f.Kind (ak f.Kind 11) f else gi f.Kind (ak f.Kind 12) f) = some (xC f):=by
 have hs:=Gr.1 h
 rw [oP,oP,aA (by omega) (by omega)]
 unfold xC
 by_cases k4:f.Kind = 4
 ·simp [k4,ak,aV]
 by_cases k11:f.Kind = 11
 ·simp [k11,ak,aV]
 by_cases k12:f.Kind = 12
 ·simp [k12,ak,aV]
 by_cases k10:f.Kind = 10
 ·simp [k10,ak,aV]
 by_cases k14:f.Kind = 14
 ·simp [k14,ak,aV]
 have e:∀ n:Int,f.Kind≠n→(f.Kind == n) = false:=fun n h=>by simpa using h
 simp [ak,aV,e 4 k4,e 11 k11,e 12 k12,e 10 k10,e 14 k14,k4,k11,k12,k10,k14]
theorem jc (f:GFact):jJ f = some (aB f):=by
 rw [GL,mH,Option.bind_some]
 simp only [ux,jh f.Kind 83 (by decide),jh f.Kind 84 (by decide),jh f.Kind 72 (by decide),jh f.Kind 67 (by decide),jh f.Kind 65 (by decide),jh f.Kind 82 (by decide),DQ,zo,Option.bind_some,JI]
 unfold aB
 cases hA:(bi f.Kind).isEmpty <;> cases hB:ar f.Issuer 0 5 <;> cases hC:ar f.Number 1 999 <;> cases hD:ar f.Version 1 99 <;> cases hE:ar f.Person 1 99 <;> simp only [Bool.not_true,Bool.not_false,cond_true,cond_false,Bool.false_and,Bool.true_and,Bool.and_false]
 cases hF:bK (cu f.Kind 83) f.State 0 5 <;> cases hG:bK (cu f.Kind 84) f.Seat 0 5 <;> cases hH:zV f.Span <;> simp only [Bool.not_true,Bool.not_false,cond_true,cond_false,Bool.false_and,Bool.true_and,Bool.and_false]
 rw [GA f hH]
 cases hI:bK (cu f.Kind 72) f.Share 1 100 <;> cases hJ:bK (cu f.Kind 67) f.Currency 1 999 <;> cases hK:bK (cu f.Kind 65) f.Amount 0 1000000000 <;> cases hL:bK (cu f.Kind 82) f.Ref 1 99 <;> simp only [Bool.not_true,Bool.not_false,cond_true,cond_false,Bool.false_and,Bool.true_and,Bool.and_false]
end Go.Ax
