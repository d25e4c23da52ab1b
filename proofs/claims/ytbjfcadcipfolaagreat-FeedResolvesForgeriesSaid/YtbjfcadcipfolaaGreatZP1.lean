import Derived.Test.YtbjfcadcipfolaaGreatZE4
import Derived.Test.YtbjfcadcipfolaaGreatZP0
set_option linter.all false
/- The reading of tokens ends. -/
set_option maxRecDepth 100000
namespace Go.Ax
end Go.Ax
set_option linter.all false
/- Fractions, decimals, words, trees: what is asked of them ends. -/
set_option maxRecDepth 100000
namespace Go.Ax
end Go.Ax
set_option linter.all false
/- The reading of statutes ends. -/
set_option maxRecDepth 100000
namespace Go.Ax
end Go.Ax
set_option linter.all false
/- Clauses, versions, statutes: their reading ends. -/
set_option maxRecDepth 100000
namespace Go.Ax
section
end
end Go.Ax
set_option linter.all false
/- Raw numbers, the texts of statutes and the made laws: their making ends. -/
set_option maxRecDepth 100000
namespace Go.Ax
theorem MN (n:Int) {m:Int} (h:0 < m):(n.tmod m = n % m)∨(n.tmod m = n % m - m∧n % m≠0):=by
 rw [Int.tmod_eq_emod]
 split
 ·left;omega
 ·next hc =>
  right
  rw [not_or] at hc
  refine ⟨?_,fun h0=>hc.2 (Int.dvd_of_emod_eq_zero h0)⟩
  have:(m.natAbs:Int) = m:=by omega
  omega
theorem bT (n m:Int) (h:0 < m) (h':m≤9223372036854775807):aw n m = some (n % m):=by
 rw [HS,ab (by omega)]
 have h1:=Int.emod_nonneg n (show m≠0 by omega)
 have h2:=Int.emod_lt_of_pos n h
 rcases MN n h with hc | ⟨hc,hz⟩
 ·rw [hc,bp (by omega)];rfl
 ·rw [hc,aV (by omega),cond_true,ay (by omega) (by omega)]
  congr 1;omega
theorem Ru (n m:Int) (h:0 < m) (h':m≤9223372036854775807):En (fun y=>0≤y∧y < m) (aw n m) :=
 .of (bT n m h h') ⟨Int.emod_nonneg _ (by omega),Int.emod_lt_of_pos _ h⟩
theorem iZ {α:Type} {Q:α→Prop} {n m:Int} {f:Int→Option α} (h:0 < m∧m≤9223372036854775807) (hf:∀ y,0≤y→y < m→En Q (f y)):En Q ((aw n m).bind f) :=
 .bind (Ru n m h.1 (by omega)) fun y hy=>hf y hy.1 hy.2
section
variable {n:List Int} (hn:n.length≤9223372036854775807)
include hn
set_option maxHeartbeats 4000000 in
end
end Go.Ax
set_option linter.all false
/- Loops that walk a list;letters, fields and validity of facts. -/
set_option maxRecDepth 100000
namespace Go.Ax
theorem cz {T:Type} {l:List T} {i:Nat} {z:T} (hi:i < l.length):gD l ((i:Int)).toNat z = l[i]:=by
 show l.getD _ _ = _
 rw [Int.toNat_natCast,List.getD_eq_getElem?_getD,List.getElem?_eq_getElem hi];rfl
theorem O0 {i:Nat} (h:i < 9223372036854775807):ac ((i:Int)+1) = ((i+1:Nat):Int):=by rw [ay (by omega) (by omega)];omega
theorem xH {T S R:Type} (l:List T) (F:Int→S→Option R) (g:S→T→S) (Inv:Nat→S→Prop)
  (h:∀ (i:Nat) (s:S) (hi:i < l.length),Inv i s→F (i:Int) s = F ((i+1:Nat):Int) (g s l[i])∧Inv (i+1) (g s l[i])) (s:S) (h0:Inv 0 s):F 0 s = F (l.length:Int) (l.foldl g s)∧Inv l.length (l.foldl g s):=by
 have key:∀ (n i:Nat) (s:S),l.length = i+n→Inv i s→F (i:Int) s = F (l.length:Int) ((l.drop i).foldl g s)∧Inv l.length ((l.drop i).foldl g s):=by
  intro n
  induction n with
  | zero =>
   intro i s hn hs
   rw [List.drop_of_length_le (by omega),List.foldl_nil]
   have:i = l.length:=by omega
   subst this
   exact ⟨rfl,hs⟩
  | succ n ih =>
   intro i s hn hs
   have hi:i < l.length:=by omega
   obtain ⟨h1,h2⟩:=h i s hi hs
   rw [h1,List.drop_eq_getElem_cons hi,List.foldl_cons]
   exact ih (i+1) _ (by omega) h2
 exact key l.length 0 s (by omega) h0
theorem P6 {T A R:Type} (l:List T) (F:Int→List A→Option R) (g:T→List A) (B:Nat) (hB:∀ x∈l,(g x).length≤B)
  (h:∀ (i:Nat) (out:List A) (hi:i < l.length),out.length≤i*B→F (i:Int) out = F ((i+1:Nat):Int) (out++g l[i])):F 0 [] = F (l.length:Int) (l.flatMap g):=by
 have:=(xH l F (fun out x=>out++g x) (fun i out=>out.length≤i*B) (fun i out hi ho=>⟨h i out hi ho,by
  have:=hB _ (List.getElem_mem hi)
  rw [List.length_append,Nat.succ_mul];omega⟩) [] (by simp)).1
 rw [this]
 have e:∀ (m:List T) (o:List A),m.foldl (fun out x=>out++g x) o = o++m.flatMap g:=by
  intro m
  induction m with
  | nil=>intro o;simp
  | cons x m ih=>intro o;rw [List.foldl_cons,ih,List.flatMap_cons,List.append_assoc]
 rw [e,List.nil_append]
theorem oC {T A:Type} (p:T→Bool) (g:T→A):∀ l:List T,(l.flatMap fun x=>if p x = true then [g x] else []) = (l.filter p).map g
 | []=>rfl
 | x :: l=>by
  rw [List.flatMap_cons,oC p g l,List.filter_cons]
  split <;> simp
theorem AV {T R:Type} (l:List T) (F:Int→Option R) (p:T→Bool) (y n:Option R) (hn:F (l.length:Int) = n)
  (h:∀ (i:Nat) (hi:i < l.length),F (i:Int) = if p l[i] = true then y else F ((i+1:Nat):Int)):F 0 = if l.any p = true then y else n:=by
 have key:∀ (n' i:Nat),l.length = i+n'→F (i:Int) = if (l.drop i).any p = true then y else n:=by
  intro n'
  induction n' with
  | zero =>
   intro i hi
   rw [List.drop_of_length_le (by omega)]
   have:i = l.length:=by omega
   subst this
   simpa using hn
  | succ n' ih =>
   intro i hi
   have hlt:i < l.length:=by omega
   rw [h i hlt,List.drop_eq_getElem_cons hlt,List.any_cons]
   cases hp:p l[i] with
   | true=>simp
   | false=>rw [Bool.false_or,if_neg (by simp)];exact ih (i+1) (by omega)
 exact key l.length 0 (by omega)
theorem dj {i n:Nat} (h:i < n):aa ((i:Int) < (n:Int)) = true:=aV (by omega)
theorem cJ (n:Nat):aa ((n:Int) < (n:Int)) = false:=bp (by omega)
theorem bH (i:Nat):aa ((0:Int)≤(i:Int)) = true:=aV (by omega)
theorem ap {α:Type} (o:Option α):gb true o = o:=rfl
theorem co {i n:Nat} (h:i < n) (hn:n≤1000000000000):ac ((i:Int)+1) = ((i+1:Nat):Int):=O0 (by omega)
theorem Pr {α:Type} {n k:Nat} {o:Option α} (h:(n+1)*k≤140737488355328:=by omega) (h2:n+1≤140737488355328:=by omega):(gb (aa (((n+1)*k)≤140737488355328))<|gb (aa ((n+1)≤140737488355328)) o) = o:=by
 rw [ab h,ab h2]
def bG (k:Int):List Nat :=
 if k = 1 then [83,80,84,72,67,65] else if k = 2 then [83,80,72,67,65] else if k = 3 then [83,80,72,67,65] else if k = 4 then [83,80,84] else
 if k = 5 then [83,80] else if k = 6 then [83,80,67,65] else if k = 7 then [83,80] else if k = 8 then [83,80] else if k = 9 then [83,80] else
 if k = 10 then [83,80,82] else if k = 11 then [80] else if k = 12 then [80] else if k = 13 then [80] else if k = 14 then [80,82] else []
theorem kinds {k:Int} (h1:1≤k) (h2:k≤14):k = 1∨k = 2∨k = 3∨k = 4∨k = 5∨k = 6∨k = 7∨k = 8∨k = 9∨k = 10∨k = 11∨k = 12∨k = 13∨k = 14:=by omega
theorem k6 {k:Int} (h:¬ (1≤k∧k≤14)):bG k = []:=by
 unfold bG
 have e:∀ n:Int,1≤n→n≤14→k≠n:=fun n a b c=>h (by omega)
 rw [if_neg (e 1 (by omega) (by omega)),if_neg (e 2 (by omega) (by omega)),if_neg (e 3 (by omega) (by omega)),if_neg (e 4 (by omega) (by omega)),if_neg (e 5 (by omega) (by omega)),if_neg (e 6 (by omega) (by omega)),if_neg (e 7 (by omega) (by omega)),
  if_neg (e 8 (by omega) (by omega)),if_neg (e 9 (by omega) (by omega)),if_neg (e 10 (by omega) (by omega)),if_neg (e 11 (by omega) (by omega)),if_neg (e 12 (by omega) (by omega)),if_neg (e 13 (by omega) (by omega)),if_neg (e 14 (by omega) (by omega))]
theorem ro (k:Int):gx k = some (aI (bG k)):=by
 rw [I5]
 simp only [A5]
 simp only [Av]
 simp only [w8]
 by_cases h:1≤k∧k≤14
 ·obtain rfl | rfl | rfl | rfl | rfl | rfl | rfl | rfl | rfl | rfl | rfl | rfl | rfl | rfl:=kinds h.1 h.2 <;> rfl
 ·rw [k6 h]
  have e:∀ n:Int,1≤n→n≤14→am k n = false:=fun n a b=>eJ.2 fun c=>h (by omega)
  simp only [e 1 (by omega) (by omega),e 2 (by omega) (by omega),e 3 (by omega) (by omega),e 4 (by omega) (by omega),e 5 (by omega) (by omega),e 6 (by omega) (by omega),e 7 (by omega) (by omega),e 8 (by omega) (by omega),e 9 (by omega) (by omega),e 10 (by omega) (by omega),e 11 (by omega) (by omega),e 12 (by omega) (by omega),e 13 (by omega) (by omega),e 14 (by omega) (by omega),cond_false]
theorem i6 (k:Int):jP k = some (aI (bG k)):=by
 rw [G9]
 by_cases h:1≤k∧k≤14
 ·rw [bp (p:=k < 1) (by omega),bp (p:=15≤k) (by omega),cond_false,cond_false,ab (by omega),ab (by omega)]
  obtain rfl | rfl | rfl | rfl | rfl | rfl | rfl | rfl | rfl | rfl | rfl | rfl | rfl | rfl:=kinds h.1 h.2 <;> rfl
 ·rw [k6 h]
  have:(bif aa (k < 1) then true else aa (15≤k)) = true:=by
   rw [Dg,Bool.or_eq_true,decide_eq_true_iff,decide_eq_true_iff];omega
  rw [this];rfl
def em (k:Int) (c:Nat):Bool:=(bG k).contains c
theorem mv (k:Int):∀ c∈bG k,c < 256:=by
 by_cases h:1≤k∧k≤14
 ·obtain rfl | rfl | rfl | rfl | rfl | rfl | rfl | rfl | rfl | rfl | rfl | rfl | rfl | rfl:=kinds h.1 h.2 <;> decide
 ·rw [k6 h];intro c hc;simp at hc
theorem lG (k:Int):(bG k).length≤6:=by
 by_cases h:1≤k∧k≤14
 ·obtain rfl | rfl | rfl | rfl | rfl | rfl | rfl | rfl | rfl | rfl | rfl | rfl | rfl | rfl:=kinds h.1 h.2 <;> decide
 ·rw [k6 h];decide
theorem qt (l:List Nat):(aI l).toList = l.map UInt8.ofNat:=by
 rw [ByteArray.toList_eq]
 rfl
theorem RA (s:ByteArray) (i:Nat) (h:i < s.size):s[i]! = s.data.toList[i]'(by simpa using h):=by
 rw [getElem!_pos s i h]
 rfl
theorem Dk (s:ByteArray) (b:UInt8):0≤Go.firstIdx s b↔b∈s.data.toList:=by
 unfold Go.firstIdx
 constructor
 ·intro h
  split at h
  ·next i hi =>
   have h1:=List.find?_some hi
   have h2:=List.mem_range.1 (List.mem_of_find?_eq_some hi)
   rw [RA s i h2] at h1
   have h3:s.data.toList[i]'(by simpa using h2) = b:=by simpa using h1
   rw [← h3]
   exact List.getElem_mem _
  ·simp at h
 ·intro h
  obtain ⟨i,hi,e⟩:=List.getElem_of_mem h
  have h2:i < s.size:=by simpa using hi
  split
  ·exact Int.natCast_nonneg _
  ·next hn =>
   have:=List.find?_eq_none.1 hn i (List.mem_range.2 h2)
   rw [RA s i h2,e] at this
   simp at this
theorem Nv {l:List Nat} (hl:∀ c∈l,c < 256) {c:Nat} (hc:c < 256):UInt8.ofNat c∈(aI l).data.toList↔c∈l:=by
 show UInt8.ofNat c∈l.map UInt8.ofNat↔_
 constructor
 ·intro h
  obtain ⟨d,hd,e⟩:=List.mem_map.1 h
  have h1:=congrArg UInt8.toNat e
  have h2:(UInt8.ofNat d).toNat = d:=by simp [Nat.mod_eq_of_lt (hl d hd)]
  have h3:(UInt8.ofNat c).toNat = c:=by simp [Nat.mod_eq_of_lt hc]
  rw [h2,h3] at h1
  subst h1;exact hd
 ·exact fun h=>List.mem_map_of_mem h
theorem Dc (l:List Nat) (i:Nat) (h:i < l.length):(aI l).data.getD i (UInt8.ofNat 0) = UInt8.ofNat l[i]:=by
 show ((l.map UInt8.ofNat).toArray).getD i _ = _
 rw [Array.getD_eq_getD_getElem?]
 simp [h]
theorem je (k:Int) (c:Nat) (hc:c < 256):fp (aI [c]) (aI (bG k)) = some (em k c):=by
 rw [DX,yU,BU,xE]
 have h1:((aI [c]).size:Int) = 1:=rfl
 have h2:(((((aI [c]).data.getD 0 (UInt8.ofNat 0)).toNat:Int))).toNat.toUInt8 = UInt8.ofNat c:=by
  show (((UInt8.ofNat c).toNat:Int)).toNat.toUInt8 = UInt8.ofNat c
  rw [Int.toNat_natCast]
  simp [Nat.mod_eq_of_lt hc]
 have hz:am 1 0 = false:=rfl
 have ho:am 1 1 = true:=rfl
 rw [h1,hz,ho,cond_false]
 unfold em
 have hcon:(bG k).contains c = decide (c∈bG k):=by simp
 rw [hcon]
 cases he:ot (aI [c]) (aI (bG k)) with
 | true =>
  have e:[UInt8.ofNat c] = (bG k).map UInt8.ofNat:=by
   have:(aI [c]).toList = (aI (bG k)).toList:=by simpa using he
   rwa [qt,qt] at this
  have hm:c∈bG k:=(Nv (mv k) hc).1 (by show _∈(bG k).map UInt8.ofNat;rw [← e];simp)
  simp [hm]
 | false =>
  rw [cond_false,cond_true,ab (by decide),tj]
  show ((((some (Go.firstIdx _ _)).bind _).bind _).bind _).bind _ = _
  simp only [Option.bind_some,Option.some.injEq]
  rw [h2,decide_eq_decide,Dk,Nv (mv k) hc]
def ar (x l h:Int):Bool:=decide (l≤x)&&decide (x≤h)
theorem uW (x l h:Int):iM x l h = some (ar x l h):=by
 rw [Ex,dS];rfl
def cr (u:Bool) (x l h:Int):Bool:=if u then ar x l h else x == 0
theorem FR (u:Bool) (x l h:Int):im u x l h = some (cr u x l h):=by
 rw [Hj,uW]
 unfold cr
 cases u <;> simp <;> cases ar x l h <;> rfl
def AM (s:GSpan):Bool:=decide (0≤s.From)&&decide (s.From < s.To)&&decide (s.To≤73049)
theorem zb (s:GSpan):pH s = some (AM s):=by
 rw [Bf,dS,dS];rfl
def xg (f:GFact):Bool:=if f.Kind = 4 then f.State != f.Seat else if f.Kind = 11∨f.Kind = 12 then f.Span.To == f.Span.From+1 else if f.Kind = 10∨f.Kind = 14 then f.Ref != f.Person else true
def cq (f:GFact):Bool :=
 !(bG f.Kind).isEmpty&&ar f.Issuer 0 5&&ar f.Number 1 999&&ar f.Version 1 99&&ar f.Person 1 99 &&
 cr (em f.Kind 83) f.State 0 5&&cr (em f.Kind 84) f.Seat 0 5&&AM f.Span &&
 cr (em f.Kind 72) f.Share 1 100&&cr (em f.Kind 67) f.Currency 1 999&&cr (em f.Kind 65) f.Amount 0 1000000000&&cr (em f.Kind 82) f.Ref 1 99&&xg f
theorem Bu {x l h:Int}:ar x l h = true↔l≤x∧x≤h:=by
 unfold ar
 simp only [Bool.and_eq_true,decide_eq_true_eq]
theorem Gb {s:GSpan}:AM s = true↔0≤s.From∧s.From < s.To∧s.To≤73049:=by
 unfold AM
 simp only [Bool.and_eq_true,decide_eq_true_eq,and_assoc]
theorem M4 (f:GFact):cq f = true↔(bG f.Kind).isEmpty = false∧(0≤f.Issuer∧f.Issuer≤5)∧(1≤f.Number∧f.Number≤999)∧(1≤f.Version∧f.Version≤99)∧(1≤f.Person∧f.Person≤99) ∧
  cr (em f.Kind 83) f.State 0 5 = true∧cr (em f.Kind 84) f.Seat 0 5 = true∧(0≤f.Span.From∧f.Span.From < f.Span.To∧f.Span.To≤73049)∧cr (em f.Kind 72) f.Share 1 100 = true∧cr (em f.Kind 67) f.Currency 1 999 = true ∧
  cr (em f.Kind 65) f.Amount 0 1000000000 = true∧cr (em f.Kind 82) f.Ref 1 99 = true∧xg f = true:=by
 unfold cq
 simp only [Bool.and_eq_true,Bu,Gb,Bool.not_eq_true',and_assoc]
theorem IK (k:Int):ot (aI (bG k)) (aI []) = (bG k).isEmpty:=by
 show ((aI (bG k)).toList == (aI []).toList) = _
 rw [qt,qt]
 cases bG k <;> rfl
theorem G5 (f:GFact) (h:AM f.Span = true):(bif (am f.Kind 4) then some (aQ f.State f.Seat) else bif (am f.Kind 11) then gT f.Kind (am f.Kind 11) f else gT f.Kind (am f.Kind 12) f) = some (xg f):=by
 have hs:=Gb.1 h
 rw [pn,pn,ay (by omega) (by omega)]
 unfold xg
 by_cases k4:f.Kind = 4
 ·simp [k4,am,aQ]
 by_cases k11:f.Kind = 11
 ·simp [k11,am,aQ]
 by_cases k12:f.Kind = 12
 ·simp [k12,am,aQ]
 by_cases k10:f.Kind = 10
 ·simp [k10,am,aQ]
 by_cases k14:f.Kind = 14
 ·simp [k14,am,aQ]
 have e:∀ n:Int,f.Kind≠n→(f.Kind == n) = false:=fun n h=>by simpa using h
 simp [am,aQ,e 4 k4,e 11 k11,e 12 k12,e 10 k10,e 14 k14,k4,k11,k12,k10,k14]
theorem E8 (f:GFact):yn f = some (cq f):=by
 rw [Hc,ro,Option.bind_some]
 simp only [uW,je f.Kind 83 (by decide),je f.Kind 84 (by decide),je f.Kind 72 (by decide),je f.Kind 67 (by decide),je f.Kind 65 (by decide),je f.Kind 82 (by decide),FR,zb,Option.bind_some,IK]
 unfold cq
 cases hA:(bG f.Kind).isEmpty <;> cases hB:ar f.Issuer 0 5 <;> cases hC:ar f.Number 1 999 <;> cases hD:ar f.Version 1 99 <;> cases hE:ar f.Person 1 99 <;> simp only [Bool.not_true,Bool.not_false,cond_true,cond_false,Bool.false_and,Bool.true_and,Bool.and_false]
 cases hF:cr (em f.Kind 83) f.State 0 5 <;> cases hG:cr (em f.Kind 84) f.Seat 0 5 <;> cases hH:AM f.Span <;> simp only [Bool.not_true,Bool.not_false,cond_true,cond_false,Bool.false_and,Bool.true_and,Bool.and_false]
 rw [G5 f hH]
 cases hI:cr (em f.Kind 72) f.Share 1 100 <;> cases hJ:cr (em f.Kind 67) f.Currency 1 999 <;> cases hK:cr (em f.Kind 65) f.Amount 0 1000000000 <;> cases hL:cr (em f.Kind 82) f.Ref 1 99 <;> simp only [Bool.not_true,Bool.not_false,cond_true,cond_false,Bool.false_and,Bool.true_and,Bool.and_false]
end Go.Ax
