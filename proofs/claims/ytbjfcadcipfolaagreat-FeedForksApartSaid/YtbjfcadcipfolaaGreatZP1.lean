import Derived.Test.YtbjfcadcipfolaaGreatZE
import Derived.Test.YtbjfcadcipfolaaGreatZP0
set_option linter.all false
/- The reading of tokens ends. -/
set_option maxRecDepth 100000
namespace Go.Ax
end Go.Ax
set_option linter.all false
/- Fractions, decimals, words, trees: what is asked of them ends. -/
set_option maxRecDepth 100000
namespace Go.Ax
end Go.Ax
set_option linter.all false
/- The reading of statutes ends. -/
set_option maxRecDepth 100000
namespace Go.Ax
end Go.Ax
set_option linter.all false
/- Clauses, versions, statutes: their reading ends. -/
set_option maxRecDepth 100000
namespace Go.Ax
section
end
end Go.Ax
set_option linter.all false
/- Raw numbers, the texts of statutes and the made laws: their making ends. -/
set_option maxRecDepth 100000
namespace Go.Ax
theorem H7 (n:Int) {m:Int} (h:0 < m):(n.tmod m = n % m)∨(n.tmod m = n % m - m∧n % m≠0):=by
 rw [Int.tmod_eq_emod]
 split
 ·left;omega
 ·next hc =>
  right
  rw [not_or] at hc
  refine ⟨?_,fun h0=>hc.2 (Int.dvd_of_emod_eq_zero h0)⟩
  have:(m.natAbs:Int) = m:=by omega
  omega
theorem Dj (n m:Int) (h:0 < m) (h':m≤9223372036854775807):aC n m = some (n % m):=by
 rw [EN,ac (by omega)]
 have h1:=Int.emod_nonneg n (show m≠0 by omega)
 have h2:=Int.emod_lt_of_pos n h
 rcases H7 n h with hc | ⟨hc,hz⟩
 ·rw [hc,bJ (by omega)];rfl
 ·rw [hc,bf (by omega),cond_true,aD (by omega) (by omega)]
  congr 1;omega
theorem Nc (n m:Int) (h:0 < m) (h':m≤9223372036854775807):En (fun y=>0≤y∧y < m) (aC n m) :=
 .of (Dj n m h h') ⟨Int.emod_nonneg _ (by omega),Int.emod_lt_of_pos _ h⟩
theorem kq {α:Type} {Q:α→Prop} {n m:Int} {f:Int→Option α} (h:0 < m∧m≤9223372036854775807) (hf:∀ y,0≤y→y < m→En Q (f y)):En Q ((aC n m).bind f) :=
 .bind (Nc n m h.1 (by omega)) fun y hy=>hf y hy.1 hy.2
section
variable {n:List Int} (hn:n.length≤9223372036854775807)
include hn
set_option maxHeartbeats 4000000 in
end
end Go.Ax
set_option linter.all false
/- Loops that walk a list;letters, fields and validity of facts. -/
set_option maxRecDepth 100000
namespace Go.Ax
theorem eH {T:Type} {l:List T} {i:Nat} {z:T} (hi:i < l.length):gD l ((i:Int)).toNat z = l[i]:=by
 show l.getD _ _ = _
 rw [Int.toNat_natCast,List.getD_eq_getElem?_getD,List.getElem?_eq_getElem hi];rfl
theorem K9 {i:Nat} (h:i < 9223372036854775807):ae ((i:Int)+1) = ((i+1:Nat):Int):=by rw [aD (by omega) (by omega)];omega
theorem wJ {T S R:Type} (l:List T) (F:Int→S→Option R) (g:S→T→S) (Inv:Nat→S→Prop)
  (h:∀ (i:Nat) (s:S) (hi:i < l.length),Inv i s→F (i:Int) s = F ((i+1:Nat):Int) (g s l[i])∧Inv (i+1) (g s l[i])) (s:S) (h0:Inv 0 s):F 0 s = F (l.length:Int) (l.foldl g s)∧Inv l.length (l.foldl g s):=by
 have key:∀ (n i:Nat) (s:S),l.length = i+n→Inv i s→F (i:Int) s = F (l.length:Int) ((l.drop i).foldl g s)∧Inv l.length ((l.drop i).foldl g s):=by
  intro n
  induction n with
  | zero =>
   intro i s hn hs
   rw [List.drop_of_length_le (by omega),List.foldl_nil]
   have:i = l.length:=by omega
   subst this
   exact ⟨rfl,hs⟩
  | succ n ih =>
   intro i s hn hs
   have hi:i < l.length:=by omega
   obtain ⟨h1,h2⟩:=h i s hi hs
   rw [h1,List.drop_eq_getElem_cons hi,List.foldl_cons]
   exact ih (i+1) _ (by omega) h2
 exact key l.length 0 s (by omega) h0
theorem LD {T A R:Type} (l:List T) (F:Int→List A→Option R) (g:T→List A) (B:Nat) (hB:∀ x∈l,(g x).length≤B)
  (h:∀ (i:Nat) (out:List A) (hi:i < l.length),out.length≤i*B→F (i:Int) out = F ((i+1:Nat):Int) (out++g l[i])):F 0 [] = F (l.length:Int) (l.flatMap g):=by
 have:=(wJ l F (fun out x=>out++g x) (fun i out=>out.length≤i*B) (fun i out hi ho=>⟨h i out hi ho,by
  have:=hB _ (List.getElem_mem hi)
  rw [List.length_append,Nat.succ_mul];omega⟩) [] (by simp)).1
 rw [this]
 have e:∀ (m:List T) (o:List A),m.foldl (fun out x=>out++g x) o = o++m.flatMap g:=by
  intro m
  induction m with
  | nil=>intro o;simp
  | cons x m ih=>intro o;rw [List.foldl_cons,ih,List.flatMap_cons,List.append_assoc]
 rw [e,List.nil_append]
theorem md {T A:Type} (p:T→Bool) (g:T→A):∀ l:List T,(l.flatMap fun x=>if p x = true then [g x] else []) = (l.filter p).map g
 | []=>rfl
 | x :: l=>by
  rw [List.flatMap_cons,md p g l,List.filter_cons]
  split <;> simp
theorem AB {T R:Type} (l:List T) (F:Int→Option R) (p:T→Bool) (y n:Option R) (hn:F (l.length:Int) = n)
  (h:∀ (i:Nat) (hi:i < l.length),F (i:Int) = if p l[i] = true then y else F ((i+1:Nat):Int)):F 0 = if l.any p = true then y else n:=by
 have key:∀ (n' i:Nat),l.length = i+n'→F (i:Int) = if (l.drop i).any p = true then y else n:=by
  intro n'
  induction n' with
  | zero =>
   intro i hi
   rw [List.drop_of_length_le (by omega)]
   have:i = l.length:=by omega
   subst this
   simpa using hn
  | succ n' ih =>
   intro i hi
   have hlt:i < l.length:=by omega
   rw [h i hlt,List.drop_eq_getElem_cons hlt,List.any_cons]
   cases hp:p l[i] with
   | true=>simp
   | false=>rw [Bool.false_or,if_neg (by simp)];exact ih (i+1) (by omega)
 exact key l.length 0 (by omega)
theorem eD {i n:Nat} (h:i < n):aa ((i:Int) < (n:Int)) = true:=bf (by omega)
theorem dq (n:Nat):aa ((n:Int) < (n:Int)) = false:=bJ (by omega)
theorem cu (i:Nat):aa ((0:Int)≤(i:Int)) = true:=bf (by omega)
theorem aF {α:Type} (o:Option α):gb true o = o:=rfl
theorem di {i n:Nat} (h:i < n) (hn:n≤1000000000000):ae ((i:Int)+1) = ((i+1:Nat):Int):=K9 (by omega)
theorem Ld {α:Type} {n k:Nat} {o:Option α} (h:(n+1)*k≤140737488355328:=by omega) (h2:n+1≤140737488355328:=by omega):(gb (aa (((n+1)*k)≤140737488355328))<|gb (aa ((n+1)≤140737488355328)) o) = o:=by
 rw [ac h,ac h2]
def bp (k:Int):List Nat :=
 if k = 1 then [83,80,84,72,67,65] else if k = 2 then [83,80,72,67,65] else if k = 3 then [83,80,72,67,65] else if k = 4 then [83,80,84] else
 if k = 5 then [83,80] else if k = 6 then [83,80,67,65] else if k = 7 then [83,80] else if k = 8 then [83,80] else if k = 9 then [83,80] else
 if k = 10 then [83,80,82] else if k = 11 then [80] else if k = 12 then [80] else if k = 13 then [80] else if k = 14 then [80,82] else []
theorem kinds {k:Int} (h1:1≤k) (h2:k≤14):k = 1∨k = 2∨k = 3∨k = 4∨k = 5∨k = 6∨k = 7∨k = 8∨k = 9∨k = 10∨k = 11∨k = 12∨k = 13∨k = 14:=by omega
theorem jt {k:Int} (h:¬ (1≤k∧k≤14)):bp k = []:=by
 unfold bp
 have e:∀ n:Int,1≤n→n≤14→k≠n:=fun n a b c=>h (by omega)
 rw [if_neg (e 1 (by omega) (by omega)),if_neg (e 2 (by omega) (by omega)),if_neg (e 3 (by omega) (by omega)),if_neg (e 4 (by omega) (by omega)),if_neg (e 5 (by omega) (by omega)),if_neg (e 6 (by omega) (by omega)),if_neg (e 7 (by omega) (by omega)),
  if_neg (e 8 (by omega) (by omega)),if_neg (e 9 (by omega) (by omega)),if_neg (e 10 (by omega) (by omega)),if_neg (e 11 (by omega) (by omega)),if_neg (e 12 (by omega) (by omega)),if_neg (e 13 (by omega) (by omega)),if_neg (e 14 (by omega) (by omega))]
theorem oA (k:Int):e9 k = some (aE (bp k)):=by
 rw [Fw]
 simp only [w0]
 simp only [vN]
 simp only [sZ]
 by_cases h:1≤k∧k≤14
 ·obtain rfl | rfl | rfl | rfl | rfl | rfl | rfl | rfl | rfl | rfl | rfl | rfl | rfl | rfl:=kinds h.1 h.2 <;> rfl
 ·rw [jt h]
  have e:∀ n:Int,1≤n→n≤14→ak k n = false:=fun n a b=>gz.2 fun c=>h (by omega)
  simp only [e 1 (by omega) (by omega),e 2 (by omega) (by omega),e 3 (by omega) (by omega),e 4 (by omega) (by omega),e 5 (by omega) (by omega),e 6 (by omega) (by omega),e 7 (by omega) (by omega),e 8 (by omega) (by omega),e 9 (by omega) (by omega),e 10 (by omega) (by omega),e 11 (by omega) (by omega),e 12 (by omega) (by omega),e 13 (by omega) (by omega),e 14 (by omega) (by omega),cond_false]
theorem gO (k:Int):io k = some (aE (bp k)):=by
 rw [Dk]
 by_cases h:1≤k∧k≤14
 ·rw [bJ (p:=k < 1) (by omega),bJ (p:=15≤k) (by omega),cond_false,cond_false,ac (by omega),ac (by omega)]
  obtain rfl | rfl | rfl | rfl | rfl | rfl | rfl | rfl | rfl | rfl | rfl | rfl | rfl | rfl:=kinds h.1 h.2 <;> rfl
 ·rw [jt h]
  have:(bif aa (k < 1) then true else aa (15≤k)) = true:=by
   rw [zC,Bool.or_eq_true,decide_eq_true_iff,decide_eq_true_iff];omega
  rw [this];rfl
def dm (k:Int) (c:Nat):Bool:=(bp k).contains c
theorem kK (k:Int):∀ c∈bp k,c < 256:=by
 by_cases h:1≤k∧k≤14
 ·obtain rfl | rfl | rfl | rfl | rfl | rfl | rfl | rfl | rfl | rfl | rfl | rfl | rfl | rfl:=kinds h.1 h.2 <;> decide
 ·rw [jt h];intro c hc;simp at hc
theorem jG (k:Int):(bp k).length≤6:=by
 by_cases h:1≤k∧k≤14
 ·obtain rfl | rfl | rfl | rfl | rfl | rfl | rfl | rfl | rfl | rfl | rfl | rfl | rfl | rfl:=kinds h.1 h.2 <;> decide
 ·rw [jt h];decide
theorem nw (l:List Nat):(aE l).toList = l.map UInt8.ofNat:=by
 rw [ByteArray.toList_eq]
 rfl
theorem MA (s:ByteArray) (i:Nat) (h:i < s.size):s[i]! = s.data.toList[i]'(by simpa using h):=by
 rw [getElem!_pos s i h]
 rfl
theorem y0 (s:ByteArray) (b:UInt8):0≤Go.firstIdx s b↔b∈s.data.toList:=by
 unfold Go.firstIdx
 constructor
 ·intro h
  split at h
  ·next i hi =>
   have h1:=List.find?_some hi
   have h2:=List.mem_range.1 (List.mem_of_find?_eq_some hi)
   rw [MA s i h2] at h1
   have h3:s.data.toList[i]'(by simpa using h2) = b:=by simpa using h1
   rw [← h3]
   exact List.getElem_mem _
  ·simp at h
 ·intro h
  obtain ⟨i,hi,e⟩:=List.getElem_of_mem h
  have h2:i < s.size:=by simpa using hi
  split
  ·exact Int.natCast_nonneg _
  ·next hn =>
   have:=List.find?_eq_none.1 hn i (List.mem_range.2 h2)
   rw [MA s i h2,e] at this
   simp at this
theorem Jj {l:List Nat} (hl:∀ c∈l,c < 256) {c:Nat} (hc:c < 256):UInt8.ofNat c∈(aE l).data.toList↔c∈l:=by
 show UInt8.ofNat c∈l.map UInt8.ofNat↔_
 constructor
 ·intro h
  obtain ⟨d,hd,e⟩:=List.mem_map.1 h
  have h1:=congrArg UInt8.toNat e
  have h2:(UInt8.ofNat d).toNat = d:=by simp [Nat.mod_eq_of_lt (hl d hd)]
  have h3:(UInt8.ofNat c).toNat = c:=by simp [Nat.mod_eq_of_lt hc]
  rw [h2,h3] at h1
  subst h1;exact hd
 ·exact fun h=>List.mem_map_of_mem h
theorem zk (l:List Nat) (i:Nat) (h:i < l.length):(aE l).data.getD i (UInt8.ofNat 0) = UInt8.ofNat l[i]:=by
 show ((l.map UInt8.ofNat).toArray).getD i _ = _
 rw [Array.getD_eq_getD_getElem?]
 simp [h]
theorem gQ (k:Int) (c:Nat) (hc:c < 256):d8 (aE [c]) (aE (bp k)) = some (dm k c):=by
 rw [Av,uQ,xP,td]
 have h1:((aE [c]).size:Int) = 1:=rfl
 have h2:(((((aE [c]).data.getD 0 (UInt8.ofNat 0)).toNat:Int))).toNat.toUInt8 = UInt8.ofNat c:=by
  show (((UInt8.ofNat c).toNat:Int)).toNat.toUInt8 = UInt8.ofNat c
  rw [Int.toNat_natCast]
  simp [Nat.mod_eq_of_lt hc]
 have hz:ak 1 0 = false:=rfl
 have ho:ak 1 1 = true:=rfl
 rw [h1,hz,ho,cond_false]
 unfold dm
 have hcon:(bp k).contains c = decide (c∈bp k):=by simp
 rw [hcon]
 cases he:lP (aE [c]) (aE (bp k)) with
 | true =>
  have e:[UInt8.ofNat c] = (bp k).map UInt8.ofNat:=by
   have:(aE [c]).toList = (aE (bp k)).toList:=by simpa using he
   rwa [nw,nw] at this
  have hm:c∈bp k:=(Jj (kK k) hc).1 (by show _∈(bp k).map UInt8.ofNat;rw [← e];simp)
  simp [hm]
 | false =>
  rw [cond_false,cond_true,ac (by decide),pG]
  show ((((some (Go.firstIdx _ _)).bind _).bind _).bind _).bind _ = _
  simp only [Option.bind_some,Option.some.injEq]
  rw [h2,decide_eq_decide,y0,Jj (kK k) hc]
def ap (x l h:Int):Bool:=decide (l≤x)&&decide (x≤h)
theorem qX (x l h:Int):gq x l h = some (ap x l h):=by
 rw [Bc,dM];rfl
def bI (u:Bool) (x l h:Int):Bool:=if u then ap x l h else x == 0
theorem BP (u:Bool) (x l h:Int):fP u x l h = some (bI u x l h):=by
 rw [Dh,qX]
 unfold bI
 cases u <;> simp <;> cases ap x l h <;> rfl
def wO (s:GSpan):Bool:=decide (0≤s.From)&&decide (s.From < s.To)&&decide (s.To≤73049)
theorem vB (s:GSpan):mX s = some (wO s):=by
 rw [wX,dM,dM];rfl
def ut (f:GFact):Bool:=if f.Kind = 4 then f.State != f.Seat else if f.Kind = 11∨f.Kind = 12 then f.Span.To == f.Span.From+1 else if f.Kind = 10∨f.Kind = 14 then f.Ref != f.Person else true
def bH (f:GFact):Bool :=
 !(bp f.Kind).isEmpty&&ap f.Issuer 0 5&&ap f.Number 1 999&&ap f.Version 1 99&&ap f.Person 1 99 &&
 bI (dm f.Kind 83) f.State 0 5&&bI (dm f.Kind 84) f.Seat 0 5&&wO f.Span &&
 bI (dm f.Kind 72) f.Share 1 100&&bI (dm f.Kind 67) f.Currency 1 999&&bI (dm f.Kind 65) f.Amount 0 1000000000&&bI (dm f.Kind 82) f.Ref 1 99&&ut f
theorem xw {x l h:Int}:ap x l h = true↔l≤x∧x≤h:=by
 unfold ap
 simp only [Bool.and_eq_true,decide_eq_true_eq]
theorem Cx {s:GSpan}:wO s = true↔0≤s.From∧s.From < s.To∧s.To≤73049:=by
 unfold wO
 simp only [Bool.and_eq_true,decide_eq_true_eq,and_assoc]
theorem HN (f:GFact):bH f = true↔(bp f.Kind).isEmpty = false∧(0≤f.Issuer∧f.Issuer≤5)∧(1≤f.Number∧f.Number≤999)∧(1≤f.Version∧f.Version≤99)∧(1≤f.Person∧f.Person≤99) ∧
  bI (dm f.Kind 83) f.State 0 5 = true∧bI (dm f.Kind 84) f.Seat 0 5 = true∧(0≤f.Span.From∧f.Span.From < f.Span.To∧f.Span.To≤73049)∧bI (dm f.Kind 72) f.Share 1 100 = true∧bI (dm f.Kind 67) f.Currency 1 999 = true ∧
  bI (dm f.Kind 65) f.Amount 0 1000000000 = true∧bI (dm f.Kind 82) f.Ref 1 99 = true∧ut f = true:=by
 unfold bH
 simp only [Bool.and_eq_true,xw,Cx,Bool.not_eq_true',and_assoc]
theorem Fp (k:Int):lP (aE (bp k)) (aE []) = (bp k).isEmpty:=by
 show ((aE (bp k)).toList == (aE []).toList) = _
 rw [nw,nw]
 cases bp k <;> rfl
theorem Dp (f:GFact) (h:wO f.Span = true):(bif (ak f.Kind 4) then some (aT f.State f.Seat) else bif (ak f.Kind 11) then fq f.Kind (ak f.Kind 11) f else fq f.Kind (ak f.Kind 12) f) = some (ut f):=by
 have hs:=Cx.1 h
 rw [mB,mB,aD (by omega) (by omega)]
 unfold ut
 by_cases k4:f.Kind = 4
 ·simp [k4,ak,aT]
 by_cases k11:f.Kind = 11
 ·simp [k11,ak,aT]
 by_cases k12:f.Kind = 12
 ·simp [k12,ak,aT]
 by_cases k10:f.Kind = 10
 ·simp [k10,ak,aT]
 by_cases k14:f.Kind = 14
 ·simp [k14,ak,aT]
 have e:∀ n:Int,f.Kind≠n→(f.Kind == n) = false:=fun n h=>by simpa using h
 simp [ak,aT,e 4 k4,e 11 k11,e 12 k12,e 10 k10,e 14 k14,k4,k11,k12,k10,k14]
theorem BK (f:GFact):sU f = some (bH f):=by
 rw [Dc,oA,Option.bind_some]
 simp only [qX,gQ f.Kind 83 (by decide),gQ f.Kind 84 (by decide),gQ f.Kind 72 (by decide),gQ f.Kind 67 (by decide),gQ f.Kind 65 (by decide),gQ f.Kind 82 (by decide),BP,vB,Option.bind_some,Fp]
 unfold bH
 cases hA:(bp f.Kind).isEmpty <;> cases hB:ap f.Issuer 0 5 <;> cases hC:ap f.Number 1 999 <;> cases hD:ap f.Version 1 99 <;> cases hE:ap f.Person 1 99 <;> simp only [Bool.not_true,Bool.not_false,cond_true,cond_false,Bool.false_and,Bool.true_and,Bool.and_false]
 cases hF:bI (dm f.Kind 83) f.State 0 5 <;> cases hG:bI (dm f.Kind 84) f.Seat 0 5 <;> cases hH:wO f.Span <;> simp only [Bool.not_true,Bool.not_false,cond_true,cond_false,Bool.false_and,Bool.true_and,Bool.and_false]
 rw [Dp f hH]
 cases hI:bI (dm f.Kind 72) f.Share 1 100 <;> cases hJ:bI (dm f.Kind 67) f.Currency 1 999 <;> cases hK:bI (dm f.Kind 65) f.Amount 0 1000000000 <;> cases hL:bI (dm f.Kind 82) f.Ref 1 99 <;> simp only [Bool.not_true,Bool.not_false,cond_true,cond_false,Bool.false_and,Bool.true_and,Bool.and_false]
end Go.Ax
