import Derived.Test.YtnnblpijaoocaaaGreatXP5
set_option linter.all false
/- Loops that walk a list;letters, fields and validity of facts. -/
set_option maxRecDepth 100000
namespace Go.Ax
theorem aH {T:Type} {l:List T} {i:Nat} {z:T} (hi:i < l.length):gD l ((i:Int)).toNat z = l[i]:=by
 show l.getD _ _ = _
 rw [Int.toNat_natCast,List.getD_eq_getElem?_getD,List.getElem?_eq_getElem hi];rfl
theorem C8 {i:Nat} (h:i < 9223372036854775807):ab ((i:Int)+1) = ((i+1:Nat):Int):=by rw [al (by omega) (by omega)];omega
theorem kg {T S R:Type} (l:List T) (F:Int→S→Option R) (g:S→T→S) (Inv:Nat→S→Prop)
  (h:∀ (i:Nat) (s:S) (hi:i < l.length),Inv i s→F (i:Int) s = F ((i+1:Nat):Int) (g s l[i])∧Inv (i+1) (g s l[i])) (s:S) (h0:Inv 0 s):F 0 s = F (l.length:Int) (l.foldl g s)∧Inv l.length (l.foldl g s):=by
 have key:∀ (n i:Nat) (s:S),l.length = i+n→Inv i s→F (i:Int) s = F (l.length:Int) ((l.drop i).foldl g s)∧Inv l.length ((l.drop i).foldl g s):=by
  intro n
  induction n with
  | zero =>
   intro i s hn hs
   rw [List.drop_of_length_le (by omega),List.foldl_nil]
   have:i = l.length:=by omega
   subst this
   exact ⟨rfl,hs⟩
  | succ n ih =>
   intro i s hn hs
   have hi:i < l.length:=by omega
   obtain ⟨h1,h2⟩:=h i s hi hs
   rw [h1,List.drop_eq_getElem_cons hi,List.foldl_cons]
   exact ih (i+1) _ (by omega) h2
 exact key l.length 0 s (by omega) h0
theorem Pc {T A R:Type} (l:List T) (F:Int→List A→Option R) (g:T→List A) (B:Nat) (hB:∀ x∈l,(g x).length≤B)
  (h:∀ (i:Nat) (out:List A) (hi:i < l.length),out.length≤i*B→F (i:Int) out = F ((i+1:Nat):Int) (out++g l[i])):F 0 [] = F (l.length:Int) (l.flatMap g):=by
 have:=(kg l F (fun out x=>out++g x) (fun i out=>out.length≤i*B) (fun i out hi ho=>⟨h i out hi ho,by
  have:=hB _ (List.getElem_mem hi)
  rw [List.length_append,Nat.succ_mul];omega⟩) [] (by simp)).1
 rw [this]
 have e:∀ (m:List T) (o:List A),m.foldl (fun out x=>out++g x) o = o++m.flatMap g:=by
  intro m
  induction m with
  | nil=>intro o;simp
  | cons x m ih=>intro o;rw [List.foldl_cons,ih,List.flatMap_cons,List.append_assoc]
 rw [e,List.nil_append]
theorem Cj {T:Type} (p:T→Bool):∀ l:List T,(l.flatMap fun x=>if p x = true then [x] else []) = l.filter p
 | []=>rfl
 | x :: l=>by
  rw [List.flatMap_cons,Cj p l,List.filter_cons]
  split <;> rfl
theorem oN {T A:Type} (p:T→Bool) (g:T→A):∀ l:List T,(l.flatMap fun x=>if p x = true then [g x] else []) = (l.filter p).map g
 | []=>rfl
 | x :: l=>by
  rw [List.flatMap_cons,oN p g l,List.filter_cons]
  split <;> simp
theorem JY {T R:Type} (l:List T) (F:Int→List T→Option R) (p:T→Bool)
  (h:∀ (i:Nat) (out:List T) (hi:i < l.length),out.length≤i→F (i:Int) out = F ((i+1:Nat):Int) (if p l[i] = true then out++[l[i]] else out)):F 0 [] = F (l.length:Int) (l.filter p):=by
 rw [Pc l F (fun x=>if p x = true then [x] else []) 1 (fun x _=>by split <;> simp) fun i out hi ho=>?_,Cj]
 rw [h i out hi (by omega)]
 congr 1
 split <;> simp
theorem QV {T A R:Type} (l:List T) (F:Int→List A→Option R) (p:T→Bool) (g:T→A)
  (h:∀ (i:Nat) (out:List A) (hi:i < l.length),out.length≤i→F (i:Int) out = F ((i+1:Nat):Int) (if p l[i] = true then out++[g l[i]] else out)):F 0 [] = F (l.length:Int) ((l.filter p).map g):=by
 rw [Pc l F (fun x=>if p x = true then [g x] else []) 1 (fun x _=>by split <;> simp) fun i out hi ho=>?_,oN]
 rw [h i out hi (by omega)]
 congr 1
 split <;> simp
theorem lT {T R:Type} (l:List T) (F:Int→Option R) (p:T→Bool) (y n:Option R) (hn:F (l.length:Int) = n)
  (h:∀ (i:Nat) (hi:i < l.length),F (i:Int) = if p l[i] = true then y else F ((i+1:Nat):Int)):F 0 = if l.any p = true then y else n:=by
 have key:∀ (n' i:Nat),l.length = i+n'→F (i:Int) = if (l.drop i).any p = true then y else n:=by
  intro n'
  induction n' with
  | zero =>
   intro i hi
   rw [List.drop_of_length_le (by omega)]
   have:i = l.length:=by omega
   subst this
   simpa using hn
  | succ n' ih =>
   intro i hi
   have hlt:i < l.length:=by omega
   rw [h i hlt,List.drop_eq_getElem_cons hlt,List.any_cons]
   cases hp:p l[i] with
   | true=>simp
   | false=>rw [Bool.false_or,if_neg (by simp)];exact ih (i+1) (by omega)
 exact key l.length 0 (by omega)
theorem aO {i n:Nat} (h:i < n):aa ((i:Int) < (n:Int)) = true:=ax (by omega)
theorem aS (n:Nat):aa ((n:Int) < (n:Int)) = false:=aJ (by omega)
theorem aM (i:Nat):aa ((0:Int)≤(i:Int)) = true:=ax (by omega)
theorem ap {α:Type} (o:Option α):gb true o = o:=rfl
theorem aL {i n:Nat} (h:i < n) (hn:n≤1000000000000):ab ((i:Int)+1) = ((i+1:Nat):Int):=C8 (by omega)
theorem nc {α:Type} {n k:Nat} {o:Option α} (h:(n+1)*k≤140737488355328:=by omega) (h2:n+1≤140737488355328:=by omega):(gb (aa (((n+1)*k)≤140737488355328))<|gb (aa ((n+1)≤140737488355328)) o) = o:=by
 rw [ay h,ay h2]
def d8 (k:Int):List Nat :=
 if k = 1 then [83,80,84,72,67,65] else if k = 2 then [83,80,72,67,65] else if k = 3 then [83,80,72,67,65] else if k = 4 then [83,80,84] else
 if k = 5 then [83,80] else if k = 6 then [83,80,67,65] else if k = 7 then [83,80] else if k = 8 then [83,80] else if k = 9 then [83,80] else
 if k = 10 then [83,80,82] else if k = 11 then [80] else if k = 12 then [80] else if k = 13 then [80] else if k = 14 then [80,82] else []
theorem kinds {k:Int} (h1:1≤k) (h2:k≤14):k = 1∨k = 2∨k = 3∨k = 4∨k = 5∨k = 6∨k = 7∨k = 8∨k = 9∨k = 10∨k = 11∨k = 12∨k = 13∨k = 14:=by omega
theorem ux {k:Int} (h:¬ (1≤k∧k≤14)):d8 k = []:=by
 unfold d8
 have e:∀ n:Int,1≤n→n≤14→k≠n:=fun n a b c=>h (by omega)
 rw [if_neg (e 1 (by omega) (by omega)),if_neg (e 2 (by omega) (by omega)),if_neg (e 3 (by omega) (by omega)),if_neg (e 4 (by omega) (by omega)),if_neg (e 5 (by omega) (by omega)),if_neg (e 6 (by omega) (by omega)),if_neg (e 7 (by omega) (by omega)),
  if_neg (e 8 (by omega) (by omega)),if_neg (e 9 (by omega) (by omega)),if_neg (e 10 (by omega) (by omega)),if_neg (e 11 (by omega) (by omega)),if_neg (e 12 (by omega) (by omega)),if_neg (e 13 (by omega) (by omega)),if_neg (e 14 (by omega) (by omega))]
theorem Jo (k:Int):zY k = some (ac (d8 k)):=by
 rw [ME]
 simp only [B4]
 simp only [Ah]
 simp only [xZ]
 by_cases h:1≤k∧k≤14
 ·obtain rfl | rfl | rfl | rfl | rfl | rfl | rfl | rfl | rfl | rfl | rfl | rfl | rfl | rfl:=kinds h.1 h.2 <;> rfl
 ·rw [ux h]
  have e:∀ n:Int,1≤n→n≤14→ae k n = false:=fun n a b=>il.2 fun c=>h (by omega)
  simp only [e 1 (by omega) (by omega),e 2 (by omega) (by omega),e 3 (by omega) (by omega),e 4 (by omega) (by omega),e 5 (by omega) (by omega),e 6 (by omega) (by omega),e 7 (by omega) (by omega),e 8 (by omega) (by omega),e 9 (by omega) (by omega),e 10 (by omega) (by omega),e 11 (by omega) (by omega),e 12 (by omega) (by omega),e 13 (by omega) (by omega),e 14 (by omega) (by omega),cond_false]
theorem lU (k:Int):l8 k = some (ac (d8 k)):=by
 rw [JN]
 by_cases h:1≤k∧k≤14
 ·rw [aJ (p:=k < 1) (by omega),aJ (p:=15≤k) (by omega),cond_false,cond_false,ay (by omega),ay (by omega)]
  obtain rfl | rfl | rfl | rfl | rfl | rfl | rfl | rfl | rfl | rfl | rfl | rfl | rfl | rfl:=kinds h.1 h.2 <;> rfl
 ·rw [ux h]
  have:(bif aa (k < 1) then true else aa (15≤k)) = true:=by
   rw [nZ,Bool.or_eq_true,decide_eq_true_iff,decide_eq_true_iff];omega
  rw [this];rfl
def dC (k:Int) (c:Nat):Bool:=(d8 k).contains c
theorem vB (k:Int):∀ c∈d8 k,c < 256:=by
 by_cases h:1≤k∧k≤14
 ·obtain rfl | rfl | rfl | rfl | rfl | rfl | rfl | rfl | rfl | rfl | rfl | rfl | rfl | rfl:=kinds h.1 h.2 <;> decide
 ·rw [ux h];intro c hc;simp at hc
theorem tE (k:Int):(d8 k).length≤6:=by
 by_cases h:1≤k∧k≤14
 ·obtain rfl | rfl | rfl | rfl | rfl | rfl | rfl | rfl | rfl | rfl | rfl | rfl | rfl | rfl:=kinds h.1 h.2 <;> decide
 ·rw [ux h];decide
theorem qe (l:List Nat):(ac l).toList = l.map UInt8.ofNat:=by
 rw [ByteArray.toList_eq]
 rfl
theorem U5 (s:ByteArray) (i:Nat) (h:i < s.size):s[i]! = s.data.toList[i]'(by simpa using h):=by
 rw [getElem!_pos s i h]
 rfl
theorem FA (s:ByteArray) (b:UInt8):0≤Go.firstIdx s b↔b∈s.data.toList:=by
 unfold Go.firstIdx
 constructor
 ·intro h
  split at h
  ·next i hi =>
   have h1:=List.find?_some hi
   have h2:=List.mem_range.1 (List.mem_of_find?_eq_some hi)
   rw [U5 s i h2] at h1
   have h3:s.data.toList[i]'(by simpa using h2) = b:=by simpa using h1
   rw [← h3]
   exact List.getElem_mem _
  ·simp at h
 ·intro h
  obtain ⟨i,hi,e⟩:=List.getElem_of_mem h
  have h2:i < s.size:=by simpa using hi
  split
  ·exact Int.natCast_nonneg _
  ·next hn =>
   have:=List.find?_eq_none.1 hn i (List.mem_range.2 h2)
   rw [U5 s i h2,e] at this
   simp at this
theorem Rq {l:List Nat} (hl:∀ c∈l,c < 256) {c:Nat} (hc:c < 256):UInt8.ofNat c∈(ac l).data.toList↔c∈l:=by
 show UInt8.ofNat c∈l.map UInt8.ofNat↔_
 constructor
 ·intro h
  obtain ⟨d,hd,e⟩:=List.mem_map.1 h
  have h1:=congrArg UInt8.toNat e
  have h2:(UInt8.ofNat d).toNat = d:=by simp [Nat.mod_eq_of_lt (hl d hd)]
  have h3:(UInt8.ofNat c).toNat = c:=by simp [Nat.mod_eq_of_lt hc]
  rw [h2,h3] at h1
  subst h1;exact hd
 ·exact fun h=>List.mem_map_of_mem h
theorem OX (l:List Nat) (i:Nat) (h:i < l.length):(ac l).data.getD i (UInt8.ofNat 0) = UInt8.ofNat l[i]:=by
 show ((l.map UInt8.ofNat).toArray).getD i _ = _
 rw [Array.getD_eq_getD_getElem?]
 simp [h]
theorem jz (k:Int) (c:Nat) (hc:c < 256):cb (ac [c]) (ac (d8 k)) = some (dC k c):=by
 rw [FK,zm,CV,xg]
 have h1:((ac [c]).size:Int) = 1:=rfl
 have h2:(((((ac [c]).data.getD 0 (UInt8.ofNat 0)).toNat:Int))).toNat.toUInt8 = UInt8.ofNat c:=by
  show (((UInt8.ofNat c).toNat:Int)).toNat.toUInt8 = UInt8.ofNat c
  rw [Int.toNat_natCast]
  simp [Nat.mod_eq_of_lt hc]
 have hz:ae 1 0 = false:=rfl
 have ho:ae 1 1 = true:=rfl
 rw [h1,hz,ho,cond_false]
 unfold dC
 have hcon:(d8 k).contains c = decide (c∈d8 k):=by simp
 rw [hcon]
 cases he:be (ac [c]) (ac (d8 k)) with
 | true =>
  have e:[UInt8.ofNat c] = (d8 k).map UInt8.ofNat:=by
   have:(ac [c]).toList = (ac (d8 k)).toList:=by simpa using he
   rwa [qe,qe] at this
  have hm:c∈d8 k:=(Rq (vB k) hc).1 (by show _∈(d8 k).map UInt8.ofNat;rw [← e];simp)
  simp [hm]
 | false =>
  rw [cond_false,cond_true,ay (by decide),tq]
  show ((((some (Go.firstIdx _ _)).bind _).bind _).bind _).bind _ = _
  simp only [Option.bind_some,Option.some.injEq]
  rw [h2,decide_eq_decide,FA,Rq (vB k) hc]
def fW (x l h:Int):Bool:=decide (l≤x)&&decide (x≤h)
theorem ut (x l h:Int):iW x l h = some (fW x l h):=by
 rw [HN,eX];rfl
def bV (u:Bool) (x l h:Int):Bool:=if u then fW x l h else x == 0
theorem Hr (u:Bool) (x l h:Int):cU u x l h = some (bV u x l h):=by
 rw [JB,ut]
 unfold bV
 cases u <;> simp <;> cases fW x l h <;> rfl
def BK (s:GSpan):Bool:=decide (0≤s.From)&&decide (s.From < s.To)&&decide (s.To≤73049)
theorem zx (s:GSpan):pk s = some (BK s):=by
 rw [B7,eX,eX];rfl
def wP (f:GFact):Bool:=if f.Kind = 4 then f.State != f.Seat else if f.Kind = 11∨f.Kind = 12 then f.Span.To == f.Span.From+1 else if f.Kind = 10∨f.Kind = 14 then f.Ref != f.Person else true
def cq (f:GFact):Bool :=
 !(d8 f.Kind).isEmpty&&fW f.Issuer 0 5&&fW f.Number 1 999&&fW f.Version 1 99&&fW f.Person 1 99 &&
 bV (dC f.Kind 83) f.State 0 5&&bV (dC f.Kind 84) f.Seat 0 5&&BK f.Span &&
 bV (dC f.Kind 72) f.Share 1 100&&bV (dC f.Kind 67) f.Currency 1 999&&bV (dC f.Kind 65) f.Amount 0 1000000000&&bV (dC f.Kind 82) f.Ref 1 99&&wP f
theorem mJ {x l h:Int}:fW x l h = true↔l≤x∧x≤h:=by
 unfold fW
 simp only [Bool.and_eq_true,decide_eq_true_eq]
theorem Ie {s:GSpan}:BK s = true↔0≤s.From∧s.From < s.To∧s.To≤73049:=by
 unfold BK
 simp only [Bool.and_eq_true,decide_eq_true_eq,and_assoc]
theorem iA (f:GFact):cq f = true↔(d8 f.Kind).isEmpty = false∧(0≤f.Issuer∧f.Issuer≤5)∧(1≤f.Number∧f.Number≤999)∧(1≤f.Version∧f.Version≤99)∧(1≤f.Person∧f.Person≤99) ∧
  bV (dC f.Kind 83) f.State 0 5 = true∧bV (dC f.Kind 84) f.Seat 0 5 = true∧(0≤f.Span.From∧f.Span.From < f.Span.To∧f.Span.To≤73049)∧bV (dC f.Kind 72) f.Share 1 100 = true∧bV (dC f.Kind 67) f.Currency 1 999 = true ∧
  bV (dC f.Kind 65) f.Amount 0 1000000000 = true∧bV (dC f.Kind 82) f.Ref 1 99 = true∧wP f = true:=by
 unfold cq
 simp only [Bool.and_eq_true,mJ,Ie,Bool.not_eq_true',and_assoc]
theorem K3 (k:Int):be (ac (d8 k)) (ac []) = (d8 k).isEmpty:=by
 show ((ac (d8 k)).toList == (ac []).toList) = _
 rw [qe,qe]
 cases d8 k <;> rfl
theorem Jh (f:GFact) (h:BK f.Span = true):(bif (ae f.Kind 4) then some (bW f.State f.Seat) else bif (ae f.Kind 11) then gW f.Kind (ae f.Kind 11) f else gW f.Kind (ae f.Kind 12) f) = some (wP f):=by
 have hs:=Ie.1 h
 rw [pb,pb,al (by omega) (by omega)]
 unfold wP
 by_cases k4:f.Kind = 4
 ·simp [k4,ae,bW]
 by_cases k11:f.Kind = 11
 ·simp [k11,ae,bW]
 by_cases k12:f.Kind = 12
 ·simp [k12,ae,bW]
 by_cases k10:f.Kind = 10
 ·simp [k10,ae,bW]
 by_cases k14:f.Kind = 14
 ·simp [k14,ae,bW]
 have e:∀ n:Int,f.Kind≠n→(f.Kind == n) = false:=fun n h=>by simpa using h
 simp [ae,bW,e 4 k4,e 11 k11,e 12 k12,e 10 k10,e 14 k14,k4,k11,k12,k10,k14]
theorem F0 (f:GFact):yj f = some (cq f):=by
 rw [Jm,Jo,Option.bind_some]
 simp only [ut,jz f.Kind 83 (by decide),jz f.Kind 84 (by decide),jz f.Kind 72 (by decide),jz f.Kind 67 (by decide),jz f.Kind 65 (by decide),jz f.Kind 82 (by decide),Hr,zx,Option.bind_some,K3]
 unfold cq
 cases hA:(d8 f.Kind).isEmpty <;> cases hB:fW f.Issuer 0 5 <;> cases hC:fW f.Number 1 999 <;> cases hD:fW f.Version 1 99 <;> cases hE:fW f.Person 1 99 <;> simp only [Bool.not_true,Bool.not_false,cond_true,cond_false,Bool.false_and,Bool.true_and,Bool.and_false]
 cases hF:bV (dC f.Kind 83) f.State 0 5 <;> cases hG:bV (dC f.Kind 84) f.Seat 0 5 <;> cases hH:BK f.Span <;> simp only [Bool.not_true,Bool.not_false,cond_true,cond_false,Bool.false_and,Bool.true_and,Bool.and_false]
 rw [Jh f hH]
 cases hI:bV (dC f.Kind 72) f.Share 1 100 <;> cases hJ:bV (dC f.Kind 67) f.Currency 1 999 <;> cases hK:bV (dC f.Kind 65) f.Amount 0 1000000000 <;> cases hL:bV (dC f.Kind 82) f.Ref 1 99 <;> simp only [Bool.not_true,Bool.not_false,cond_true,cond_false,Bool.false_and,Bool.true_and,Bool.and_false]
end Go.Ax
