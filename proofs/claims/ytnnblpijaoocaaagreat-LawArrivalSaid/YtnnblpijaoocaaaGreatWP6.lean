import Derived.Test.YtnnblpijaoocaaaGreatWP5
set_option linter.all false
/- Loops that walk a list;letters, fields and validity of facts. -/
set_option maxRecDepth 100000
namespace Go.Ax
theorem bP {T:Type} {l:List T} {i:Nat} {z:T} (hi:i < l.length):gD l ((i:Int)).toNat z = l[i]:=by
 show l.getD _ _ = _
 rw [Int.toNat_natCast,List.getD_eq_getElem?_getD,List.getElem?_eq_getElem hi];rfl
theorem N5 {i:Nat} (h:i < 9223372036854775807):ac ((i:Int)+1) = ((i+1:Nat):Int):=by rw [al (by omega) (by omega)];omega
theorem mz {T S R:Type} (l:List T) (F:Int→S→Option R) (g:S→T→S) (Inv:Nat→S→Prop)
  (h:∀ (i:Nat) (s:S) (hi:i < l.length),Inv i s→F (i:Int) s = F ((i+1:Nat):Int) (g s l[i])∧Inv (i+1) (g s l[i])) (s:S) (h0:Inv 0 s):F 0 s = F (l.length:Int) (l.foldl g s)∧Inv l.length (l.foldl g s):=by
 have key:∀ (n i:Nat) (s:S),l.length = i+n→Inv i s→F (i:Int) s = F (l.length:Int) ((l.drop i).foldl g s)∧Inv l.length ((l.drop i).foldl g s):=by
  intro n
  induction n with
  | zero =>
   intro i s hn hs
   rw [List.drop_of_length_le (by omega),List.foldl_nil]
   have:i = l.length:=by omega
   subst this
   exact ⟨rfl,hs⟩
  | succ n ih =>
   intro i s hn hs
   have hi:i < l.length:=by omega
   obtain ⟨h1,h2⟩:=h i s hi hs
   rw [h1,List.drop_eq_getElem_cons hi,List.foldl_cons]
   exact ih (i+1) _ (by omega) h2
 exact key l.length 0 s (by omega) h0
theorem Lg {T A R:Type} (l:List T) (F:Int→List A→Option R) (g:T→List A) (B:Nat) (hB:∀ x∈l,(g x).length≤B)
  (h:∀ (i:Nat) (out:List A) (hi:i < l.length),out.length≤i*B→F (i:Int) out = F ((i+1:Nat):Int) (out++g l[i])):F 0 [] = F (l.length:Int) (l.flatMap g):=by
 have:=(mz l F (fun out x=>out++g x) (fun i out=>out.length≤i*B) (fun i out hi ho=>⟨h i out hi ho,by
  have:=hB _ (List.getElem_mem hi)
  rw [List.length_append,Nat.succ_mul];omega⟩) [] (by simp)).1
 rw [this]
 have e:∀ (m:List T) (o:List A),m.foldl (fun out x=>out++g x) o = o++m.flatMap g:=by
  intro m
  induction m with
  | nil=>intro o;simp
  | cons x m ih=>intro o;rw [List.foldl_cons,ih,List.flatMap_cons,List.append_assoc]
 rw [e,List.nil_append]
theorem zU {T:Type} (p:T→Bool):∀ l:List T,(l.flatMap fun x=>if p x = true then [x] else []) = l.filter p
 | []=>rfl
 | x :: l=>by
  rw [List.flatMap_cons,zU p l,List.filter_cons]
  split <;> rfl
theorem mM {T A:Type} (p:T→Bool) (g:T→A):∀ l:List T,(l.flatMap fun x=>if p x = true then [g x] else []) = (l.filter p).map g
 | []=>rfl
 | x :: l=>by
  rw [List.flatMap_cons,mM p g l,List.filter_cons]
  split <;> simp
theorem Lu {T R:Type} (l:List T) (F:Int→List T→Option R) (p:T→Bool)
  (h:∀ (i:Nat) (out:List T) (hi:i < l.length),out.length≤i→F (i:Int) out = F ((i+1:Nat):Int) (if p l[i] = true then out++[l[i]] else out)):F 0 [] = F (l.length:Int) (l.filter p):=by
 rw [Lg l F (fun x=>if p x = true then [x] else []) 1 (fun x _=>by split <;> simp) fun i out hi ho=>?_,zU]
 rw [h i out hi (by omega)]
 congr 1
 split <;> simp
theorem Q2 {T A R:Type} (l:List T) (F:Int→List A→Option R) (p:T→Bool) (g:T→A)
  (h:∀ (i:Nat) (out:List A) (hi:i < l.length),out.length≤i→F (i:Int) out = F ((i+1:Nat):Int) (if p l[i] = true then out++[g l[i]] else out)):F 0 [] = F (l.length:Int) ((l.filter p).map g):=by
 rw [Lg l F (fun x=>if p x = true then [g x] else []) 1 (fun x _=>by split <;> simp) fun i out hi ho=>?_,mM]
 rw [h i out hi (by omega)]
 congr 1
 split <;> simp
theorem qb {T R:Type} (l:List T) (F:Int→Option R) (p:T→Bool) (y n:Option R) (hn:F (l.length:Int) = n)
  (h:∀ (i:Nat) (hi:i < l.length),F (i:Int) = if p l[i] = true then y else F ((i+1:Nat):Int)):F 0 = if l.any p = true then y else n:=by
 have key:∀ (n' i:Nat),l.length = i+n'→F (i:Int) = if (l.drop i).any p = true then y else n:=by
  intro n'
  induction n' with
  | zero =>
   intro i hi
   rw [List.drop_of_length_le (by omega)]
   have:i = l.length:=by omega
   subst this
   simpa using hn
  | succ n' ih =>
   intro i hi
   have hlt:i < l.length:=by omega
   rw [h i hlt,List.drop_eq_getElem_cons hlt,List.any_cons]
   cases hp:p l[i] with
   | true=>simp
   | false=>rw [Bool.false_or,if_neg (by simp)];exact ih (i+1) (by omega)
 exact key l.length 0 (by omega)
theorem cB {i n:Nat} (h:i < n):aa ((i:Int) < (n:Int)) = true:=aM (by omega)
theorem cm (n:Nat):aa ((n:Int) < (n:Int)) = false:=bu (by omega)
theorem cz (i:Nat):aa ((0:Int)≤(i:Int)) = true:=aM (by omega)
theorem aO {α:Type} (o:Option α):gb true o = o:=rfl
theorem bS {i n:Nat} (h:i < n) (hn:n≤1000000000000):ac ((i:Int)+1) = ((i+1:Nat):Int):=N5 (by omega)
theorem sL {α:Type} {n k:Nat} {o:Option α} (h:(n+1)*k≤140737488355328:=by omega) (h2:n+1≤140737488355328:=by omega):(gb (aa (((n+1)*k)≤140737488355328))<|gb (aa ((n+1)≤140737488355328)) o) = o:=by
 rw [aN h,aN h2]
def dy (k:Int):List Nat :=
 if k = 1 then [83,80,84,72,67,65] else if k = 2 then [83,80,72,67,65] else if k = 3 then [83,80,72,67,65] else if k = 4 then [83,80,84] else
 if k = 5 then [83,80] else if k = 6 then [83,80,67,65] else if k = 7 then [83,80] else if k = 8 then [83,80] else if k = 9 then [83,80] else
 if k = 10 then [83,80,82] else if k = 11 then [80] else if k = 12 then [80] else if k = 13 then [80] else if k = 14 then [80,82] else []
theorem kinds {k:Int} (h1:1≤k) (h2:k≤14):k = 1∨k = 2∨k = 3∨k = 4∨k = 5∨k = 6∨k = 7∨k = 8∨k = 9∨k = 10∨k = 11∨k = 12∨k = 13∨k = 14:=by omega
theorem sg {k:Int} (h:¬ (1≤k∧k≤14)):dy k = []:=by
 unfold dy
 have e:∀ n:Int,1≤n→n≤14→k≠n:=fun n a b c=>h (by omega)
 rw [if_neg (e 1 (by omega) (by omega)),if_neg (e 2 (by omega) (by omega)),if_neg (e 3 (by omega) (by omega)),if_neg (e 4 (by omega) (by omega)),if_neg (e 5 (by omega) (by omega)),if_neg (e 6 (by omega) (by omega)),if_neg (e 7 (by omega) (by omega)),
  if_neg (e 8 (by omega) (by omega)),if_neg (e 9 (by omega) (by omega)),if_neg (e 10 (by omega) (by omega)),if_neg (e 11 (by omega) (by omega)),if_neg (e 12 (by omega) (by omega)),if_neg (e 13 (by omega) (by omega)),if_neg (e 14 (by omega) (by omega))]
theorem F6 (k:Int):xV k = some (ab (dy k)):=by
 rw [G5]
 simp only [zG]
 simp only [xq]
 simp only [vb]
 by_cases h:1≤k∧k≤14
 ·obtain rfl | rfl | rfl | rfl | rfl | rfl | rfl | rfl | rfl | rfl | rfl | rfl | rfl | rfl:=kinds h.1 h.2 <;> rfl
 ·rw [sg h]
  have e:∀ n:Int,1≤n→n≤14→af k n = false:=fun n a b=>jT.2 fun c=>h (by omega)
  simp only [e 1 (by omega) (by omega),e 2 (by omega) (by omega),e 3 (by omega) (by omega),e 4 (by omega) (by omega),e 5 (by omega) (by omega),e 6 (by omega) (by omega),e 7 (by omega) (by omega),e 8 (by omega) (by omega),e 9 (by omega) (by omega),e 10 (by omega) (by omega),e 11 (by omega) (by omega),e 12 (by omega) (by omega),e 13 (by omega) (by omega),e 14 (by omega) (by omega),cond_false]
theorem kN (k:Int):kK k = some (ab (dy k)):=by
 rw [Gb]
 by_cases h:1≤k∧k≤14
 ·rw [bu (p:=k < 1) (by omega),bu (p:=15≤k) (by omega),cond_false,cond_false,aN (by omega),aN (by omega)]
  obtain rfl | rfl | rfl | rfl | rfl | rfl | rfl | rfl | rfl | rfl | rfl | rfl | rfl | rfl:=kinds h.1 h.2 <;> rfl
 ·rw [sg h]
  have:(bif aa (k < 1) then true else aa (15≤k)) = true:=by
   rw [oN,Bool.or_eq_true,decide_eq_true_iff,decide_eq_true_iff];omega
  rw [this];rfl
def cT (k:Int) (c:Nat):Bool:=(dy k).contains c
theorem ta (k:Int):∀ c∈dy k,c < 256:=by
 by_cases h:1≤k∧k≤14
 ·obtain rfl | rfl | rfl | rfl | rfl | rfl | rfl | rfl | rfl | rfl | rfl | rfl | rfl | rfl:=kinds h.1 h.2 <;> decide
 ·rw [sg h];intro c hc;simp at hc
theorem ql (k:Int):(dy k).length≤6:=by
 by_cases h:1≤k∧k≤14
 ·obtain rfl | rfl | rfl | rfl | rfl | rfl | rfl | rfl | rfl | rfl | rfl | rfl | rfl | rfl:=kinds h.1 h.2 <;> decide
 ·rw [sg h];decide
theorem oe (l:List Nat):(ab l).toList = l.map UInt8.ofNat:=by
 rw [ByteArray.toList_eq]
 rfl
theorem QY (s:ByteArray) (i:Nat) (h:i < s.size):s[i]! = s.data.toList[i]'(by simpa using h):=by
 rw [getElem!_pos s i h]
 rfl
theorem BX (s:ByteArray) (b:UInt8):0≤Go.firstIdx s b↔b∈s.data.toList:=by
 unfold Go.firstIdx
 constructor
 ·intro h
  split at h
  ·next i hi =>
   have h1:=List.find?_some hi
   have h2:=List.mem_range.1 (List.mem_of_find?_eq_some hi)
   rw [QY s i h2] at h1
   have h3:s.data.toList[i]'(by simpa using h2) = b:=by simpa using h1
   rw [← h3]
   exact List.getElem_mem _
  ·simp at h
 ·intro h
  obtain ⟨i,hi,e⟩:=List.getElem_of_mem h
  have h2:i < s.size:=by simpa using hi
  split
  ·exact Int.natCast_nonneg _
  ·next hn =>
   have:=List.find?_eq_none.1 hn i (List.mem_range.2 h2)
   rw [QY s i h2,e] at this
   simp at this
theorem ND {l:List Nat} (hl:∀ c∈l,c < 256) {c:Nat} (hc:c < 256):UInt8.ofNat c∈(ab l).data.toList↔c∈l:=by
 show UInt8.ofNat c∈l.map UInt8.ofNat↔_
 constructor
 ·intro h
  obtain ⟨d,hd,e⟩:=List.mem_map.1 h
  have h1:=congrArg UInt8.toNat e
  have h2:(UInt8.ofNat d).toNat = d:=by simp [Nat.mod_eq_of_lt (hl d hd)]
  have h3:(UInt8.ofNat c).toNat = c:=by simp [Nat.mod_eq_of_lt hc]
  rw [h2,h3] at h1
  subst h1;exact hd
 ·exact fun h=>List.mem_map_of_mem h
theorem Lv (l:List Nat) (i:Nat) (h:i < l.length):(ab l).data.getD i (UInt8.ofNat 0) = UInt8.ofNat l[i]:=by
 show ((l.map UInt8.ofNat).toArray).getD i _ = _
 rw [Array.getD_eq_getD_getElem?]
 simp [h]
theorem iH (k:Int) (c:Nat) (hc:c < 256):bH (ab [c]) (ab (dy k)) = some (cT k c):=by
 rw [BG,wC,Bd,vX]
 have h1:((ab [c]).size:Int) = 1:=rfl
 have h2:(((((ab [c]).data.getD 0 (UInt8.ofNat 0)).toNat:Int))).toNat.toUInt8 = UInt8.ofNat c:=by
  show (((UInt8.ofNat c).toNat:Int)).toNat.toUInt8 = UInt8.ofNat c
  rw [Int.toNat_natCast]
  simp [Nat.mod_eq_of_lt hc]
 have hz:af 1 0 = false:=rfl
 have ho:af 1 1 = true:=rfl
 rw [h1,hz,ho,cond_false]
 unfold cT
 have hcon:(dy k).contains c = decide (c∈dy k):=by simp
 rw [hcon]
 cases he:aS (ab [c]) (ab (dy k)) with
 | true =>
  have e:[UInt8.ofNat c] = (dy k).map UInt8.ofNat:=by
   have:(ab [c]).toList = (ab (dy k)).toList:=by simpa using he
   rwa [oe,oe] at this
  have hm:c∈dy k:=(ND (ta k) hc).1 (by show _∈(dy k).map UInt8.ofNat;rw [← e];simp)
  simp [hm]
 | false =>
  rw [cond_false,cond_true,aN (by decide),qe]
  show ((((some (Go.firstIdx _ _)).bind _).bind _).bind _).bind _ = _
  simp only [Option.bind_some,Option.some.injEq]
  rw [h2,decide_eq_decide,BX,ND (ta k) hc]
def ff (x l h:Int):Bool:=decide (l≤x)&&decide (x≤h)
theorem rR (x l h:Int):ik x l h = some (ff x l h):=by
 rw [Dw,fW];rfl
def bF (u:Bool) (x l h:Int):Bool:=if u then ff x l h else x == 0
theorem D9 (u:Bool) (x l h:Int):cx u x l h = some (bF u x l h):=by
 rw [Gq,rR]
 unfold bF
 cases u <;> simp <;> cases ff x l h <;> rfl
def zg (s:GSpan):Bool:=decide (0≤s.From)&&decide (s.From < s.To)&&decide (s.To≤73049)
theorem yc (s:GSpan):nB s = some (zg s):=by
 rw [zM,fW,fW];rfl
def uA (f:GFact):Bool:=if f.Kind = 4 then f.State != f.Seat else if f.Kind = 11∨f.Kind = 12 then f.Span.To == f.Span.From+1 else if f.Kind = 10∨f.Kind = 14 then f.Ref != f.Person else true
def cb (f:GFact):Bool :=
 !(dy f.Kind).isEmpty&&ff f.Issuer 0 5&&ff f.Number 1 999&&ff f.Version 1 99&&ff f.Person 1 99 &&
 bF (cT f.Kind 83) f.State 0 5&&bF (cT f.Kind 84) f.Seat 0 5&&zg f.Span &&
 bF (cT f.Kind 72) f.Share 1 100&&bF (cT f.Kind 67) f.Currency 1 999&&bF (cT f.Kind 65) f.Amount 0 1000000000&&bF (cT f.Kind 82) f.Ref 1 99&&uA f
theorem lx {x l h:Int}:ff x l h = true↔l≤x∧x≤h:=by
 unfold ff
 simp only [Bool.and_eq_true,decide_eq_true_eq]
theorem Fo {s:GSpan}:zg s = true↔0≤s.From∧s.From < s.To∧s.To≤73049:=by
 unfold zg
 simp only [Bool.and_eq_true,decide_eq_true_eq,and_assoc]
theorem gN (f:GFact):cb f = true↔(dy f.Kind).isEmpty = false∧(0≤f.Issuer∧f.Issuer≤5)∧(1≤f.Number∧f.Number≤999)∧(1≤f.Version∧f.Version≤99)∧(1≤f.Person∧f.Person≤99) ∧
  bF (cT f.Kind 83) f.State 0 5 = true∧bF (cT f.Kind 84) f.Seat 0 5 = true∧(0≤f.Span.From∧f.Span.From < f.Span.To∧f.Span.To≤73049)∧bF (cT f.Kind 72) f.Share 1 100 = true∧bF (cT f.Kind 67) f.Currency 1 999 = true ∧
  bF (cT f.Kind 65) f.Amount 0 1000000000 = true∧bF (cT f.Kind 82) f.Ref 1 99 = true∧uA f = true:=by
 unfold cb
 simp only [Bool.and_eq_true,lx,Fo,Bool.not_eq_true',and_assoc]
theorem Hp (k:Int):aS (ab (dy k)) (ab []) = (dy k).isEmpty:=by
 show ((ab (dy k)).toList == (ab []).toList) = _
 rw [oe,oe]
 cases dy k <;> rfl
theorem F7 (f:GFact) (h:zg f.Span = true):(bif (af f.Kind 4) then some (bZ f.State f.Seat) else bif (af f.Kind 11) then fX f.Kind (af f.Kind 11) f else fX f.Kind (af f.Kind 12) f) = some (uA f):=by
 have hs:=Fo.1 h
 rw [nf,nf,al (by omega) (by omega)]
 unfold uA
 by_cases k4:f.Kind = 4
 ·simp [k4,af,bZ]
 by_cases k11:f.Kind = 11
 ·simp [k11,af,bZ]
 by_cases k12:f.Kind = 12
 ·simp [k12,af,bZ]
 by_cases k10:f.Kind = 10
 ·simp [k10,af,bZ]
 by_cases k14:f.Kind = 14
 ·simp [k14,af,bZ]
 have e:∀ n:Int,f.Kind≠n→(f.Kind == n) = false:=fun n h=>by simpa using h
 simp [af,bZ,e 4 k4,e 11 k11,e 12 k12,e 10 k10,e 14 k14,k4,k11,k12,k10,k14]
theorem EN (f:GFact):uY f = some (cb f):=by
 rw [Gg,F6,Option.bind_some]
 simp only [rR,iH f.Kind 83 (by decide),iH f.Kind 84 (by decide),iH f.Kind 72 (by decide),iH f.Kind 67 (by decide),iH f.Kind 65 (by decide),iH f.Kind 82 (by decide),D9,yc,Option.bind_some,Hp]
 unfold cb
 cases hA:(dy f.Kind).isEmpty <;> cases hB:ff f.Issuer 0 5 <;> cases hC:ff f.Number 1 999 <;> cases hD:ff f.Version 1 99 <;> cases hE:ff f.Person 1 99 <;> simp only [Bool.not_true,Bool.not_false,cond_true,cond_false,Bool.false_and,Bool.true_and,Bool.and_false]
 cases hF:bF (cT f.Kind 83) f.State 0 5 <;> cases hG:bF (cT f.Kind 84) f.Seat 0 5 <;> cases hH:zg f.Span <;> simp only [Bool.not_true,Bool.not_false,cond_true,cond_false,Bool.false_and,Bool.true_and,Bool.and_false]
 rw [F7 f hH]
 cases hI:bF (cT f.Kind 72) f.Share 1 100 <;> cases hJ:bF (cT f.Kind 67) f.Currency 1 999 <;> cases hK:bF (cT f.Kind 65) f.Amount 0 1000000000 <;> cases hL:bF (cT f.Kind 82) f.Ref 1 99 <;> simp only [Bool.not_true,Bool.not_false,cond_true,cond_false,Bool.false_and,Bool.true_and,Bool.and_false]
end Go.Ax
