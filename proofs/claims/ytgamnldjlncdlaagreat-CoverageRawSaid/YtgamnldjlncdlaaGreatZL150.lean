import Derived.Test.YtgamnldjlncdlaaGreatZL146
set_option linter.all false
/- Facts of functions of the program: what they compute. -/
set_option maxRecDepth 100000
namespace Go.Ax
open Go.Proofs
theorem lC (n m:Int) (h:0 < m) (h':m≤9223372036854775807):bK n m = some (n % m):=by
  show (ss n m).opt = _
  simp only [ss,oT]
  rw [aD (by omega)]
  have h1:=Int.emod_nonneg n (show m≠0 by omega)
  have h2:=Int.emod_lt_of_pos n h
  rcases LW n h with hc | ⟨hc,hz⟩
  · rw [hc]
    simp [show ¬ n % m < 0 by omega]
  · rw [hc]
    have:n % m - m < 0:=by omega
    simp only [this,decide_true,cond_true]
    rw [bu (by omega) (by omega)]
    congr 1; omega
open Go.Proofs
def S4 (n:Int):Int :=
  if n % 4 = 0 then 1+ai (n.tdiv 4) % 9000 else if n % 4 = 1 then 1+ai (n.tdiv 4) % 1200 else if n % 4 = 2 then 1+ai (n.tdiv 4) % 120 else 1+ai (n.tdiv 4) % 12
theorem Vb (x m:Int) (h1:0 < m) (h2:m≤9000):ai (1+x % m) = 1+x % m:=by
  have:=Int.emod_nonneg x (show m≠0 by omega)
  have:=Int.emod_lt_of_pos x h1
  exact bu (by omega) (by omega)
theorem Mz (n:Int):vn n = some (S4 n):=by
  show (px n).opt = _
  simp only [px,oT]; unfold S4
  rw [lC n 4 (by omega) (by omega)]
  simp only [Option.bind_some]
  rw [lC _ 9000 (by omega) (by omega),lC _ 1200 (by omega) (by omega),lC _ 120 (by omega) (by omega),lC _ 12 (by omega) (by omega)]
  simp only [Option.bind_some]
  rw [Vb _ 9000 (by omega) (by omega),Vb _ 1200 (by omega) (by omega),Vb _ 120 (by omega) (by omega),Vb _ 12 (by omega) (by omega)]
  by_cases h0:n % 4 = 0
  · simp [h0]
  by_cases h1:n % 4 = 1
  · simp [h1]
  by_cases h2:n % 4 = 2
  · simp [h2]
  · have e0:(n % 4 == 0) = false:=by simpa using h0
    have e1:(n % 4 == 1) = false:=by simpa using h1
    have e2:(n % 4 == 2) = false:=by simpa using h2
    simp [e0,e1,e2,h0,h1,h2]
def ew (k:Int):List Nat :=
  if k = 1 then [83,80,84,72,67,65] else if k = 2 then [83,80,72,67,65] else if k = 3 then [83,80,72,67,65] else if k = 4 then [83,80,84] else
  if k = 5 then [83,80] else if k = 6 then [83,80,67,65] else if k = 7 then [83,80] else if k = 8 then [83,80] else if k = 9 then [83,80] else
  if k = 10 then [83,80,82] else if k = 11 then [80] else if k = 12 then [80] else if k = 13 then [80] else if k = 14 then [80,82] else []
theorem kinds {k:Int} (h1:1≤k) (h2:k≤14):k = 1∨k = 2∨k = 3∨k = 4∨k = 5∨k = 6∨k = 7∨k = 8∨k = 9∨k = 10∨k = 11∨k = 12∨k = 13∨k = 14:=by omega
theorem A6 {k:Int} (h:¬ (1≤k∧k≤14)):ew k = []:=by
  unfold ew
  have e:∀ n:Int,1≤n→n≤14→k≠n:=fun n a b c=>h (by omega)
  rw [if_neg (e 1 (by omega) (by omega)),if_neg (e 2 (by omega) (by omega)),if_neg (e 3 (by omega) (by omega)),if_neg (e 4 (by omega) (by omega)),if_neg (e 5 (by omega) (by omega)),if_neg (e 6 (by omega) (by omega)),if_neg (e 7 (by omega) (by omega)),
    if_neg (e 8 (by omega) (by omega)),if_neg (e 9 (by omega) (by omega)),if_neg (e 10 (by omega) (by omega)),if_neg (e 11 (by omega) (by omega)),if_neg (e 12 (by omega) (by omega)),if_neg (e 13 (by omega) (by omega)),if_neg (e 14 (by omega) (by omega))]
theorem Py (k:Int):Id k = some (am (ew k)):=by
  show (sm k).opt = _
  by_cases h:1≤k∧k≤14
  · obtain rfl | rfl | rfl | rfl | rfl | rfl | rfl | rfl | rfl | rfl | rfl | rfl | rfl | rfl:=kinds h.1 h.2 <;> rfl
  · rw [A6 h]
    have e:∀ n:Int,1≤n→n≤14→(k == n) = false:=fun n a b=>by
      have:k≠n:=fun c=>h (by omega)
      simpa using this
    simp only [sm,oT]
    simp only [e 1 (by omega) (by omega),e 2 (by omega) (by omega),e 3 (by omega) (by omega),e 4 (by omega) (by omega),e 5 (by omega) (by omega),e 6 (by omega) (by omega),e 7 (by omega) (by omega),e 8 (by omega) (by omega),e 9 (by omega) (by omega),e 10 (by omega) (by omega),e 11 (by omega) (by omega),e 12 (by omega) (by omega),e 13 (by omega) (by omega),e 14 (by omega) (by omega),cond_false]
    rfl
theorem qF (k:Int):mr k = some (am (ew k)):=by
  show (qH k).opt = _
  simp only [qH,oT]
  by_cases h:1≤k∧k≤14
  · have h1:decide (k < 1) = false:=by simpa using h.1
    have h2:decide (15≤k) = false:=by simp; omega
    rw [h1,h2,cond_false,cond_false,aD (by omega)]
    obtain rfl | rfl | rfl | rfl | rfl | rfl | rfl | rfl | rfl | rfl | rfl | rfl | rfl | rfl:=kinds h.1 h.2 <;> rfl
  · rw [A6 h]
    have:(bif decide (k < 1) then true else decide (15≤k)) = true:=by
      rw [lQ,Bool.or_eq_true,decide_eq_true_iff,decide_eq_true_iff]; omega
    rw [this]; rfl
def fG (k:Int) (c:Nat):Bool:=(ew k).contains c
theorem BL (k:Int):∀ c∈ew k,c < 256:=by
  by_cases h:1≤k∧k≤14
  · obtain rfl | rfl | rfl | rfl | rfl | rfl | rfl | rfl | rfl | rfl | rfl | rfl | rfl | rfl:=kinds h.1 h.2 <;> decide
  · rw [A6 h]; intro c hc; simp at hc
theorem uY (l:List Nat):(am l).toList = l.map UInt8.ofNat:=by
  rw [ByteArray.toList_eq]
  rfl
theorem AD (l:List Nat):(am l).size = l.length:=by
  show ((l.map UInt8.ofNat).toArray).size = l.length
  simp
theorem alW (s:ByteArray) (i:Nat) (h:i < s.size):s[i]! = s.data.toList[i]'(by simpa using h):=by
  rw [getElem!_pos s i h]
  rfl
theorem LN (s:ByteArray) (b:UInt8):0≤firstIdx s b↔b∈s.data.toList:=by
  unfold firstIdx
  constructor
  · intro h
    split at h
    · next i hi =>
      have h1:=List.find?_some hi
      have h2:=List.mem_range.1 (List.mem_of_find?_eq_some hi)
      rw [alW s i h2] at h1
      have h3:s.data.toList[i]'(by simpa using h2) = b:=by simpa using h1
      rw [← h3]
      exact List.getElem_mem _
    · simp at h
  · intro h
    obtain ⟨i,hi,e⟩:=List.getElem_of_mem h
    have h2:i < s.size:=by simpa using hi
    split
    · exact Int.natCast_nonneg _
    · next hn =>
      have:=List.find?_eq_none.1 hn i (List.mem_range.2 h2)
      rw [alW s i h2,e] at this
      simp at this
theorem XI {l:List Nat} (hl:∀ c∈l,c < 256) {c:Nat} (hc:c < 256):UInt8.ofNat c∈(am l).data.toList↔c∈l:=by
  show UInt8.ofNat c∈l.map UInt8.ofNat↔_
  constructor
  · intro h
    obtain ⟨d,hd,e⟩:=List.mem_map.1 h
    have h1:=congrArg UInt8.toNat e
    have h2:(UInt8.ofNat d).toNat = d:=by simp [Nat.mod_eq_of_lt (hl d hd)]
    have h3:(UInt8.ofNat c).toNat = c:=by simp [Nat.mod_eq_of_lt hc]
    rw [h2,h3] at h1
    subst h1; exact hd
  · exact fun h=>List.mem_map_of_mem h
theorem ng (k:Int) (c:Nat) (hc:c < 256):ck (am [c]) (am (ew k)) = some (fG k c):=by
  show (nI _ _).opt = _
  simp only [nI,oT]; unfold rb; simp only [ny,oT]; unfold wW; simp only [qQ,oT]; unfold iV; simp only [gI,oT]; unfold gz; simp only [fE,oT]; unfold gQ
  have h1:(am [c]).size = 1:=rfl
  have h2:((((am [c]).data.getD 0 0).toNat:Int)).toNat.toUInt8 = UInt8.ofNat c:=by
    show (((UInt8.ofNat c).toNat:Int)).toNat.toUInt8 = UInt8.ofNat c
    rw [Int.toNat_natCast]
    simp [Nat.mod_eq_of_lt hc]
  rw [h1,h2]
  have hz:(((1:Nat):Int) == 0) = false:=rfl
  have ho:(((1:Nat):Int) == 1) = true:=rfl
  rw [hz,ho,lQ,Bool.false_or]
  unfold fG
  have hcon:(ew k).contains c = decide (c∈ew k):=by simp
  rw [hcon]
  cases he:((am [c]).toList == (am (ew k)).toList) with
  | true =>
    have e:[UInt8.ofNat c] = (ew k).map UInt8.ofNat:=by
      have:(am [c]).toList = (am (ew k)).toList:=by simpa using he
      rwa [uY,uY] at this
    have hm:c∈ew k:=(XI (BL k) hc).1 (by show _∈(ew k).map UInt8.ofNat; rw [← e]; simp)
    simp [hm]
  | false =>
    simp only [cond_false,cond_true]
    rw [aD (by decide)]
    simp only [Option.bind_some,Option.some.injEq]
    rw [decide_eq_decide,LN,XI (BL k) hc]
def iG (x l h:Int):Bool:=decide (l≤x)&&decide (x≤h)
theorem Dq (x l h:Int):df x l h = some (iG x l h):=by
  show (oY x l h).opt = _
  simp only [oY,oT]; unfold iG
  rw [dV]
def dz (u:Bool) (x l h:Int):Bool:=if u then iG x l h else x == 0
theorem OJ (u:Bool) (x l h:Int):dn u x l h = some (dz u x l h):=by
  show (qG u x l h).opt = _
  simp only [qG,oT]; unfold dz
  rw [Dq]
  rw [aD (by intro _; rfl)]
  cases u <;> simp
def Ez (s:ab):Bool:=decide (0≤s.From)&&decide (s.From < s.To)&&decide (s.To≤73049)
theorem IO (s:ab):oW s = some (Ez s):=by
  show (kW s).opt = _
  simp only [kW,oT]; unfold Ez
  rw [dV,dV]
def E8 (f:ac):Bool:=if f.Kind = 4 then f.State != f.Seat else if f.Kind = 11∨f.Kind = 12 then f.Span.To == f.Span.From+1 else if f.Kind = 10∨f.Kind = 14 then f.Ref != f.Person else true
def jJ (f:ac):Bool :=
  !(ew f.Kind).isEmpty&&iG f.Issuer 0 5&&iG f.Number 1 999&&iG f.Version 1 99&&iG f.Person 1 99 &&
  dz (fG f.Kind 83) f.State 0 5&&dz (fG f.Kind 84) f.Seat 0 5&&Ez f.Span &&
  dz (fG f.Kind 72) f.Share 1 100&&dz (fG f.Kind 67) f.Currency 1 999&&dz (fG f.Kind 65) f.Amount 0 1000000000&&dz (fG f.Kind 82) f.Ref 1 99&&E8 f
theorem Jf {x l h:Int}:iG x l h = true↔l≤x∧x≤h:=by
  unfold iG
  simp only [Bool.and_eq_true,decide_eq_true_eq]
theorem Oe {s:ab}:Ez s = true↔0≤s.From∧s.From < s.To∧s.To≤73049:=by
  unfold Ez
  simp only [Bool.and_eq_true,decide_eq_true_eq,and_assoc]
theorem tt (f:ac):jJ f = true↔(ew f.Kind).isEmpty = false∧(0≤f.Issuer∧f.Issuer≤5)∧(1≤f.Number∧f.Number≤999)∧(1≤f.Version∧f.Version≤99)∧(1≤f.Person∧f.Person≤99) ∧
    dz (fG f.Kind 83) f.State 0 5 = true∧dz (fG f.Kind 84) f.Seat 0 5 = true∧(0≤f.Span.From∧f.Span.From < f.Span.To∧f.Span.To≤73049)∧dz (fG f.Kind 72) f.Share 1 100 = true∧dz (fG f.Kind 67) f.Currency 1 999 = true ∧
    dz (fG f.Kind 65) f.Amount 0 1000000000 = true∧dz (fG f.Kind 82) f.Ref 1 99 = true∧E8 f = true:=by
  unfold jJ
  simp only [Bool.and_eq_true,Jf,Oe,Bool.not_eq_true',and_assoc]
theorem Qm (k:Int):((am (ew k)).toList == (am []).toList) = (ew k).isEmpty:=by
  rw [uY,uY]
  cases ew k <;> rfl
theorem Pw (f:ac) (h:Ez f.Span = true):(qu f).opt = some (E8 f):=by
  have hs:=Oe.1 h
  simp only [qu,oT]; unfold E8; simp only [j9,oT]
  rw [bu (by omega) (by omega)]
  by_cases k4:f.Kind = 4
  · simp [k4]
  by_cases k11:f.Kind = 11
  · simp [k11]
  by_cases k12:f.Kind = 12
  · simp [k12]
  by_cases k10:f.Kind = 10
  · simp [k10]
  by_cases k14:f.Kind = 14
  · simp [k14]
  have e:∀ n:Int,f.Kind≠n→(f.Kind == n) = false:=fun n h=>by simpa using h
  simp [e 4 k4,e 11 k11,e 12 k12,e 10 k10,e 14 k14,k4,k11,k12,k10,k14]
theorem OD (f:ac):Fl f = some (jJ f):=by
  show (qA f).opt = _
  simp only [qA,oT]
  rw [Py,Option.bind_some]
  simp only [wZ,oT]
  simp only [Dq,ng f.Kind 83 (by decide),ng f.Kind 84 (by decide),ng f.Kind 72 (by decide),ng f.Kind 67 (by decide),ng f.Kind 65 (by decide),ng f.Kind 82 (by decide),OJ,IO,sj,GV,implies_true,Iq,Option.bind_some,Qm,lQ]
  unfold jJ
  cases hA:(ew f.Kind).isEmpty <;> cases hB:iG f.Issuer 0 5 <;> cases hC:iG f.Number 1 999 <;> cases hD:iG f.Version 1 99 <;> cases hE:iG f.Person 1 99 <;> simp only [Bool.not_true,Bool.not_false,Bool.or_true,Bool.or_false,Bool.true_or,Bool.false_or,cond_true,cond_false,Bool.false_and,Bool.true_and,Bool.and_false]
  cases hF:dz (fG f.Kind 83) f.State 0 5 <;> cases hG:dz (fG f.Kind 84) f.Seat 0 5 <;> cases hH:Ez f.Span <;> simp only [Bool.not_true,Bool.not_false,Bool.or_true,Bool.or_false,Bool.true_or,Bool.false_or,cond_true,cond_false,Bool.false_and,Bool.true_and,Bool.and_false]
  rw [Pw f hH]
  cases hI:dz (fG f.Kind 72) f.Share 1 100 <;> cases hJ:dz (fG f.Kind 67) f.Currency 1 999 <;> cases hK:dz (fG f.Kind 65) f.Amount 0 1000000000 <;> cases hL:dz (fG f.Kind 82) f.Ref 1 99 <;> simp only [Bool.not_true,Bool.not_false,Bool.or_true,Bool.or_false,Bool.true_or,Bool.false_or,cond_true,cond_false,Bool.false_and,Bool.true_and,Bool.and_false]
theorem TN (l:List Nat) (i:Nat) (h:i < l.length):(am l).data.getD i 0 = UInt8.ofNat l[i]:=by
  show ((l.map UInt8.ofNat).toArray).getD i 0 = _
  rw [Array.getD_eq_getD_getElem?]
  simp [h]
theorem Lp (c:Nat) (hc:c < 256) (l:List Nat) (hl:∀ c∈l,c < 256) (hn:l.length < 1000):∀ (n i:Nat),l.length = i+n →
    fixL (qp (c:Int) (am l)) (i:Int) = some (if c∈l.drop i then .inl () else .inr ()):=by
  intro n
  induction n with
  | zero =>
    intro i hi
    rw [bU]
    show (ka (c:Int) (am l) (i:Int)).opt.bind _ = _
    simp only [ka,oT]
    rw [AD]
    have:decide ((i:Int) < (l.length:Int)) = false:=by simp; omega
    rw [this,List.drop_of_length_le (by omega)]
    simp
  | succ n ih =>
    intro i hi
    have hlt:i < l.length:=by omega
    rw [bU]
    show (ka (c:Int) (am l) (i:Int)).opt.bind _ = _
    simp only [ka,oT]
    rw [AD]
    have:decide ((i:Int) < (l.length:Int)) = true:=by simp; omega
    rw [this,aD (by omega),Int.toNat_natCast,TN l i hlt]
    have hv:((UInt8.ofNat l[i]).toNat:Int) = (l[i]:Int):=by
      have:=hl _ (List.getElem_mem hlt)
      simp [Nat.mod_eq_of_lt this]
    rw [hv,List.drop_eq_getElem_cons hlt]
    simp only [cond_true]
    by_cases e:l[i] = c
    · have:((l[i]:Int) == (c:Int)) = true:=by simp [e]
      rw [this]
      simp [e]
    · have:((l[i]:Int) == (c:Int)) = false:=by simp; omega
      rw [this,bu (by omega) (by omega)]
      simp only [cond_false,Option.bind_some]
      have:=ih (i+1) (by omega)
      rw [show ((i+1:Nat):Int) = (i:Int)+1 by omega] at this
      rw [this]
      have hne:¬ c = l[i]:=fun h=>e h.symm
      have hiff:(c∈l[i] :: l.drop (i+1))↔c∈l.drop (i+1):=by rw [List.mem_cons]; exact or_iff_right hne
      by_cases hm:c∈l.drop (i+1)
      · rw [if_pos hm,if_pos (hiff.2 hm)]
      · rw [if_neg hm,if_neg (fun h=>hm (hiff.1 h))]
theorem yT (k:Int):(ew k).length≤6:=by
  by_cases h:1≤k∧k≤14
  · obtain rfl | rfl | rfl | rfl | rfl | rfl | rfl | rfl | rfl | rfl | rfl | rfl | rfl | rfl:=kinds h.1 h.2 <;> decide
  · rw [A6 h]; decide
theorem O3 (k:Int) (c:Nat) (hc:c < 256):Fo k (c:Int) = some (fG k c):=by
  show (qv k c).opt = _
  simp only [qv,oT]
  rw [qF,Option.bind_some]
  unfold xi
  have hn:=yT k
  have:=Lp c hc (ew k) (BL k) (by omega) (ew k).length 0 (by omega)
  rw [show ((0:Nat):Int) = 0 from rfl] at this
  rw [this]
  unfold fG
  by_cases h:c∈ew k
  · simp [h,nQ]
  · simp [h,nQ,wY] <;> rfl
theorem jy (k:Int) (c:Nat) (hc:c < 256) (n l m:Int):bX k (c:Int) n l m = some (dz (fG k c) n l m):=by
  show (pl k c n l m).opt = _
  simp only [pl,oT]
  rw [O3 k c hc,Option.bind_some]
  unfold dz iG
  cases fG k c
  · rfl
  · simp only [cond_true,dV,if_true]
theorem rf (k n l m:Int):(bX k 83 n l m = some (dz (fG k 83) n l m))∧(bX k 84 n l m = some (dz (fG k 84) n l m))∧(bX k 72 n l m = some (dz (fG k 72) n l m)) ∧
    (bX k 67 n l m = some (dz (fG k 67) n l m))∧(bX k 65 n l m = some (dz (fG k 65) n l m))∧(bX k 82 n l m = some (dz (fG k 82) n l m)) :=
  ⟨jy k 83 (by decide) n l m,jy k 84 (by decide) n l m,jy k 72 (by decide) n l m,jy k 67 (by decide) n l m,jy k 65 (by decide) n l m,jy k 82 (by decide) n l m⟩
theorem JP {f:ac} (h:jJ f = true→False):some false = some (jJ f):=by
  cases hv:jJ f with
  | false=>rfl
  | true=>exact (h hv).elim
theorem lq (f:ac):eW f = some (jJ f):=by
  show (pe f).opt = _
  simp only [pe,oT]
  rw [qF]
  rw [aD (by intro _; rfl)]
  simp only [sj,Qm,lQ,dV]
  cases h1:(decide (f.Issuer < 0)||decide (6≤f.Issuer)||decide (f.Number < 1)||decide (999 < f.Number)||decide (f.Version < 1)||decide (99 < f.Version)||decide (f.Person < 1)||decide (99 < f.Person)||(ew f.Kind).isEmpty) with
  | true =>
    rw [cond_true]
    refine JP fun hv=>?_
    obtain ⟨g0,g1,g2,g3,g4,_⟩:=(tt f).1 hv
    simp only [Bool.or_eq_true,decide_eq_true_eq,g0,Bool.false_eq_true,or_false] at h1
    omega
  | false =>
    rw [cond_false]
    cases h2:(decide (f.Span.From < 0)||decide (f.Span.To≤f.Span.From)||decide (73049 < f.Span.To)) with
    | true =>
      rw [cond_true]
      refine JP fun hv=>?_
      obtain ⟨g0,g1,g2,g3,g4,_,_,g5,_⟩:=(tt f).1 hv
      simp only [Bool.or_eq_true,decide_eq_true_eq] at h2
      omega
    | false =>
      rw [cond_false]
      simp only [ud,oT]
      simp only [Bool.or_eq_false_iff,decide_eq_false_iff_not] at h1 h2
      rw [bu (by omega) (by omega)]
      simp only [lQ,dV]
      cases h3:((f.Kind == 11||f.Kind == 12)&&f.Span.To - f.Span.From != 1||f.Kind == 4&&f.Seat == f.State||(f.Kind == 10||f.Kind == 14)&&f.Ref == f.Person) with
      | true =>
        rw [cond_true]
        refine JP fun hv=>?_
        obtain ⟨_,g1,g2,g3,g4,_,_,g5,_,_,_,_,g6⟩:=(tt f).1 hv
        unfold E8 at g6
        simp only [Bool.or_eq_true,Bool.and_eq_true,beq_iff_eq,bne_iff_ne,ne_eq] at h3
        split at g6
        · simp only [bne_iff_ne,ne_eq] at g6; omega
        · split at g6
          · simp only [beq_iff_eq] at g6; omega
          · split at g6
            · simp only [bne_iff_ne,ne_eq] at g6; omega
            · omega
      | false =>
        rw [cond_false]
        have hf:=fun n l m=>rf f.Kind n l m
        simp only [(hf _ _ _).1,(hf _ _ _).2.1,(hf _ _ _).2.2.1,(hf _ _ _).2.2.2.1,(hf _ _ _).2.2.2.2.1,(hf _ _ _).2.2.2.2.2,sj,GV,implies_true,Iq,Option.bind_some,Option.some.injEq]
        have hkind:E8 f = true:=by
          simp only [Bool.or_eq_false_iff,Bool.and_eq_false_iff,beq_eq_false_iff_ne,bne_eq_false_iff_eq,ne_eq] at h3
          unfold E8
          split
          · simp only [bne_iff_ne,ne_eq]; omega
          · split
            · simp only [beq_iff_eq]; omega
            · split
              · simp only [bne_iff_ne,ne_eq]; omega
              · rfl
        rw [Bool.eq_iff_iff,tt]
        constructor
        · intro hx
          simp only [Bool.and_eq_true] at hx
          exact ⟨h1.2,by omega,by omega,by omega,by omega,hx.1.1.1.1.1,hx.1.1.1.1.2,by omega,hx.1.1.1.2,hx.1.1.2,hx.1.2,hx.2,hkind⟩
        · rintro ⟨_,_,_,_,_,a1,a2,_,a3,a4,a5,a6,_⟩
          simp only [Bool.and_eq_true]
          exact ⟨⟨⟨⟨⟨a1,a2⟩,a3⟩,a4⟩,a5⟩,a6⟩
end Go.Ax
