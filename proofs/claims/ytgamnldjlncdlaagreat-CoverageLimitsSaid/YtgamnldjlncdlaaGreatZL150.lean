import Derived.Test.YtgamnldjlncdlaaGreatZL146
set_option linter.all false
/- Facts of functions of the program: what they compute. -/
set_option maxRecDepth 100000
namespace Go.Ax
open Go.Proofs
theorem lR (n m:Int) (h:0 < m) (h':m≤9223372036854775807):bH n m = some (n % m):=by
  show (sP n m).opt = _
  simp only [sP,oT]
  rw [aE (by omega)]
  have h1:=Int.emod_nonneg n (show m≠0 by omega)
  have h2:=Int.emod_lt_of_pos n h
  rcases La n h with hc | ⟨hc,hz⟩
  · rw [hc]
    simp [show ¬ n % m < 0 by omega]
  · rw [hc]
    have:n % m - m < 0:=by omega
    simp only [this,decide_true,cond_true]
    rw [bu (by omega) (by omega)]
    congr 1; omega
open Go.Proofs
def Rb (n:Int):Int :=
  if n % 4 = 0 then 1+ai (n.tdiv 4) % 9000 else if n % 4 = 1 then 1+ai (n.tdiv 4) % 1200 else if n % 4 = 2 then 1+ai (n.tdiv 4) % 120 else 1+ai (n.tdiv 4) % 12
theorem R5 (x m:Int) (h1:0 < m) (h2:m≤9000):ai (1+x % m) = 1+x % m:=by
  have:=Int.emod_nonneg x (show m≠0 by omega)
  have:=Int.emod_lt_of_pos x h1
  exact bu (by omega) (by omega)
theorem LO (n:Int):vh n = some (Rb n):=by
  show (oR n).opt = _
  simp only [oR,oT]; unfold Rb
  rw [lR n 4 (by omega) (by omega)]
  simp only [Option.bind_some]
  rw [lR _ 9000 (by omega) (by omega),lR _ 1200 (by omega) (by omega),lR _ 120 (by omega) (by omega),lR _ 12 (by omega) (by omega)]
  simp only [Option.bind_some]
  rw [R5 _ 9000 (by omega) (by omega),R5 _ 1200 (by omega) (by omega),R5 _ 120 (by omega) (by omega),R5 _ 12 (by omega) (by omega)]
  by_cases h0:n % 4 = 0
  · simp [h0]
  by_cases h1:n % 4 = 1
  · simp [h1]
  by_cases h2:n % 4 = 2
  · simp [h2]
  · have e0:(n % 4 == 0) = false:=by simpa using h0
    have e1:(n % 4 == 1) = false:=by simpa using h1
    have e2:(n % 4 == 2) = false:=by simpa using h2
    simp [e0,e1,e2,h0,h1,h2]
def eB (k:Int):List Nat :=
  if k = 1 then [83,80,84,72,67,65] else if k = 2 then [83,80,72,67,65] else if k = 3 then [83,80,72,67,65] else if k = 4 then [83,80,84] else
  if k = 5 then [83,80] else if k = 6 then [83,80,67,65] else if k = 7 then [83,80] else if k = 8 then [83,80] else if k = 9 then [83,80] else
  if k = 10 then [83,80,82] else if k = 11 then [80] else if k = 12 then [80] else if k = 13 then [80] else if k = 14 then [80,82] else []
theorem kinds {k:Int} (h1:1≤k) (h2:k≤14):k = 1∨k = 2∨k = 3∨k = 4∨k = 5∨k = 6∨k = 7∨k = 8∨k = 9∨k = 10∨k = 11∨k = 12∨k = 13∨k = 14:=by omega
theorem z7 {k:Int} (h:¬ (1≤k∧k≤14)):eB k = []:=by
  unfold eB
  have e:∀ n:Int,1≤n→n≤14→k≠n:=fun n a b c=>h (by omega)
  rw [if_neg (e 1 (by omega) (by omega)),if_neg (e 2 (by omega) (by omega)),if_neg (e 3 (by omega) (by omega)),if_neg (e 4 (by omega) (by omega)),if_neg (e 5 (by omega) (by omega)),if_neg (e 6 (by omega) (by omega)),if_neg (e 7 (by omega) (by omega)),
    if_neg (e 8 (by omega) (by omega)),if_neg (e 9 (by omega) (by omega)),if_neg (e 10 (by omega) (by omega)),if_neg (e 11 (by omega) (by omega)),if_neg (e 12 (by omega) (by omega)),if_neg (e 13 (by omega) (by omega)),if_neg (e 14 (by omega) (by omega))]
theorem OE (k:Int):F1 k = some (ak (eB k)):=by
  show (sk k).opt = _
  by_cases h:1≤k∧k≤14
  · obtain rfl | rfl | rfl | rfl | rfl | rfl | rfl | rfl | rfl | rfl | rfl | rfl | rfl | rfl:=kinds h.1 h.2 <;> rfl
  · rw [z7 h]
    have e:∀ n:Int,1≤n→n≤14→(k == n) = false:=fun n a b=>by
      have:k≠n:=fun c=>h (by omega)
      simpa using this
    simp only [sk,oT]
    simp only [e 1 (by omega) (by omega),e 2 (by omega) (by omega),e 3 (by omega) (by omega),e 4 (by omega) (by omega),e 5 (by omega) (by omega),e 6 (by omega) (by omega),e 7 (by omega) (by omega),e 8 (by omega) (by omega),e 9 (by omega) (by omega),e 10 (by omega) (by omega),e 11 (by omega) (by omega),e 12 (by omega) (by omega),e 13 (by omega) (by omega),e 14 (by omega) (by omega),cond_false]
    rfl
theorem qi (k:Int):mh k = some (ak (eB k)):=by
  show (qf k).opt = _
  simp only [qf,oT]
  by_cases h:1≤k∧k≤14
  · have h1:decide (k < 1) = false:=by simpa using h.1
    have h2:decide (15≤k) = false:=by simp; omega
    rw [h1,h2,cond_false,cond_false,aE (by omega)]
    obtain rfl | rfl | rfl | rfl | rfl | rfl | rfl | rfl | rfl | rfl | rfl | rfl | rfl | rfl:=kinds h.1 h.2 <;> rfl
  · rw [z7 h]
    have:(bif decide (k < 1) then true else decide (15≤k)) = true:=by
      rw [m3,Bool.or_eq_true,decide_eq_true_iff,decide_eq_true_iff]; omega
    rw [this]; rfl
def fE (k:Int) (c:Nat):Bool:=(eB k).contains c
theorem AS (k:Int):∀ c∈eB k,c < 256:=by
  by_cases h:1≤k∧k≤14
  · obtain rfl | rfl | rfl | rfl | rfl | rfl | rfl | rfl | rfl | rfl | rfl | rfl | rfl | rfl:=kinds h.1 h.2 <;> decide
  · rw [z7 h]; intro c hc; simp at hc
theorem uX (l:List Nat):(ak l).toList = l.map UInt8.ofNat:=by
  rw [ByteArray.toList_eq]
  rfl
theorem zZ (l:List Nat):(ak l).size = l.length:=by
  show ((l.map UInt8.ofNat).toArray).size = l.length
  simp
theorem alV (s:ByteArray) (i:Nat) (h:i < s.size):s[i]! = s.data.toList[i]'(by simpa using h):=by
  rw [getElem!_pos s i h]
  rfl
theorem Kn (s:ByteArray) (b:UInt8):0≤firstIdx s b↔b∈s.data.toList:=by
  unfold firstIdx
  constructor
  · intro h
    split at h
    · next i hi =>
      have h1:=List.find?_some hi
      have h2:=List.mem_range.1 (List.mem_of_find?_eq_some hi)
      rw [alV s i h2] at h1
      have h3:s.data.toList[i]'(by simpa using h2) = b:=by simpa using h1
      rw [← h3]
      exact List.getElem_mem _
    · simp at h
  · intro h
    obtain ⟨i,hi,e⟩:=List.getElem_of_mem h
    have h2:i < s.size:=by simpa using hi
    split
    · exact Int.natCast_nonneg _
    · next hn =>
      have:=List.find?_eq_none.1 hn i (List.mem_range.2 h2)
      rw [alV s i h2,e] at this
      simp at this
theorem V5 {l:List Nat} (hl:∀ c∈l,c < 256) {c:Nat} (hc:c < 256):UInt8.ofNat c∈(ak l).data.toList↔c∈l:=by
  show UInt8.ofNat c∈l.map UInt8.ofNat↔_
  constructor
  · intro h
    obtain ⟨d,hd,e⟩:=List.mem_map.1 h
    have h1:=congrArg UInt8.toNat e
    have h2:(UInt8.ofNat d).toNat = d:=by simp [Nat.mod_eq_of_lt (hl d hd)]
    have h3:(UInt8.ofNat c).toNat = c:=by simp [Nat.mod_eq_of_lt hc]
    rw [h2,h3] at h1
    subst h1; exact hd
  · exact fun h=>List.mem_map_of_mem h
theorem mU (k:Int) (c:Nat) (hc:c < 256):ca (ak [c]) (ak (eB k)) = some (fE k c):=by
  show (nA _ _).opt = _
  simp only [nA,oT]; unfold qK; simp only [m9,oT]; unfold wF; simp only [qF,oT]; unfold iZ; simp only [gM,oT]; unfold gq; simp only [fN,oT]; unfold gZ
  have h1:(ak [c]).size = 1:=rfl
  have h2:((((ak [c]).data.getD 0 0).toNat:Int)).toNat.toUInt8 = UInt8.ofNat c:=by
    show (((UInt8.ofNat c).toNat:Int)).toNat.toUInt8 = UInt8.ofNat c
    rw [Int.toNat_natCast]
    simp [Nat.mod_eq_of_lt hc]
  rw [h1,h2]
  have hz:(((1:Nat):Int) == 0) = false:=rfl
  have ho:(((1:Nat):Int) == 1) = true:=rfl
  rw [hz,ho,m3,Bool.false_or]
  unfold fE
  have hcon:(eB k).contains c = decide (c∈eB k):=by simp
  rw [hcon]
  cases he:((ak [c]).toList == (ak (eB k)).toList) with
  | true =>
    have e:[UInt8.ofNat c] = (eB k).map UInt8.ofNat:=by
      have:(ak [c]).toList = (ak (eB k)).toList:=by simpa using he
      rwa [uX,uX] at this
    have hm:c∈eB k:=(V5 (AS k) hc).1 (by show _∈(eB k).map UInt8.ofNat; rw [← e]; simp)
    simp [hm]
  | false =>
    simp only [cond_false,cond_true]
    rw [aE (by decide)]
    simp only [Option.bind_some,Option.some.injEq]
    rw [decide_eq_decide,Kn,V5 (AS k) hc]
def iS (x l h:Int):Bool:=decide (l≤x)&&decide (x≤h)
theorem Bj (x l h:Int):cY x l h = some (iS x l h):=by
  show (po x l h).opt = _
  simp only [po,oT]; unfold iS
  rw [fh]
def dz (u:Bool) (x l h:Int):Bool:=if u then iS x l h else x == 0
theorem ND (u:Bool) (x l h:Int):dm u x l h = some (dz u x l h):=by
  show (qu u x l h).opt = _
  simp only [qu,oT]; unfold dz
  rw [Bj]
  rw [aE (by intro _; rfl)]
  cases u <;> simp
def Dn (s:ab):Bool:=decide (0≤s.From)&&decide (s.From < s.To)&&decide (s.To≤73049)
theorem HP (s:ab):pd s = some (Dn s):=by
  show (la s).opt = _
  simp only [la,oT]; unfold Dn
  rw [fh,fh]
def Ee (f:ae):Bool:=if f.Kind = 4 then f.State != f.Seat else if f.Kind = 11∨f.Kind = 12 then f.Span.To == f.Span.From+1 else if f.Kind = 10∨f.Kind = 14 then f.Ref != f.Person else true
def jH (f:ae):Bool :=
  !(eB f.Kind).isEmpty&&iS f.Issuer 0 5&&iS f.Number 1 999&&iS f.Version 1 99&&iS f.Person 1 99 &&
  dz (fE f.Kind 83) f.State 0 5&&dz (fE f.Kind 84) f.Seat 0 5&&Dn f.Span &&
  dz (fE f.Kind 72) f.Share 1 100&&dz (fE f.Kind 67) f.Currency 1 999&&dz (fE f.Kind 65) f.Amount 0 1000000000&&dz (fE f.Kind 82) f.Ref 1 99&&Ee f
theorem Ii {x l h:Int}:iS x l h = true↔l≤x∧x≤h:=by
  unfold iS
  simp only [Bool.and_eq_true,decide_eq_true_eq]
theorem MH {s:ab}:Dn s = true↔0≤s.From∧s.From < s.To∧s.To≤73049:=by
  unfold Dn
  simp only [Bool.and_eq_true,decide_eq_true_eq,and_assoc]
theorem sa (f:ae):jH f = true↔(eB f.Kind).isEmpty = false∧(0≤f.Issuer∧f.Issuer≤5)∧(1≤f.Number∧f.Number≤999)∧(1≤f.Version∧f.Version≤99)∧(1≤f.Person∧f.Person≤99) ∧
    dz (fE f.Kind 83) f.State 0 5 = true∧dz (fE f.Kind 84) f.Seat 0 5 = true∧(0≤f.Span.From∧f.Span.From < f.Span.To∧f.Span.To≤73049)∧dz (fE f.Kind 72) f.Share 1 100 = true∧dz (fE f.Kind 67) f.Currency 1 999 = true ∧
    dz (fE f.Kind 65) f.Amount 0 1000000000 = true∧dz (fE f.Kind 82) f.Ref 1 99 = true∧Ee f = true:=by
  unfold jH
  simp only [Bool.and_eq_true,Ii,MH,Bool.not_eq_true',and_assoc]
theorem Pm (k:Int):((ak (eB k)).toList == (ak []).toList) = (eB k).isEmpty:=by
  rw [uX,uX]
  cases eB k <;> rfl
theorem PK (f:ae) (h:Dn f.Span = true):(qn f).opt = some (Ee f):=by
  have hs:=MH.1 h
  simp only [qn,oT]; unfold Ee; simp only [kf,oT]
  rw [bu (by omega) (by omega)]
  by_cases k4:f.Kind = 4
  · simp [k4]
  by_cases k11:f.Kind = 11
  · simp [k11]
  by_cases k12:f.Kind = 12
  · simp [k12]
  by_cases k10:f.Kind = 10
  · simp [k10]
  by_cases k14:f.Kind = 14
  · simp [k14]
  have e:∀ n:Int,f.Kind≠n→(f.Kind == n) = false:=fun n h=>by simpa using h
  simp [e 4 k4,e 11 k11,e 12 k12,e 10 k10,e 14 k14,k4,k11,k12,k10,k14]
theorem NL (f:ae):DX f = some (jH f):=by
  show (qj f).opt = _
  simp only [qj,oT]
  rw [OE,Option.bind_some]
  simp only [wJ,oT]
  simp only [Bj,mU f.Kind 83 (by decide),mU f.Kind 84 (by decide),mU f.Kind 72 (by decide),mU f.Kind 67 (by decide),mU f.Kind 65 (by decide),mU f.Kind 82 (by decide),ND,HP,oY,Gs,implies_true,Hl,Option.bind_some,Pm,m3]
  unfold jH
  cases hA:(eB f.Kind).isEmpty <;> cases hB:iS f.Issuer 0 5 <;> cases hC:iS f.Number 1 999 <;> cases hD:iS f.Version 1 99 <;> cases hE:iS f.Person 1 99 <;> simp only [Bool.not_true,Bool.not_false,Bool.or_true,Bool.or_false,Bool.true_or,Bool.false_or,cond_true,cond_false,Bool.false_and,Bool.true_and,Bool.and_false]
  cases hF:dz (fE f.Kind 83) f.State 0 5 <;> cases hG:dz (fE f.Kind 84) f.Seat 0 5 <;> cases hH:Dn f.Span <;> simp only [Bool.not_true,Bool.not_false,Bool.or_true,Bool.or_false,Bool.true_or,Bool.false_or,cond_true,cond_false,Bool.false_and,Bool.true_and,Bool.and_false]
  rw [PK f hH]
  cases hI:dz (fE f.Kind 72) f.Share 1 100 <;> cases hJ:dz (fE f.Kind 67) f.Currency 1 999 <;> cases hK:dz (fE f.Kind 65) f.Amount 0 1000000000 <;> cases hL:dz (fE f.Kind 82) f.Ref 1 99 <;> simp only [Bool.not_true,Bool.not_false,Bool.or_true,Bool.or_false,Bool.true_or,Bool.false_or,cond_true,cond_false,Bool.false_and,Bool.true_and,Bool.and_false]
theorem S9 (l:List Nat) (i:Nat) (h:i < l.length):(ak l).data.getD i 0 = UInt8.ofNat l[i]:=by
  show ((l.map UInt8.ofNat).toArray).getD i 0 = _
  rw [Array.getD_eq_getD_getElem?]
  simp [h]
theorem J4 (c:Nat) (hc:c < 256) (l:List Nat) (hl:∀ c∈l,c < 256) (hn:l.length < 1000):∀ (n i:Nat),l.length = i+n →
    fixL (qx (c:Int) (ak l)) (i:Int) = some (if c∈l.drop i then .inl () else .inr ()):=by
  intro n
  induction n with
  | zero =>
    intro i hi
    rw [bS]
    show (kd (c:Int) (ak l) (i:Int)).opt.bind _ = _
    simp only [kd,oT]
    rw [zZ]
    have:decide ((i:Int) < (l.length:Int)) = false:=by simp; omega
    rw [this,List.drop_of_length_le (by omega)]
    simp
  | succ n ih =>
    intro i hi
    have hlt:i < l.length:=by omega
    rw [bS]
    show (kd (c:Int) (ak l) (i:Int)).opt.bind _ = _
    simp only [kd,oT]
    rw [zZ]
    have:decide ((i:Int) < (l.length:Int)) = true:=by simp; omega
    rw [this,aE (by omega),Int.toNat_natCast,S9 l i hlt]
    have hv:((UInt8.ofNat l[i]).toNat:Int) = (l[i]:Int):=by
      have:=hl _ (List.getElem_mem hlt)
      simp [Nat.mod_eq_of_lt this]
    rw [hv,List.drop_eq_getElem_cons hlt]
    simp only [cond_true]
    by_cases e:l[i] = c
    · have:((l[i]:Int) == (c:Int)) = true:=by simp [e]
      rw [this]
      simp [e]
    · have:((l[i]:Int) == (c:Int)) = false:=by simp; omega
      rw [this,bu (by omega) (by omega)]
      simp only [cond_false,Option.bind_some]
      have:=ih (i+1) (by omega)
      rw [show ((i+1:Nat):Int) = (i:Int)+1 by omega] at this
      rw [this]
      have hne:¬ c = l[i]:=fun h=>e h.symm
      have hiff:(c∈l[i] :: l.drop (i+1))↔c∈l.drop (i+1):=by rw [List.mem_cons]; exact or_iff_right hne
      by_cases hm:c∈l.drop (i+1)
      · rw [if_pos hm,if_pos (hiff.2 hm)]
      · rw [if_neg hm,if_neg (fun h=>hm (hiff.1 h))]
theorem yl (k:Int):(eB k).length≤6:=by
  by_cases h:1≤k∧k≤14
  · obtain rfl | rfl | rfl | rfl | rfl | rfl | rfl | rfl | rfl | rfl | rfl | rfl | rfl | rfl:=kinds h.1 h.2 <;> decide
  · rw [z7 h]; decide
theorem NO (k:Int) (c:Nat) (hc:c < 256):DI k (c:Int) = some (fE k c):=by
  show (qc k c).opt = _
  simp only [qc,oT]
  rw [qi,Option.bind_some]
  unfold wP
  have hn:=yl k
  have:=J4 c hc (eB k) (AS k) (by omega) (eB k).length 0 (by omega)
  rw [show ((0:Nat):Int) = 0 from rfl] at this
  rw [this]
  unfold fE
  by_cases h:c∈eB k
  · simp [h,nC]
  · simp [h,nC,wG] <;> rfl
theorem jB (k:Int) (c:Nat) (hc:c < 256) (n l m:Int):bV k (c:Int) n l m = some (dz (fE k c) n l m):=by
  show (pc k c n l m).opt = _
  simp only [pc,oT]
  rw [NO k c hc,Option.bind_some]
  unfold dz iS
  cases fE k c
  · rfl
  · simp only [cond_true,fh,if_true]
theorem rf (k n l m:Int):(bV k 83 n l m = some (dz (fE k 83) n l m))∧(bV k 84 n l m = some (dz (fE k 84) n l m))∧(bV k 72 n l m = some (dz (fE k 72) n l m)) ∧
    (bV k 67 n l m = some (dz (fE k 67) n l m))∧(bV k 65 n l m = some (dz (fE k 65) n l m))∧(bV k 82 n l m = some (dz (fE k 82) n l m)) :=
  ⟨jB k 83 (by decide) n l m,jB k 84 (by decide) n l m,jB k 72 (by decide) n l m,jB k 67 (by decide) n l m,jB k 65 (by decide) n l m,jB k 82 (by decide) n l m⟩
theorem IJ {f:ae} (h:jH f = true→False):some false = some (jH f):=by
  cases hv:jH f with
  | false=>rfl
  | true=>exact (h hv).elim
theorem lG (f:ae):eZ f = some (jH f):=by
  show (oL f).opt = _
  simp only [oL,oT]
  rw [qi]
  rw [aE (by intro _; rfl)]
  simp only [oY,Pm,m3,fh]
  cases h1:(decide (f.Issuer < 0)||decide (6≤f.Issuer)||decide (f.Number < 1)||decide (999 < f.Number)||decide (f.Version < 1)||decide (99 < f.Version)||decide (f.Person < 1)||decide (99 < f.Person)||(eB f.Kind).isEmpty) with
  | true =>
    rw [cond_true]
    refine IJ fun hv=>?_
    obtain ⟨g0,g1,g2,g3,g4,_⟩:=(sa f).1 hv
    simp only [Bool.or_eq_true,decide_eq_true_eq,g0,Bool.false_eq_true,or_false] at h1
    omega
  | false =>
    rw [cond_false]
    cases h2:(decide (f.Span.From < 0)||decide (f.Span.To≤f.Span.From)||decide (73049 < f.Span.To)) with
    | true =>
      rw [cond_true]
      refine IJ fun hv=>?_
      obtain ⟨g0,g1,g2,g3,g4,_,_,g5,_⟩:=(sa f).1 hv
      simp only [Bool.or_eq_true,decide_eq_true_eq] at h2
      omega
    | false =>
      rw [cond_false]
      simp only [tG,oT]
      simp only [Bool.or_eq_false_iff,decide_eq_false_iff_not] at h1 h2
      rw [bu (by omega) (by omega)]
      simp only [m3,fh]
      cases h3:((f.Kind == 11||f.Kind == 12)&&f.Span.To - f.Span.From != 1||f.Kind == 4&&f.Seat == f.State||(f.Kind == 10||f.Kind == 14)&&f.Ref == f.Person) with
      | true =>
        rw [cond_true]
        refine IJ fun hv=>?_
        obtain ⟨_,g1,g2,g3,g4,_,_,g5,_,_,_,_,g6⟩:=(sa f).1 hv
        unfold Ee at g6
        simp only [Bool.or_eq_true,Bool.and_eq_true,beq_iff_eq,bne_iff_ne,ne_eq] at h3
        split at g6
        · simp only [bne_iff_ne,ne_eq] at g6; omega
        · split at g6
          · simp only [beq_iff_eq] at g6; omega
          · split at g6
            · simp only [bne_iff_ne,ne_eq] at g6; omega
            · omega
      | false =>
        rw [cond_false]
        have hf:=fun n l m=>rf f.Kind n l m
        simp only [(hf _ _ _).1,(hf _ _ _).2.1,(hf _ _ _).2.2.1,(hf _ _ _).2.2.2.1,(hf _ _ _).2.2.2.2.1,(hf _ _ _).2.2.2.2.2,oY,Gs,implies_true,Hl,Option.bind_some,Option.some.injEq]
        have hkind:Ee f = true:=by
          simp only [Bool.or_eq_false_iff,Bool.and_eq_false_iff,beq_eq_false_iff_ne,bne_eq_false_iff_eq,ne_eq] at h3
          unfold Ee
          split
          · simp only [bne_iff_ne,ne_eq]; omega
          · split
            · simp only [beq_iff_eq]; omega
            · split
              · simp only [bne_iff_ne,ne_eq]; omega
              · rfl
        rw [Bool.eq_iff_iff,sa]
        constructor
        · intro hx
          simp only [Bool.and_eq_true] at hx
          exact ⟨h1.2,by omega,by omega,by omega,by omega,hx.1.1.1.1.1,hx.1.1.1.1.2,by omega,hx.1.1.1.2,hx.1.1.2,hx.1.2,hx.2,hkind⟩
        · rintro ⟨_,_,_,_,_,a1,a2,_,a3,a4,a5,a6,_⟩
          simp only [Bool.and_eq_true]
          exact ⟨⟨⟨⟨⟨a1,a2⟩,a3⟩,a4⟩,a5⟩,a6⟩
end Go.Ax
