import Derived.Test.YtbjfcadcipfolaaGreatZP50
import Derived.Laws.RangeString
set_option linter.all false
/- Both texts read the same facts out of bytes. -/
set_option maxRecDepth 100000
namespace Go.Ax
theorem Iv (l:List Nat) (hl:∀ c∈l,c < 128) (i:Nat) (hi:i < l.length):gV (aE l) i = (l[i]:Int)∧l3 (aE l) i = i+1:=by
 have hsz:i < (aE l).size:=by rw [fa];exact hi
 have hg:(aE l)[i]'hsz = UInt8.ofNat l[i]:=by
  show (aE l).data[i]'hsz = _
  simp [aE]
 have hc:=hl _ (List.getElem_mem hi)
 have hn:((aE l)[i]'hsz).toNat = l[i]:=by rw [hg];simp [Nat.mod_eq_of_lt (show l[i] < 256 by omega)]
 have:=Go.decode_ascii (aE l) i hsz (by rw [hn];exact hc)
 unfold l3 gV wF
 have hlt:Nat.blt i (aE l).size = true:=by simpa using hsz
 rw [this,hn,hlt]
 exact ⟨rfl,rfl⟩
theorem xC (k:Int):∀ c∈bp k,c < 128:=by
 by_cases h:1≤k∧k≤14
 ·obtain rfl | rfl | rfl | rfl | rfl | rfl | rfl | rfl | rfl | rfl | rfl | rfl | rfl | rfl:=kinds h.1 h.2 <;> decide
 ·rw [jt h];simp
theorem xJ (k:Int):(bp k).Nodup:=by
 by_cases h:1≤k∧k≤14
 ·obtain rfl | rfl | rfl | rfl | rfl | rfl | rfl | rfl | rfl | rfl | rfl | rfl | rfl | rfl:=kinds h.1 h.2 <;> decide
 ·rw [jt h];decide
def it (c:Nat):Bool:=c == 83||c == 80||c == 84||c == 72||c == 67||c == 65||c == 82
theorem lD (k:Int):∀ c∈bp k,it c = true:=by
 by_cases h:1≤k∧k≤14
 ·obtain rfl | rfl | rfl | rfl | rfl | rfl | rfl | rfl | rfl | rfl | rfl | rfl | rfl | rfl:=kinds h.1 h.2 <;> decide
 ·rw [jt h];simp
theorem e7 {c:Nat} (h:it c = true):c = 83∨c = 80∨c = 84∨c = 72∨c = 67∨c = 65∨c = 82:=by
 unfold it at h
 simp only [Bool.or_eq_true,beq_iff_eq] at h
 omega
def dT (c:Nat):Nat:=if c = 80 then 6 else if c = 67 then 2 else if c = 65 then 4 else 1
theorem Ac (c:Nat):1≤dT c∧dT c≤6:=by
 unfold dT
 repeat' split
 all_goals omega
def lV (c:Nat) (f:GFact) (x:List Int):GFact :=
 if c = 83 then ⟨f.Issuer,f.Number,f.Version,f.Withdrawn,f.Person,f.Kind,ax x,f.Span,f.Seat,f.Share,f.Currency,f.Amount,f.Ref⟩ else
 if c = 80 then ⟨f.Issuer,f.Number,f.Version,f.Withdrawn,f.Person,f.Kind,f.State,⟨ax (x.take 3),ax (x.drop 3)⟩,f.Seat,f.Share,f.Currency,f.Amount,f.Ref⟩ else
 if c = 84 then ⟨f.Issuer,f.Number,f.Version,f.Withdrawn,f.Person,f.Kind,f.State,f.Span,ax x,f.Share,f.Currency,f.Amount,f.Ref⟩ else
 if c = 72 then ⟨f.Issuer,f.Number,f.Version,f.Withdrawn,f.Person,f.Kind,f.State,f.Span,f.Seat,ax x,f.Currency,f.Amount,f.Ref⟩ else
 if c = 67 then ⟨f.Issuer,f.Number,f.Version,f.Withdrawn,f.Person,f.Kind,f.State,f.Span,f.Seat,f.Share,ax x,f.Amount,f.Ref⟩ else
 if c = 65 then ⟨f.Issuer,f.Number,f.Version,f.Withdrawn,f.Person,f.Kind,f.State,f.Span,f.Seat,f.Share,f.Currency,ax x,f.Ref⟩ else
 if c = 82 then ⟨f.Issuer,f.Number,f.Version,f.Withdrawn,f.Person,f.Kind,f.State,f.Span,f.Seat,f.Share,f.Currency,f.Amount,ax x⟩ else f
def gr (f:GFact) (c:Nat):List Int :=
 if c = 83 then aq f.State 1 else if c = 80 then aq f.Span.From 3++aq f.Span.To 3 else if c = 84 then aq f.Seat 1 else if c = 72 then aq f.Share 1 else
 if c = 67 then aq f.Currency 2 else if c = 65 then aq f.Amount 4 else if c = 82 then aq f.Ref 1 else []
theorem Mm (f:GFact) (c:Nat):aA (gr f c):=by
 unfold gr
 repeat' split
 all_goals first | exact aS _ _ | exact bi.2 ⟨aS _ _,aS _ _⟩ | exact mL
theorem LB {f:GFact} {c:Nat} (h:it c = true):(gr f c).length = dT c:=by
 obtain rfl | rfl | rfl | rfl | rfl | rfl | rfl:=e7 h <;> simp [gr,dT,ay]
theorem L9 {f:GFact} {c:Nat} {x:List Int} (h:it c = true) (hx:aA x) (hl:x.length = dT c):gr (lV c f x) c = x:=by
 have one:∀ n,x.length = n→aq (ax x) n = x:=fun n e=>by subst e;exact jr hx
 obtain rfl | rfl | rfl | rfl | rfl | rfl | rfl:=e7 h
 ·exact one 1 hl
 ·show aq (ax (x.take 3)) 3++aq (ax (x.drop 3)) 3 = x
  have hl:x.length = 6:=hl
  have e1:aq (ax (x.take 3)) (x.take 3).length = x.take 3:=jr (hx.take 3)
  have e2:aq (ax (x.drop 3)) (x.drop 3).length = x.drop 3:=jr (hx.drop 3)
  rw [List.length_take,hl] at e1
  rw [List.length_drop,hl] at e2
  rw [show min 3 6 = 3 from rfl] at e1
  rw [show 6 - 3 = 3 from rfl] at e2
  rw [e1,e2,List.take_append_drop]
 ·exact one 1 hl
 ·exact one 1 hl
 ·exact one 2 hl
 ·exact one 4 hl
 ·exact one 1 hl
theorem J0 {f:GFact} {c d:Nat} {x:List Int} (hc:it c = true) (hne:c≠d):gr (lV c f x) d = gr f d:=by
 obtain rfl | rfl | rfl | rfl | rfl | rfl | rfl:=e7 hc <;> (unfold gr;simp only [lV];simp (config:={ decide:=true }) only [if_true,if_false]) <;> (repeat' split) <;> first | rfl | (exfalso;omega)
theorem KJ {f:GFact} {c:Nat} {x:List Int} (hc:it c = true):(lV c f x).Issuer = f.Issuer∧(lV c f x).Number = f.Number∧(lV c f x).Version = f.Version∧(lV c f x).Withdrawn = f.Withdrawn∧(lV c f x).Person = f.Person∧(lV c f x).Kind = f.Kind:=by
 obtain rfl | rfl | rfl | rfl | rfl | rfl | rfl:=e7 hc <;> exact ⟨rfl,rfl,rfl,rfl,rfl,rfl⟩
def kj:List Nat→GFact→List Int→Option (GFact × List Int)
 | [],f,b=>some (f,b)
 | c :: u,f,b=>if dT c≤b.length then kj u (lV c f (b.take (dT c))) (b.drop (dT c)) else none
theorem tS:∀ (u:List Nat) (f:GFact) (b:List Int) (f':GFact) (r:List Int),(∀ c∈u,it c = true)→u.Nodup→aA b→kj u f b = some (f',r) →
  u.flatMap (gr f')++r = b∧(∀ d,d ∉ u→gr f' d = gr f d)∧(f'.Issuer = f.Issuer∧f'.Number = f.Number∧f'.Version = f.Version∧f'.Withdrawn = f.Withdrawn∧f'.Person = f.Person∧f'.Kind = f.Kind)
 | [],f,b,f',r,_,_,_,h=>by
  cases h
  exact ⟨rfl,fun _ _=>rfl,rfl,rfl,rfl,rfl,rfl,rfl⟩
 | c :: u,f,b,f',r,hl,hn,hb,h=>by
  rw [kj] at h
  split at h
  ·next hle =>
   have hc:=hl c (by simp)
   obtain ⟨hn1,hn2⟩:=List.nodup_cons.1 hn
   obtain ⟨h1,h2,h3⟩:=tS u _ _ f' r (fun d hd=>hl d (by simp [hd])) hn2 (hb.drop _) h
   obtain ⟨g1,g2,g3,g4,g5,g6⟩:=KJ (f:=f) (x:=b.take (dT c)) hc
   refine ⟨?_,fun d hd=>?_, ?_⟩
   ·rw [List.flatMap_cons,List.append_assoc,h1,h2 c hn1,L9 hc (hb.take _) (by rw [List.length_take];omega),List.take_append_drop]
   ·rw [h2 d (fun hx=>hd (by simp [hx])),J0 hc (fun e=>hd (by simp [e]))]
   ·rw [g1,g2,g3,g4,g5,g6] at h3;exact h3
  ·cases h
theorem dZ (a b:Nat):((a:Int) == (b:Int)) = decide (a = b):=by
 by_cases h:a = b
 ·simp [h]
 ·rw [decide_eq_false h]
  have:¬ ((a:Int) = (b:Int)):=by omega
  simpa using this
def H4:GFact:=⟨0,0,0,false,0,0,0,⟨0,0⟩,0,0,0,0,0⟩
def iI:GFact × Int × Bool:=(H4,0,false)
theorem kd {n:Nat} {b:List Int} (h:aA b) (hn:n≤7) (hB:b.length≤1000000000000):∃ y b',am (n:Int) ⟨b,true⟩ = some (y,⟨b',true⟩)∧aA b'∧b'.length≤b.length:=by
 rw [mZ h hn hB]
 split
 ·exact ⟨_,_,rfl,h.drop _,by rw [List.length_drop];omega⟩
 ·exact ⟨_,_,rfl,h,Nat.le_refl _⟩
theorem Fy (b:List Int) (w:Int) (f:GFact) (r:GFact_reader) (u:List Nat):aH b w f r (aE u) (u.length:Int) = (bif r.short then some iI else bif aa (1 < w) then some iI else bif (!bH f) then some iI else some (f,(ae ((b.length:Int) - (r.b.length:Int))),true)):=by
 have hlt:Nat.blt u.length (aE u).size = false:=by
  rw [fa]
  cases hc:Nat.blt u.length u.length with
  | false=>rfl
  | true=>rw [Nat.blt_eq] at hc;omega
 rw [nT,Int.toNat_natCast,hlt,cond_false,BK]
 rfl
theorem CG (b:List Int) (w:Int) (f:GFact) (r:GFact_reader) (u:List Nat) (hu:∀ c∈u,c < 128) (i:Nat) (hi:i < u.length) (hl:it u[i] = true) :
  aH b w f r (aE u) (i:Int) = if u[i] = 80 then (am 3 r).bind fun r1=>(am 3 r1.2).bind fun r2=>aH b w (⟨f.Issuer,f.Number,f.Version,f.Withdrawn,f.Person,f.Kind,f.State,(⟨r1.1,r2.1⟩:GSpan),f.Seat,f.Share,f.Currency,f.Amount,f.Ref⟩:GFact) r2.2 (aE u) ((i+1:Nat):Int)
   else (am (dT u[i]:Int) r).bind fun r1=>aH b w (if u[i] = 83 then ⟨f.Issuer,f.Number,f.Version,f.Withdrawn,f.Person,f.Kind,r1.1,f.Span,f.Seat,f.Share,f.Currency,f.Amount,f.Ref⟩ else
    if u[i] = 84 then ⟨f.Issuer,f.Number,f.Version,f.Withdrawn,f.Person,f.Kind,f.State,f.Span,r1.1,f.Share,f.Currency,f.Amount,f.Ref⟩ else if u[i] = 72 then ⟨f.Issuer,f.Number,f.Version,f.Withdrawn,f.Person,f.Kind,f.State,f.Span,f.Seat,r1.1,f.Currency,f.Amount,f.Ref⟩ else
    if u[i] = 67 then ⟨f.Issuer,f.Number,f.Version,f.Withdrawn,f.Person,f.Kind,f.State,f.Span,f.Seat,f.Share,r1.1,f.Amount,f.Ref⟩ else if u[i] = 65 then ⟨f.Issuer,f.Number,f.Version,f.Withdrawn,f.Person,f.Kind,f.State,f.Span,f.Seat,f.Share,f.Currency,r1.1,f.Ref⟩ else
    ⟨f.Issuer,f.Number,f.Version,f.Withdrawn,f.Person,f.Kind,f.State,f.Span,f.Seat,f.Share,f.Currency,f.Amount,r1.1⟩) r1.2 (aE u) ((i+1:Nat):Int):=by
 obtain ⟨r1,r2⟩:=Iv u hu i hi
 have hlt:Nat.blt i (aE u).size = true:=by rw [fa];simpa using hi
 rw [nT,Int.toNat_natCast,hlt,cond_true,ac rfl,r1,r2]
 have k83:=dZ u[i] 83;have k80:=dZ u[i] 80;have k84:=dZ u[i] 84;have k72:=dZ u[i] 72;have k67:=dZ u[i] 67;have k65:=dZ u[i] 65;have k82:=dZ u[i] 82
 simp only [Int.cast_ofNat_Int] at k83 k80 k84 k72 k67 k65 k82
 unfold ak
 rw [k83,k80,k84,k72,k67,k65,k82]
 revert hl
 generalize u[i] = c
 intro hl
 obtain rfl | rfl | rfl | rfl | rfl | rfl | rfl:=e7 hl <;> rfl
theorem lp (b:List Int) (w:Int) (u:List Nat) (hu:∀ c∈u,c < 128) (hl:∀ c∈u,it c = true):∀ (n i:Nat) (f:GFact) (r:List Int),u.length = i+n→aA r→r.length≤1000000000000→aH b w f ⟨r,true⟩ (aE u) (i:Int) = some iI
 | 0,i,f,r,hi,_,_=>by
  have:i = u.length:=by omega
  subst this
  rw [Fy];rfl
 | n+1,i,f,r,hi,hr,hB=>by
  have hlt:i < u.length:=by omega
  rw [CG b w f _ u hu i hlt (hl _ (List.getElem_mem hlt))]
  split
  ·obtain ⟨y1,b1,e1,h1,h1'⟩:=kd (n:=3) hr (by omega) hB
   obtain ⟨y2,b2,e2,h2,h2'⟩:=kd (n:=3) h1 (by omega) (by omega)
   have e1:am 3 ⟨r,true⟩ = some (y1,⟨b1,true⟩):=e1
   have e2:am 3 ⟨b1,true⟩ = some (y2,⟨b2,true⟩):=e2
   rw [e1,Option.bind_some,e2,Option.bind_some]
   exact lp b w u hu hl n (i+1) _ b2 (by omega) h2 (by omega)
  ·obtain ⟨y1,b1,e1,h1,h1'⟩:=kd (n:=dT u[i]) hr (by have:=Ac u[i];omega) hB
   rw [e1,Option.bind_some]
   exact lp b w u hu hl n (i+1) _ b1 (by omega) h1 (by omega)
def KG (b:List Int) (w:Int) (o:Option (GFact × List Int)):GFact × Int × Bool:=match o with
 | none=>iI
 | some (f,r)=>if 1 < w then iI else if bH f = true then (f,(b.length:Int) - (r.length:Int),true) else iI
theorem wn (b:List Int) (w:Int) (hbB:b.length≤1000000000000) (u:List Nat) (hu:∀ c∈u,c < 128) (hl:∀ c∈u,it c = true):∀ (n i:Nat) (f:GFact) (r:List Int),u.length = i+n→aA r→r.length≤b.length→aH b w f ⟨r,false⟩ (aE u) (i:Int) = some (KG b w (kj (u.drop i) f r))
 | 0,i,f,r,hi,_,hB=>by
  have:i = u.length:=by omega
  subst this
  rw [Fy,List.drop_length]
  show (bif false then _ else _) = some (if 1 < w then iI else if bH f = true then _ else iI)
  rw [cond_false]
  by_cases hw:1 < w
  ·rw [bf hw,cond_true,if_pos hw]
  ·rw [bJ hw,cond_false,if_neg hw]
   cases hv:bH f with
   | false=>rfl
   | true =>
    show some (f,ae ((b.length:Int) - (r.length:Int)),true) = _
    rw [aD (by omega) (by omega)]
    rfl
 | n+1,i,f,r,hi,hr,hB=>by
  have hlt:i < u.length:=by omega
  have hc:=hl _ (List.getElem_mem hlt)
  rw [CG b w f _ u hu i hlt hc,List.drop_eq_getElem_cons hlt,kj]
  split
  ·next h80 =>
   have e1:=mZ (n:=3) (s:=false) hr (by omega) (by omega)
   have e1:am 3 ⟨r,false⟩ = some (if 3≤r.length then (ax (r.take 3),⟨r.drop 3,false⟩) else (0,⟨r,true⟩)):=e1
   rw [e1,Option.bind_some,h80,show dT 80 = 6 from rfl]
   by_cases h3:3≤r.length
   ·rw [if_pos h3]
    have e2:=mZ (n:=3) (s:=false) (hr.drop 3) (by omega) (by rw [List.length_drop];omega)
    have e2:am 3 ⟨r.drop 3,false⟩ = some (if 3≤(r.drop 3).length then (ax ((r.drop 3).take 3),⟨(r.drop 3).drop 3,false⟩) else (0,⟨r.drop 3,true⟩)):=e2
    rw [e2,Option.bind_some,List.length_drop]
    by_cases h6:6≤r.length
    ·rw [if_pos (by omega),if_pos h6]
     have:=wn b w hbB u hu hl n (i+1) (lV 80 f (r.take 6)) (r.drop 6) (by omega) (hr.drop 6) (by rw [List.length_drop];omega)
     rw [← this,List.drop_drop]
     congr 1
     show (⟨f.Issuer,f.Number,f.Version,f.Withdrawn,f.Person,f.Kind,f.State,⟨ax (r.take 3),ax ((r.drop 3).take 3)⟩,f.Seat,f.Share,f.Currency,f.Amount,f.Ref⟩:GFact) = ⟨f.Issuer,f.Number,f.Version,f.Withdrawn,f.Person,f.Kind,f.State,⟨ax ((r.take 6).take 3),ax ((r.take 6).drop 3)⟩,f.Seat,f.Share,f.Currency,f.Amount,f.Ref⟩
     rw [List.take_take,List.drop_take]
     rfl
    ·rw [if_neg (by omega),if_neg h6]
     exact lp b w u hu hl n (i+1) _ _ (by omega) (hr.drop 3) (by rw [List.length_drop];omega)
   ·rw [if_neg h3,if_neg (by omega:¬ 6≤r.length)]
    obtain ⟨y2,b2,e2,h2,h2'⟩:=kd (n:=3) hr (by omega) (by omega)
    have e2:am 3 ⟨r,true⟩ = some (y2,⟨b2,true⟩):=e2
    show ((am 3 ⟨r,true⟩).bind _) = _
    rw [e2,Option.bind_some]
    exact lp b w u hu hl n (i+1) _ b2 (by omega) h2 (by omega)
  ·next h80 =>
   rw [mZ hr (by have:=Ac u[i];omega) (by omega),Option.bind_some]
   by_cases hle:dT u[i]≤r.length
   ·rw [if_pos hle,if_pos hle]
    have:=wn b w hbB u hu hl n (i+1) (lV u[i] f (r.take (dT u[i]))) (r.drop (dT u[i])) (by omega) (hr.drop _) (by rw [List.length_drop];omega)
    rw [← this]
    congr 1
    revert hc h80
    generalize u[i] = c
    intro hc h80
    obtain rfl | rfl | rfl | rfl | rfl | rfl | rfl:=e7 hc <;> first | rfl | (exact absurd rfl h80)
   ·rw [if_neg hle,if_neg hle]
    exact lp b w u hu hl n (i+1) _ _ (by omega) hr (by omega)
end Go.Ax
set_option linter.all false
/- fact.Read is the reference's Read. -/
set_option maxRecDepth 100000
namespace Go.Ax
def Cf (b:List Int):GFact:=⟨gD b 0 0,ax (aj b 1 2),gD b 3 0,ak (gD b 4 0) 1,gD b 5 0,gD b 6 0,0,⟨0,0⟩,0,0,0,0,0⟩
def uB (b:List Int):GFact × Int × Bool:=if 7≤b.length then KG b (gD b 4 0) (kj (bp (gD b 6 0)) (Cf b) (b.drop 7)) else iI
theorem GV (b:List Int) (w:Int) (f:GFact) (r:List Int) (k:Int) (hr:aA r) (hB:r.length≤1000000000000):((e9 k).bind fun r6=>aH b w f ⟨r,true⟩ r6 0) = some iI:=by
 rw [oA,Option.bind_some]
 exact lp b w (bp k) (xC k) (lD k) _ 0 f r (Nat.zero_add _).symm hr hB
theorem oW {b:List Int} {s:Bool} (h:aA b) (hB:b.length≤1000000000000):am 1 ⟨b,s⟩ = some (if 1≤b.length then (ax (b.take 1),⟨b.drop 1,s⟩) else (0,⟨b,true⟩)):=mZ (n:=1) h (by omega) hB
theorem LH {b:List Int} {s:Bool} (h:aA b) (hB:b.length≤1000000000000):am 2 ⟨b,s⟩ = some (if 2≤b.length then (ax (b.take 2),⟨b.drop 2,s⟩) else (0,⟨b,true⟩)):=mZ (n:=2) h (by omega) hB
theorem B2 {b:List Int} (i:Nat) (h:i < b.length):ax ((b.drop i).take 1) = gD b i 0:=by
 rw [List.drop_eq_getElem_cons h,List.take_succ_cons,List.take_zero]
 show 0*256+b[i] = b.getD i 0
 rw [List.getD_eq_getElem?_getD,List.getElem?_eq_getElem h]
 simp
theorem zP {b:List Int} (h:aA b) (hB:b.length≤1000000000000):∃ y b',am 1 ⟨b,true⟩ = some (y,⟨b',true⟩)∧aA b'∧b'.length≤1000000000000:=by
 obtain ⟨y,b',e,h1,h2⟩:=kd (n:=1) h (by omega) hB
 exact ⟨y,b',e,h1,by omega⟩
theorem MQ {b:List Int} (h:aA b) (hB:b.length≤1000000000000):∃ y b',am 2 ⟨b,true⟩ = some (y,⟨b',true⟩)∧aA b'∧b'.length≤1000000000000:=by
 obtain ⟨y,b',e,h1,h2⟩:=kd (n:=2) h (by omega) hB
 exact ⟨y,b',e,h1,by omega⟩
theorem Da {b:List Int} (h:aA b) (hB:b.length≤1000000000000):wv b = some (uB b):=by
 rw [EQ,oW h hB,Option.bind_some]
 by_cases h7:7≤b.length
 ·rw [if_pos (by omega)]
  have hd:∀ k,(b.drop k).length = b.length - k:=fun k=>List.length_drop
  rw [LH (h.drop 1) (by rw [hd];omega),Option.bind_some,if_pos (by rw [hd];omega),List.drop_drop]
  rw [oW (h.drop (1+2)) (by rw [hd];omega),Option.bind_some,if_pos (by rw [hd];omega),List.drop_drop]
  rw [oW (h.drop (1+2+1)) (by rw [hd];omega),Option.bind_some,if_pos (by rw [hd];omega),List.drop_drop]
  rw [oW (h.drop (1+2+1+1)) (by rw [hd];omega),Option.bind_some,if_pos (by rw [hd];omega),List.drop_drop]
  rw [oW (h.drop (1+2+1+1+1)) (by rw [hd];omega),Option.bind_some,if_pos (by rw [hd];omega),List.drop_drop]
  have e0:ax (b.take 1) = gD b 0 0:=by have:=B2 (b:=b) 0 (by omega);rwa [List.drop_zero] at this
  show ((e9 (ax ((b.drop 6).take 1))).bind fun r6=>aH b (ax ((b.drop 4).take 1)) ⟨ax (b.take 1),ax ((b.drop 1).take 2),ax ((b.drop 3).take 1),ak (ax ((b.drop 4).take 1)) 1,ax ((b.drop 5).take 1),ax ((b.drop 6).take 1),0,⟨0,0⟩,0,0,0,0,0⟩ ⟨b.drop 7,false⟩ r6 0) = _
  rw [e0,B2 3 (by omega),B2 4 (by omega),B2 5 (by omega),B2 6 (by omega),oA,Option.bind_some]
  have:=wn b (gD b 4 0) hB (bp (gD b 6 0)) (xC _) (lD _) _ 0 (Cf b) (b.drop 7) (Nat.zero_add _).symm (h.drop 7) (by rw [hd];omega)
  unfold uB
  rw [if_pos h7]
  exact this
 ·
  have fin:uB b = iI:=by unfold uB;rw [if_neg h7]
  rw [fin]
  have k1:∀ (c:List Int) (p q:Int) (f:Int→Int→GFact),aA c→c.length≤1000000000000→((am 1 ⟨c,true⟩).bind fun r5=>(e9 r5.1).bind fun r6=>aH b p (f q r5.1) r5.2 r6 0) = some iI:=by
   intro c p q f hc hl
   obtain ⟨y,b',e,h1,h2⟩:=zP hc hl
   rw [e,Option.bind_some]
   exact GV b _ _ b' _ h1 h2
  have k2:∀ (c:List Int) (p:Int) (f:Int→Int→GFact),aA c→c.length≤1000000000000→((am 1 ⟨c,true⟩).bind fun r4=>(am 1 r4.2).bind fun r5=>(e9 r5.1).bind fun r6=>aH b p (f r4.1 r5.1) r5.2 r6 0) = some iI:=by
   intro c p f hc hl
   obtain ⟨y,b',e,h1,h2⟩:=zP hc hl
   rw [e,Option.bind_some]
   exact k1 b' p y f h1 h2
  have k3:∀ (c:List Int) (f:Int→Int→Int→GFact),aA c→c.length≤1000000000000→((am 1 ⟨c,true⟩).bind fun r3=>(am 1 r3.2).bind fun r4=>(am 1 r4.2).bind fun r5=>(e9 r5.1).bind fun r6=>aH b r3.1 (f r3.1 r4.1 r5.1) r5.2 r6 0) = some iI:=by
   intro c f hc hl
   obtain ⟨y,b',e,h1,h2⟩:=zP hc hl
   rw [e,Option.bind_some]
   exact k2 b' y (f y) h1 h2
  have k4:∀ (c:List Int) (f:Int→Int→Int→Int→GFact),aA c→c.length≤1000000000000→((am 1 ⟨c,true⟩).bind fun r2=>(am 1 r2.2).bind fun r3=>(am 1 r3.2).bind fun r4=>(am 1 r4.2).bind fun r5=>(e9 r5.1).bind fun r6=>aH b r3.1 (f r2.1 r3.1 r4.1 r5.1) r5.2 r6 0) = some iI:=by
   intro c f hc hl
   obtain ⟨y,b',e,h1,h2⟩:=zP hc hl
   rw [e,Option.bind_some]
   exact k3 b' (f y) h1 h2
  have hd:∀ k,(b.drop k).length = b.length - k:=fun k=>List.length_drop
  by_cases g1:1≤b.length
  ·rw [if_pos g1,LH (h.drop 1) (by rw [hd];omega),Option.bind_some]
   by_cases g3:2≤(b.drop 1).length
   ·rw [if_pos g3,oW ((h.drop 1).drop 2) (by rw [List.drop_drop,hd];omega),Option.bind_some]
    by_cases g4:1≤((b.drop 1).drop 2).length
    ·rw [if_pos g4,oW (((h.drop 1).drop 2).drop 1) (by rw [List.drop_drop,List.drop_drop,hd];omega),Option.bind_some]
     by_cases g5:1≤(((b.drop 1).drop 2).drop 1).length
     ·rw [if_pos g5,oW ((((h.drop 1).drop 2).drop 1).drop 1) (by rw [List.drop_drop,List.drop_drop,List.drop_drop,hd];omega),Option.bind_some]
      by_cases g6:1≤((((b.drop 1).drop 2).drop 1).drop 1).length
      ·rw [if_pos g6,oW (((((h.drop 1).drop 2).drop 1).drop 1).drop 1) (by rw [List.drop_drop,List.drop_drop,List.drop_drop,List.drop_drop,hd];omega),Option.bind_some]
       rw [if_neg (by rw [List.drop_drop,List.drop_drop,List.drop_drop,List.drop_drop,hd];omega)]
       exact GV b _ _ _ _ (((((h.drop 1).drop 2).drop 1).drop 1).drop 1) (by rw [List.drop_drop,List.drop_drop,List.drop_drop,List.drop_drop,hd];omega)
      ·rw [if_neg g6]
       exact k1 _ _ _ (fun x y=>⟨_,_,_,_,x,y,_,_,_,_,_,_,_⟩) ((((h.drop 1).drop 2).drop 1).drop 1) (by rw [List.drop_drop,List.drop_drop,List.drop_drop,hd];omega)
     ·rw [if_neg g5]
      exact k2 _ _ (fun x y=>⟨_,_,_,_,x,y,_,_,_,_,_,_,_⟩) (((h.drop 1).drop 2).drop 1) (by rw [List.drop_drop,List.drop_drop,hd];omega)
    ·rw [if_neg g4]
     exact k3 _ (fun z x y=>⟨_,_,_,ak z 1,x,y,_,_,_,_,_,_,_⟩) ((h.drop 1).drop 2) (by rw [List.drop_drop,hd];omega)
   ·rw [if_neg g3]
    exact k4 _ (fun u z x y=>⟨_,_,u,ak z 1,x,y,_,_,_,_,_,_,_⟩) (h.drop 1) (by rw [hd];omega)
  ·rw [if_neg g1]
   obtain ⟨y,b',e,h1,h2⟩:=MQ h hB
   rw [e,Option.bind_some]
   exact k4 b' (fun u z x y'=>⟨_,y,u,ak z 1,x,y',_,_,_,_,_,_,_⟩) h1 h2
def kQ (f:GFact):Int:=if f.Withdrawn then 1 else 0
def oZ (f:GFact):List Int:=aq f.Issuer 1++aq f.Number 2++aq f.Version 1++aq (kQ f) 1++aq f.Person 1++aq f.Kind 1
def dH (f:GFact):List Int:=oZ f++(bp f.Kind).flatMap (gr f)
theorem CP (f:GFact):(oZ f).length = 7:=by simp [oZ,ay]
theorem K6 (f:GFact):aA (oZ f):=by
 unfold oZ
 exact bi.2 ⟨bi.2 ⟨bi.2 ⟨bi.2 ⟨bi.2 ⟨aS _ _,aS _ _⟩,aS _ _⟩,aS _ _⟩,aS _ _⟩,aS _ _⟩
theorem Mh (f:GFact) (u:List Nat):aA (u.flatMap (gr f)):=by
 intro x hx
 obtain ⟨c,_,h⟩:=List.mem_flatMap.1 hx
 exact Mm f c x h
theorem Ci (f:GFact):∀ (u:List Nat),(u.flatMap (gr f)).length≤6*u.length
 | []=>by simp
 | c :: u=>by
  have:=Ci f u
  have h6:(gr f c).length≤6:=by
   unfold gr
   repeat' split
   all_goals simp [ay]
  rw [List.flatMap_cons,List.length_append,List.length_cons];omega
theorem CY (f:GFact):aA (dH f):=bi.2 ⟨K6 f,Mh f _⟩
theorem uo (f:GFact):7≤(dH f).length∧(dH f).length≤43:=by
 unfold dH
 rw [List.length_append,CP]
 have:=Ci f (bp f.Kind)
 have:=jG f.Kind
 omega
theorem GL (u:List Nat) (hu:∀ c∈u,c < 256) (i:Nat) (hi:i < u.length):((UInt8.toNat (Array.getD (aE u).data ((i:Int)).toNat (UInt8.ofNat 0))):Int) = (u[i]:Int):=by
 rw [Int.toNat_natCast,zk u i hi]
 have:=hu _ (List.getElem_mem hi)
 simp [Nat.mod_eq_of_lt this]
theorem Ip (u:List Nat) (hu:∀ c∈u,c < 256) (hn:u.length≤50) (i:Nat) (hi:i < u.length) (hl:it u[i] = true) (f:GFact) (b:List Int) (hb:b.length≤1000):cn (aE u) (i:Int) f b = cn (aE u) ((i+1:Nat):Int) f (b++gr f u[i]):=by
 have hsz:((aE u).size:Int) = (u.length:Int):=by rw [fa]
 have b1:∀ v,aN v 1 b = some (b++aq v 1):=fun v=>eJ v (n:=1) (by omega) b (by omega)
 have b2:∀ v,aN v 2 b = some (b++aq v 2):=fun v=>eJ v (n:=2) (by omega) b (by omega)
 have b4:∀ v,aN v 4 b = some (b++aq v 4):=fun v=>eJ v (n:=4) (by omega) b (by omega)
 have b3:∀ v,aN v 3 b = some (b++aq v 3):=fun v=>eJ v (n:=3) (by omega) b (by omega)
 have b3':∀ v z,aN v 3 (b++aq z 3) = some (b++aq z 3++aq v 3):=fun v z=>eJ v (n:=3) (by omega) _ (by rw [List.length_append,ay];omega)
 rw [mo,hsz,eD hi,cu,cond_true,aF,aF,GL u hu i hi]
 simp only [b1,b2,b3,b4,b3',Option.bind_some,ud,di hi (by omega)]
 have k83:=dZ u[i] 83;have k80:=dZ u[i] 80;have k84:=dZ u[i] 84;have k72:=dZ u[i] 72;have k67:=dZ u[i] 67;have k65:=dZ u[i] 65;have k82:=dZ u[i] 82
 simp only [Int.cast_ofNat_Int] at k83 k80 k84 k72 k67 k65 k82
 unfold ak
 rw [k83,k80,k84,k72,k67,k65,k82]
 revert hl
 generalize u[i] = c
 intro hl
 obtain rfl | rfl | rfl | rfl | rfl | rfl | rfl:=e7 hl <;> first | rfl | (show cn _ _ _ (b++aq f.Span.From 3++aq f.Span.To 3) = cn _ _ _ (b++(aq f.Span.From 3++aq f.Span.To 3));rw [List.append_assoc])
theorem zW (u:List Nat) (hu:∀ c∈u,c < 256) (hn:u.length≤50) (hl:∀ c∈u,it c = true) (f:GFact):∀ (n i:Nat) (b:List Int),u.length = i+n→b.length≤8+6*i→cn (aE u) (i:Int) f b = some (b++(u.drop i).flatMap (gr f))
 | 0,i,b,hi,_=>by
  have:i = u.length:=by omega
  subst this
  rw [mo,show ((aE u).size:Int) = (u.length:Int) by rw [fa],dq,cond_false,List.drop_length]
  simp
 | n+1,i,b,hi,hb=>by
  have hlt:i < u.length:=by omega
  have hc:=hl _ (List.getElem_mem hlt)
  have h6:=LB (f:=f) hc
  have:=Ac u[i]
  rw [Ip u hu hn i hlt hc f b (by omega),zW u hu hn hl f n (i+1) _ (by omega) (by rw [List.length_append];omega),List.drop_eq_getElem_cons hlt,List.flatMap_cons,List.append_assoc]
theorem qG (f:GFact):nr f = some (if bH f = true then dH f else []):=by
 rw [BL,qH,Option.bind_some]
 cases hv:bH f with
 | false=>rfl
 | true =>
  have key:∀ g,jh g f = some ((aq f.Issuer 1++aq f.Number 2++aq f.Version 1++aq g 1++aq f.Person 1++aq f.Kind 1)++(bp f.Kind).flatMap (gr f)):=by
   intro g
   have b1:∀ v b,b.length≤100→aN v 1 b = some (b++aq v 1):=fun v b hb=>eJ v (n:=1) (by omega) b (by omega)
   have b2:∀ v b,b.length≤100→aN v 2 b = some (b++aq v 2):=fun v b hb=>eJ v (n:=2) (by omega) b (by omega)
   rw [vn,b1 _ _ (by simp),Option.bind_some,b2 _ _ (by simp [ay]),Option.bind_some,b1 _ _ (by simp [ay]),Option.bind_some,b1 _ _ (by simp [ay]),Option.bind_some,b1 _ _ (by simp [ay]),Option.bind_some,b1 _ _ (by simp [ay]),Option.bind_some,gO,Option.bind_some]
   have:=zW (bp f.Kind) (kK _) (by have:=jG f.Kind;omega) (lD _) f _ 0 ([]++aq f.Issuer 1++aq f.Number 2++aq f.Version 1++aq g 1++aq f.Person 1++aq f.Kind 1) (Nat.zero_add _).symm (by simp [ay])
   rw [List.nil_append] at this ⊢
   exact this
  show (bif f.Withdrawn then _ else _) = _
  rw [key,key]
  simp only [if_true]
  unfold dH oZ kQ
  cases f.Withdrawn <;> rfl
theorem og {a b:List Int} (ha:aA a) (hb:aA b):lP (bg a) (bg b) = decide (a = b):=by
 have e:∀ l:List Int,(bg l).toList = l.map fun x=>UInt8.ofNat x.toNat:=fun l=>by rw [ByteArray.toList_eq];rfl
 have inj:∀ {a b:List Int},aA a→aA b→(a.map fun x=>UInt8.ofNat x.toNat) = (b.map fun x=>UInt8.ofNat x.toNat)→a = b:=by
  intro a
  induction a with
  | nil=>intro b _ _ h;cases b with
   | nil=>rfl
   | cons y b=>simp at h
  | cons x a ih =>
   intro b ha hb h
   cases b with
   | nil=>simp at h
   | cons y b =>
    rw [List.map_cons,List.map_cons] at h
    obtain ⟨h1,h2⟩:=List.cons.inj h
    obtain ⟨hx,ha⟩:=cY.1 ha
    obtain ⟨hy,hb⟩:=cY.1 hb
    have h3:=congrArg UInt8.toNat h1
    have g:∀ z:Int,0≤z∧z < 256→(UInt8.ofNat z.toNat).toNat = z.toNat:=fun z hz=>by
     have:z.toNat < 256:=by omega
     simp [Nat.mod_eq_of_lt this]
    rw [g x hx,g y hy] at h3
    rw [ih ha hb h2,show x = y by omega]
 show ((bg a).toList == (bg b).toList) = _
 rw [e,e]
 by_cases h:a = b
 ·subst h;simp
 ·rw [decide_eq_false h]
  exact beq_false_of_ne fun hh=>h (inj ha hb hh)
def HY (b:List Int) (o:Option (GFact × List Int)):GFact × Int × Bool:=match o with
 | none=>iI
 | some (f,r)=>if bH f = true∧dH f = b.take (b.length - r.length) then (f,(b.length:Int) - (r.length:Int),true) else iI
theorem Kf (b:List Int) (hb:aA b) (u:List Nat) (t2 f:GFact) (a:Nat) (ha:a≤b.length):co b (a:Int) (aE u) (u.length:Int) t2 f = some (HY b (some (f,b.drop a))):=by
 rw [n7,show ((aE u).size:Int) = (u.length:Int) by rw [fa],dq,cond_false,qG,Option.bind_some,Bool.or_true,aF,jv (by rw [cu,Bool.or_true]),jv (by rw [bf (by omega),Bool.or_true]),uq b (by omega),Int.toNat_natCast]
 show _ = some (if bH f = true∧dH f = b.take (b.length - (b.drop a).length) then (f,(b.length:Int) - ((b.drop a).length:Int),true) else iI)
 rw [List.length_drop,show b.length - (b.length - a) = a by omega,show (b.length:Int) - ((b.length - a:Nat):Int) = (a:Int) by omega]
 cases hv:bH f with
 | false=>rfl
 | true =>
  have hl:=(uo f).1
  rw [if_pos rfl,gz.2 (by omega:((dH f).length:Int)≠0),cond_false,og (CY f) (hb.take a)]
  by_cases he:dH f = b.take a
  ·rw [decide_eq_true he,if_pos ⟨rfl,he⟩];rfl
  ·rw [decide_eq_false he,if_neg (fun h=>he h.2)];rfl
theorem HL (b:List Int) (hb:aA b) (u:List Nat) (hu:∀ c∈u,c < 256) (hn:u.length≤50) (i:Nat) (hi:i < u.length) (hl:it u[i] = true) (t2 f:GFact) (a:Nat) (ha:a≤b.length) (hB:b.length≤1000000000000) :
  co b (a:Int) (aE u) (i:Int) t2 f = if a+dT u[i]≤b.length then co b ((a+dT u[i]:Nat):Int) (aE u) ((i+1:Nat):Int) t2 (lV u[i] f ((b.drop a).take (dT u[i]))) else some iI:=by
 have hsz:((aE u).size:Int) = (u.length:Int):=by rw [fa]
 have k83:=dZ u[i] 83;have k80:=dZ u[i] 80;have k84:=dZ u[i] 84;have k72:=dZ u[i] 72;have k67:=dZ u[i] 67;have k65:=dZ u[i] 65;have k82:=dZ u[i] 82
 simp only [Int.cast_ofNat_Int] at k83 k80 k84 k72 k67 k65 k82
 have hby:=GL u hu i hi
 have e1:co b (a:Int) (aE u) (i:Int) t2 f = dD b (a:Int) (aE u) (i:Int) (dT u[i]:Int) t2 f:=by
  rw [n7,hsz,eD hi,cu,cond_true,aF,aF,hby]
  unfold ak
  rw [k80,k67,k65]
  unfold dT
  by_cases h1:u[i] = 80
  ·simp [h1]
  by_cases h2:u[i] = 67
  ·simp [h2]
  by_cases h3:u[i] = 65
  ·simp [h3]
  ·simp [h1,h2,h3]
 have hz:=Ac u[i]
 have e2:ae ((a:Int)+(dT u[i]:Int)) = ((a+dT u[i]:Nat):Int):=by rw [aD (by omega) (by omega)];omega
 rw [e1,tu,e2]
 by_cases hle:a+dT u[i]≤b.length
 ·rw [bJ (by omega),cond_false,if_pos hle,ac (by omega),ac (by omega),ac (by omega),ac (by omega),ac (by rw [hsz];omega),hby]
  have e3:aj b ((a:Int)).toNat (((a+dT u[i]:Nat):Int) - (a:Int)).toNat = (b.drop a).take (dT u[i]):=by
   unfold aj
   rw [Int.toNat_natCast];congr 1;omega
  rw [e3]
  have hx:aA ((b.drop a).take (dT u[i])):=(hb.drop a).take _
  have hxl:((b.drop a).take (dT u[i])).length = dT u[i]:=by rw [List.length_take,List.length_drop];omega
  have hnum:bZ ((b.drop a).take (dT u[i])) = some (ax ((b.drop a).take (dT u[i]))):=iv hx (by omega)
  have hp:∀ f',bB b (a:Int) (aE u) (i:Int) (dT u[i]:Int) t2 f' = co b ((a+dT u[i]:Nat):Int) (aE u) ((i+1:Nat):Int) t2 f':=fun f'=>by
   rw [rW,e2,di hi (by omega)]
  generalize hX:(b.drop a).take (dT u[i]) = X at *
  rw [hnum]
  simp only [Option.bind_some,hp]
  unfold ak
  rw [k83,k80,k84,k72,k67,k65,k82]
  by_cases h80:u[i] = 80
  ·have h6:X.length = 6:=by rw [hxl,h80];rfl
   have s1:aj X 0 3 = X.take 3:=rfl
   have s2:aj X 3 ((X.length:Int) - 3).toNat = X.drop 3:=by
    unfold aj;rw [List.take_of_length_le];rw [List.length_drop];omega
   rw [s1,s2,iv (hx.take 3) (by rw [List.length_take];omega),Option.bind_some,ac (by omega),ac (by omega),ac (by omega),iv (hx.drop 3) (by rw [List.length_drop];omega),Option.bind_some]
   have d83:decide (u[i] = 83) = false:=decide_eq_false (by omega)
   rw [d83,decide_eq_true h80,cond_false,cond_true]
   simp only [lV,h80]
   rfl
  ·rw [decide_eq_false h80]
   revert hl h80
   generalize u[i] = c
   intro hl h80
   obtain rfl | rfl | rfl | rfl | rfl | rfl | rfl:=e7 hl <;> first | rfl | (exact absurd rfl h80)
 ·rw [bf (by omega),cond_true,if_neg hle];rfl
theorem zZ (b:List Int) (hb:aA b) (hB:b.length≤1000000000000) (u:List Nat) (hu:∀ c∈u,c < 256) (hn:u.length≤50) (hl:∀ c∈u,it c = true) (t2:GFact):∀ (n i a:Nat) (f:GFact),u.length = i+n→a≤b.length→co b (a:Int) (aE u) (i:Int) t2 f = some (HY b (kj (u.drop i) f (b.drop a)))
 | 0,i,a,f,hi,ha=>by
  have:i = u.length:=by omega
  subst this
  rw [Kf b hb u t2 f a ha,List.drop_length];rfl
 | n+1,i,a,f,hi,ha=>by
  have hlt:i < u.length:=by omega
  rw [HL b hb u hu hn i hlt (hl _ (List.getElem_mem hlt)) t2 f a ha hB,List.drop_eq_getElem_cons hlt,kj,List.length_drop]
  by_cases hle:a+dT u[i]≤b.length
  ·rw [if_pos hle,if_pos (by omega),zZ b hb hB u hu hn hl t2 n (i+1) (a+dT u[i]) _ (by omega) hle,List.drop_drop]
  ·rw [if_neg hle,if_neg (by omega)];rfl
theorem y6 {b:List Int} (hb:aA b) (hB:b.length≤1000000000000):oQ b = some (if 7≤b.length then HY b (kj (bp (gD b 6 0)) (Cf b) (b.drop 7)) else iI):=by
 have g:∀ i,ae (gD b i 0) = gD b i 0:=fun i=>by have:=hb.gD i;exact aD (by omega) (by omega)
 rw [Do]
 by_cases h7:7≤b.length
 ·rw [bJ (by omega),cond_false,if_pos h7,ac (by omega),ac (by omega),iv (hb.sub 1 2) (by unfold aj;rw [List.length_take];omega),Option.bind_some,ac (by omega),ac (by omega),ac (by omega),ac (by omega),g,g,g,g,gO,Option.bind_some]
  exact zZ b hb hB _ (kK _) (by have:=jG (gD b 6 0);omega) (lD _) _ _ 0 7 (Cf b) (Nat.zero_add _).symm h7
 ·rw [bf (by omega),cond_true,if_neg h7];rfl
theorem Nr {b:List Int} (hb:aA b) (h7:7≤b.length):b.take 7 = [gD b 0 0,gD b 1 0,gD b 2 0,gD b 3 0,gD b 4 0,gD b 5 0,gD b 6 0]:=by
 match b,h7 with
 | a0 :: a1 :: a2 :: a3 :: a4 :: a5 :: a6 :: r,_=>rfl
theorem E5 {b:List Int} (hb:aA b) (h7:7≤b.length):HY b (kj (bp (gD b 6 0)) (Cf b) (b.drop 7)) = KG b (gD b 4 0) (kj (bp (gD b 6 0)) (Cf b) (b.drop 7)):=by
 cases hr:kj (bp (gD b 6 0)) (Cf b) (b.drop 7) with
 | none=>rfl
 | some p =>
  obtain ⟨f,r⟩:=p
  obtain ⟨h1,_,h3,h4,h5,h6,h8,h9⟩:=tS _ _ _ f r (lD _) (xJ _) (hb.drop 7) hr
  show (if bH f = true∧dH f = b.take (b.length - r.length) then _ else iI) = (if 1 < gD b 4 0 then iI else if bH f = true then _ else iI)
  have hlen:b.length - r.length = 7+((bp (gD b 6 0)).flatMap (gr f)).length:=by
   have:=congrArg List.length h1
   rw [List.length_append,List.length_drop] at this
   omega
  have e1:b.take (b.length - r.length) = b.take 7++(bp (gD b 6 0)).flatMap (gr f):=by
   rw [hlen,List.take_add, ← h1,List.take_left']
   rfl
  have b4:=hb.gD 4
  have kind:f.Kind = gD b 6 0:=h9
  have hh:dH f = b.take (b.length - r.length)↔oZ f = b.take 7:=by
   rw [e1]
   unfold dH
   rw [kind]
   constructor
   ·exact fun h=>(List.append_inj h (by rw [CP,List.length_take];omega)).1
   ·exact fun h=>by rw [h]
  have n2:aq (ax (aj b 1 2)) 2 = [gD b 1 0,gD b 2 0]:=by
   have e:aj b 1 2 = [gD b 1 0,gD b 2 0]:=by
    match b,h7 with
    | a0 :: a1 :: a2 :: a3 :: a4 :: a5 :: a6 :: r,_=>rfl
   rw [e]
   exact jr (b:=[gD b 1 0,gD b 2 0]) (cY.2 ⟨hb.gD 1,cY.2 ⟨hb.gD 2,mL⟩⟩)
  have o:∀ i,aq (gD b i 0) 1 = [gD b i 0]:=fun i=>Hp (hb.gD i).1 (hb.gD i).2
  have wd:f.Withdrawn = ak (gD b 4 0) 1:=h6
  have hg:oZ f = [gD b 0 0,gD b 1 0,gD b 2 0,gD b 3 0,kQ f,gD b 5 0,gD b 6 0]:=by
   unfold oZ
   rw [show f.Issuer = gD b 0 0 from h3,show f.Number = ax (aj b 1 2) from h4,show f.Version = gD b 3 0 from h5,show f.Person = gD b 5 0 from h8,kind,n2,o,o,o,o,show aq (kQ f) 1 = [kQ f] from Hp (by unfold kQ;split <;> omega) (by unfold kQ;split <;> omega)]
   rfl
  have key:([gD b 0 0,gD b 1 0,gD b 2 0,gD b 3 0,kQ f,gD b 5 0,gD b 6 0] = [gD b 0 0,gD b 1 0,gD b 2 0,gD b 3 0,gD b 4 0,gD b 5 0,gD b 6 0])↔¬ 1 < gD b 4 0:=by
   constructor
   ·intro h
    have h0:kQ f = gD b 4 0:=by
     have:=congrArg (fun l=>l.getD 4 0) h
     exact this
    rw [← h0];unfold kQ;split <;> omega
   ·intro h
    have h0:kQ f = gD b 4 0:=by
     unfold kQ
     rw [wd]
     by_cases h1:gD b 4 0 = 1
     ·rw [aZ.2 h1,if_pos rfl,h1]
     ·rw [gz.2 h1,if_neg (by simp)];omega
    rw [h0]
  have hk:dH f = b.take (b.length - r.length)↔¬ 1 < gD b 4 0:=by rw [hh,hg,Nr hb h7];exact key
  by_cases hw:1 < gD b 4 0
  ·rw [if_pos hw,if_neg (fun h=>hk.1 h.2 hw)]
  ·rw [if_neg hw]
   by_cases hv:bH f = true
   ·rw [if_pos hv,if_pos ⟨hv,hk.2 hw⟩]
   ·rw [if_neg hv,if_neg (fun h=>hv h.1)]
theorem A0 {b:List Int} (hb:aA b) (hB:b.length≤1000000000000):oQ b = some (uB b):=by
 rw [y6 hb hB]
 unfold uB
 by_cases h7:7≤b.length
 ·rw [if_pos h7,if_pos h7,E5 hb h7]
 ·rw [if_neg h7,if_neg h7]
theorem Ls {b:List Int} (hb:aA b) {f:GFact} {n:Int} (h:uB b = (f,n,true)):bH f = true∧0≤n∧n≤(b.length:Int)∧dH f = b.take n.toNat:=by
 unfold uB at h
 split at h
 ·next h7 =>
  rw [← E5 hb h7] at h
  revert h
  cases hr:kj (bp (gD b 6 0)) (Cf b) (b.drop 7) with
  | none=>intro h;cases h
  | some p =>
   obtain ⟨f',r⟩:=p
   intro h
   obtain ⟨h1,_⟩:=tS _ _ _ f' r (lD _) (xJ _) (hb.drop 7) hr
   have hl:r.length≤b.length:=by
    have:=congrArg List.length h1
    rw [List.length_append,List.length_drop] at this
    omega
   have h:(if bH f' = true∧dH f' = b.take (b.length - r.length) then (f',(b.length:Int) - (r.length:Int),true) else iI) = (f,n,true):=h
   split at h
   ·next hv =>
    cases h
    refine ⟨hv.1,by omega,by omega, ?_⟩
    rw [hv.2];congr 1;omega
   ·cases h
 ·cases h
end Go.Ax
