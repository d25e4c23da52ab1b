import Derived.Test.YtbjfcadcipfolaaGreatZP50
import Derived.Laws.RangeString
set_option linter.all false
/- Both texts read the same facts out of bytes. -/
set_option maxRecDepth 100000
namespace Go.Ax
theorem Nb (l:List Nat) (hl:∀ c∈l,c < 128) (i:Nat) (hi:i < l.length):jf (aI l) i = (l[i]:Int)∧ov (aI l) i = i+1:=by
 have hsz:i < (aI l).size:=by rw [gB];exact hi
 have hg:(aI l)[i]'hsz = UInt8.ofNat l[i]:=by
  show (aI l).data[i]'hsz = _
  simp [aI]
 have hc:=hl _ (List.getElem_mem hi)
 have hn:((aI l)[i]'hsz).toNat = l[i]:=by rw [hg];simp [Nat.mod_eq_of_lt (show l[i] < 256 by omega)]
 have:=Go.decode_ascii (aI l) i hsz (by rw [hn];exact hc)
 unfold ov jf AR
 have hlt:Nat.blt i (aI l).size = true:=by simpa using hsz
 rw [this,hn,hlt]
 exact ⟨rfl,rfl⟩
theorem BK (k:Int):∀ c∈bG k,c < 128:=by
 by_cases h:1≤k∧k≤14
 ·obtain rfl | rfl | rfl | rfl | rfl | rfl | rfl | rfl | rfl | rfl | rfl | rfl | rfl | rfl:=kinds h.1 h.2 <;> decide
 ·rw [k6 h];simp
theorem BF (k:Int):(bG k).Nodup:=by
 by_cases h:1≤k∧k≤14
 ·obtain rfl | rfl | rfl | rfl | rfl | rfl | rfl | rfl | rfl | rfl | rfl | rfl | rfl | rfl:=kinds h.1 h.2 <;> decide
 ·rw [k6 h];decide
def jC (c:Nat):Bool:=c == 83||c == 80||c == 84||c == 72||c == 67||c == 65||c == 82
theorem nO (k:Int):∀ c∈bG k,jC c = true:=by
 by_cases h:1≤k∧k≤14
 ·obtain rfl | rfl | rfl | rfl | rfl | rfl | rfl | rfl | rfl | rfl | rfl | rfl | rfl | rfl:=kinds h.1 h.2 <;> decide
 ·rw [k6 h];simp
theorem gz {c:Nat} (h:jC c = true):c = 83∨c = 80∨c = 84∨c = 72∨c = 67∨c = 65∨c = 82:=by
 unfold jC at h
 simp only [Bool.or_eq_true,beq_iff_eq] at h
 omega
def eY (c:Nat):Nat:=if c = 80 then 6 else if c = 67 then 2 else if c = 65 then 4 else 1
theorem D3 (c:Nat):1≤eY c∧eY c≤6:=by
 unfold eY
 repeat' split
 all_goals omega
def oh (c:Nat) (f:GFact) (x:List Int):GFact :=
 if c = 83 then ⟨f.Issuer,f.Number,f.Version,f.Withdrawn,f.Person,f.Kind,aC x,f.Span,f.Seat,f.Share,f.Currency,f.Amount,f.Ref⟩ else
 if c = 80 then ⟨f.Issuer,f.Number,f.Version,f.Withdrawn,f.Person,f.Kind,f.State,⟨aC (x.take 3),aC (x.drop 3)⟩,f.Seat,f.Share,f.Currency,f.Amount,f.Ref⟩ else
 if c = 84 then ⟨f.Issuer,f.Number,f.Version,f.Withdrawn,f.Person,f.Kind,f.State,f.Span,aC x,f.Share,f.Currency,f.Amount,f.Ref⟩ else
 if c = 72 then ⟨f.Issuer,f.Number,f.Version,f.Withdrawn,f.Person,f.Kind,f.State,f.Span,f.Seat,aC x,f.Currency,f.Amount,f.Ref⟩ else
 if c = 67 then ⟨f.Issuer,f.Number,f.Version,f.Withdrawn,f.Person,f.Kind,f.State,f.Span,f.Seat,f.Share,aC x,f.Amount,f.Ref⟩ else
 if c = 65 then ⟨f.Issuer,f.Number,f.Version,f.Withdrawn,f.Person,f.Kind,f.State,f.Span,f.Seat,f.Share,f.Currency,aC x,f.Ref⟩ else
 if c = 82 then ⟨f.Issuer,f.Number,f.Version,f.Withdrawn,f.Person,f.Kind,f.State,f.Span,f.Seat,f.Share,f.Currency,f.Amount,aC x⟩ else f
def iN (f:GFact) (c:Nat):List Int :=
 if c = 83 then au f.State 1 else if c = 80 then au f.Span.From 3++au f.Span.To 3 else if c = 84 then au f.Seat 1 else if c = 72 then au f.Share 1 else
 if c = 67 then au f.Currency 2 else if c = 65 then au f.Amount 4 else if c = 82 then au f.Ref 1 else []
theorem QQ (f:GFact) (c:Nat):aB (iN f c):=by
 unfold iN
 repeat' split
 all_goals first | exact be _ _ | exact bF.2 ⟨be _ _,be _ _⟩ | exact pY
theorem Pt {f:GFact} {c:Nat} (h:jC c = true):(iN f c).length = eY c:=by
 obtain rfl | rfl | rfl | rfl | rfl | rfl | rfl:=gz h <;> simp [iN,eY,aA]
theorem QP {f:GFact} {c:Nat} {x:List Int} (h:jC c = true) (hx:aB x) (hl:x.length = eY c):iN (oh c f x) c = x:=by
 have one:∀ n,x.length = n→au (aC x) n = x:=fun n e=>by subst e;exact iQ hx
 obtain rfl | rfl | rfl | rfl | rfl | rfl | rfl:=gz h
 ·exact one 1 hl
 ·show au (aC (x.take 3)) 3++au (aC (x.drop 3)) 3 = x
  have hl:x.length = 6:=hl
  have e1:au (aC (x.take 3)) (x.take 3).length = x.take 3:=iQ (hx.take 3)
  have e2:au (aC (x.drop 3)) (x.drop 3).length = x.drop 3:=iQ (hx.drop 3)
  rw [List.length_take,hl] at e1
  rw [List.length_drop,hl] at e2
  rw [show min 3 6 = 3 from rfl] at e1
  rw [show 6 - 3 = 3 from rfl] at e2
  rw [e1,e2,List.take_append_drop]
 ·exact one 1 hl
 ·exact one 1 hl
 ·exact one 2 hl
 ·exact one 4 hl
 ·exact one 1 hl
theorem NM {f:GFact} {c d:Nat} {x:List Int} (hc:jC c = true) (hne:c≠d):iN (oh c f x) d = iN f d:=by
 obtain rfl | rfl | rfl | rfl | rfl | rfl | rfl:=gz hc <;> (unfold iN;simp only [oh];simp (config:={ decide:=true }) only [if_true,if_false]) <;> (repeat' split) <;> first | rfl | (exfalso;omega)
theorem Pb {f:GFact} {c:Nat} {x:List Int} (hc:jC c = true):(oh c f x).Issuer = f.Issuer∧(oh c f x).Number = f.Number∧(oh c f x).Version = f.Version∧(oh c f x).Withdrawn = f.Withdrawn∧(oh c f x).Person = f.Person∧(oh c f x).Kind = f.Kind:=by
 obtain rfl | rfl | rfl | rfl | rfl | rfl | rfl:=gz hc <;> exact ⟨rfl,rfl,rfl,rfl,rfl,rfl⟩
def lV:List Nat→GFact→List Int→Option (GFact × List Int)
 | [],f,b=>some (f,b)
 | c :: u,f,b=>if eY c≤b.length then lV u (oh c f (b.take (eY c))) (b.drop (eY c)) else none
theorem yl:∀ (u:List Nat) (f:GFact) (b:List Int) (f':GFact) (r:List Int),(∀ c∈u,jC c = true)→u.Nodup→aB b→lV u f b = some (f',r) →
  u.flatMap (iN f')++r = b∧(∀ d,d ∉ u→iN f' d = iN f d)∧(f'.Issuer = f.Issuer∧f'.Number = f.Number∧f'.Version = f.Version∧f'.Withdrawn = f.Withdrawn∧f'.Person = f.Person∧f'.Kind = f.Kind)
 | [],f,b,f',r,_,_,_,h=>by
  cases h
  exact ⟨rfl,fun _ _=>rfl,rfl,rfl,rfl,rfl,rfl,rfl⟩
 | c :: u,f,b,f',r,hl,hn,hb,h=>by
  rw [lV] at h
  split at h
  ·next hle =>
   have hc:=hl c (by simp)
   obtain ⟨hn1,hn2⟩:=List.nodup_cons.1 hn
   obtain ⟨h1,h2,h3⟩:=yl u _ _ f' r (fun d hd=>hl d (by simp [hd])) hn2 (hb.drop _) h
   obtain ⟨g1,g2,g3,g4,g5,g6⟩:=Pb (f:=f) (x:=b.take (eY c)) hc
   refine ⟨?_,fun d hd=>?_, ?_⟩
   ·rw [List.flatMap_cons,List.append_assoc,h1,h2 c hn1,QP hc (hb.take _) (by rw [List.length_take];omega),List.take_append_drop]
   ·rw [h2 d (fun hx=>hd (by simp [hx])),NM hc (fun e=>hd (by simp [e]))]
   ·rw [g1,g2,g3,g4,g5,g6] at h3;exact h3
  ·cases h
theorem e9 (a b:Nat):((a:Int) == (b:Int)) = decide (a = b):=by
 by_cases h:a = b
 ·simp [h]
 ·rw [decide_eq_false h]
  have:¬ ((a:Int) = (b:Int)):=by omega
  simpa using this
def M3:GFact:=⟨0,0,0,false,0,0,0,⟨0,0⟩,0,0,0,0,0⟩
def ka:GFact × Int × Bool:=(M3,0,false)
theorem lP {n:Nat} {b:List Int} (h:aB b) (hn:n≤7) (hB:b.length≤1000000000000):∃ y b',an (n:Int) ⟨b,true⟩ = some (y,⟨b',true⟩)∧aB b'∧b'.length≤b.length:=by
 rw [pO h hn hB]
 split
 ·exact ⟨_,_,rfl,h.drop _,by rw [List.length_drop];omega⟩
 ·exact ⟨_,_,rfl,h,Nat.le_refl _⟩
theorem JH (b:List Int) (w:Int) (f:GFact) (r:GFact_reader) (u:List Nat):aK b w f r (aI u) (u.length:Int) = (bif r.short then some ka else bif aa (1 < w) then some ka else bif (!cq f) then some ka else some (f,(ac ((b.length:Int) - (r.b.length:Int))),true)):=by
 have hlt:Nat.blt u.length (aI u).size = false:=by
  rw [gB]
  cases hc:Nat.blt u.length u.length with
  | false=>rfl
  | true=>rw [Nat.blt_eq] at hc;omega
 rw [qU,Int.toNat_natCast,hlt,cond_false,E8]
 rfl
theorem Gn (b:List Int) (w:Int) (f:GFact) (r:GFact_reader) (u:List Nat) (hu:∀ c∈u,c < 128) (i:Nat) (hi:i < u.length) (hl:jC u[i] = true) :
  aK b w f r (aI u) (i:Int) = if u[i] = 80 then (an 3 r).bind fun r1=>(an 3 r1.2).bind fun r2=>aK b w (⟨f.Issuer,f.Number,f.Version,f.Withdrawn,f.Person,f.Kind,f.State,(⟨r1.1,r2.1⟩:GSpan),f.Seat,f.Share,f.Currency,f.Amount,f.Ref⟩:GFact) r2.2 (aI u) ((i+1:Nat):Int)
   else (an (eY u[i]:Int) r).bind fun r1=>aK b w (if u[i] = 83 then ⟨f.Issuer,f.Number,f.Version,f.Withdrawn,f.Person,f.Kind,r1.1,f.Span,f.Seat,f.Share,f.Currency,f.Amount,f.Ref⟩ else
    if u[i] = 84 then ⟨f.Issuer,f.Number,f.Version,f.Withdrawn,f.Person,f.Kind,f.State,f.Span,r1.1,f.Share,f.Currency,f.Amount,f.Ref⟩ else if u[i] = 72 then ⟨f.Issuer,f.Number,f.Version,f.Withdrawn,f.Person,f.Kind,f.State,f.Span,f.Seat,r1.1,f.Currency,f.Amount,f.Ref⟩ else
    if u[i] = 67 then ⟨f.Issuer,f.Number,f.Version,f.Withdrawn,f.Person,f.Kind,f.State,f.Span,f.Seat,f.Share,r1.1,f.Amount,f.Ref⟩ else if u[i] = 65 then ⟨f.Issuer,f.Number,f.Version,f.Withdrawn,f.Person,f.Kind,f.State,f.Span,f.Seat,f.Share,f.Currency,r1.1,f.Ref⟩ else
    ⟨f.Issuer,f.Number,f.Version,f.Withdrawn,f.Person,f.Kind,f.State,f.Span,f.Seat,f.Share,f.Currency,f.Amount,r1.1⟩) r1.2 (aI u) ((i+1:Nat):Int):=by
 obtain ⟨r1,r2⟩:=Nb u hu i hi
 have hlt:Nat.blt i (aI u).size = true:=by rw [gB];simpa using hi
 rw [qU,Int.toNat_natCast,hlt,cond_true,ab rfl,r1,r2]
 have k83:=e9 u[i] 83;have k80:=e9 u[i] 80;have k84:=e9 u[i] 84;have k72:=e9 u[i] 72;have k67:=e9 u[i] 67;have k65:=e9 u[i] 65;have k82:=e9 u[i] 82
 simp only [Int.cast_ofNat_Int] at k83 k80 k84 k72 k67 k65 k82
 unfold am
 rw [k83,k80,k84,k72,k67,k65,k82]
 revert hl
 generalize u[i] = c
 intro hl
 obtain rfl | rfl | rfl | rfl | rfl | rfl | rfl:=gz hl <;> rfl
theorem no (b:List Int) (w:Int) (u:List Nat) (hu:∀ c∈u,c < 128) (hl:∀ c∈u,jC c = true):∀ (n i:Nat) (f:GFact) (r:List Int),u.length = i+n→aB r→r.length≤1000000000000→aK b w f ⟨r,true⟩ (aI u) (i:Int) = some ka
 | 0,i,f,r,hi,_,_=>by
  have:i = u.length:=by omega
  subst this
  rw [JH];rfl
 | n+1,i,f,r,hi,hr,hB=>by
  have hlt:i < u.length:=by omega
  rw [Gn b w f _ u hu i hlt (hl _ (List.getElem_mem hlt))]
  split
  ·obtain ⟨y1,b1,e1,h1,h1'⟩:=lP (n:=3) hr (by omega) hB
   obtain ⟨y2,b2,e2,h2,h2'⟩:=lP (n:=3) h1 (by omega) (by omega)
   have e1:an 3 ⟨r,true⟩ = some (y1,⟨b1,true⟩):=e1
   have e2:an 3 ⟨b1,true⟩ = some (y2,⟨b2,true⟩):=e2
   rw [e1,Option.bind_some,e2,Option.bind_some]
   exact no b w u hu hl n (i+1) _ b2 (by omega) h2 (by omega)
  ·obtain ⟨y1,b1,e1,h1,h1'⟩:=lP (n:=eY u[i]) hr (by have:=D3 u[i];omega) hB
   rw [e1,Option.bind_some]
   exact no b w u hu hl n (i+1) _ b1 (by omega) h1 (by omega)
def PH (b:List Int) (w:Int) (o:Option (GFact × List Int)):GFact × Int × Bool:=match o with
 | none=>ka
 | some (f,r)=>if 1 < w then ka else if cq f = true then (f,(b.length:Int) - (r.length:Int),true) else ka
theorem An (b:List Int) (w:Int) (hbB:b.length≤1000000000000) (u:List Nat) (hu:∀ c∈u,c < 128) (hl:∀ c∈u,jC c = true):∀ (n i:Nat) (f:GFact) (r:List Int),u.length = i+n→aB r→r.length≤b.length→aK b w f ⟨r,false⟩ (aI u) (i:Int) = some (PH b w (lV (u.drop i) f r))
 | 0,i,f,r,hi,_,hB=>by
  have:i = u.length:=by omega
  subst this
  rw [JH,List.drop_length]
  show (bif false then _ else _) = some (if 1 < w then ka else if cq f = true then _ else ka)
  rw [cond_false]
  by_cases hw:1 < w
  ·rw [aV hw,cond_true,if_pos hw]
  ·rw [bp hw,cond_false,if_neg hw]
   cases hv:cq f with
   | false=>rfl
   | true =>
    show some (f,ac ((b.length:Int) - (r.length:Int)),true) = _
    rw [ay (by omega) (by omega)]
    rfl
 | n+1,i,f,r,hi,hr,hB=>by
  have hlt:i < u.length:=by omega
  have hc:=hl _ (List.getElem_mem hlt)
  rw [Gn b w f _ u hu i hlt hc,List.drop_eq_getElem_cons hlt,lV]
  split
  ·next h80 =>
   have e1:=pO (n:=3) (s:=false) hr (by omega) (by omega)
   have e1:an 3 ⟨r,false⟩ = some (if 3≤r.length then (aC (r.take 3),⟨r.drop 3,false⟩) else (0,⟨r,true⟩)):=e1
   rw [e1,Option.bind_some,h80,show eY 80 = 6 from rfl]
   by_cases h3:3≤r.length
   ·rw [if_pos h3]
    have e2:=pO (n:=3) (s:=false) (hr.drop 3) (by omega) (by rw [List.length_drop];omega)
    have e2:an 3 ⟨r.drop 3,false⟩ = some (if 3≤(r.drop 3).length then (aC ((r.drop 3).take 3),⟨(r.drop 3).drop 3,false⟩) else (0,⟨r.drop 3,true⟩)):=e2
    rw [e2,Option.bind_some,List.length_drop]
    by_cases h6:6≤r.length
    ·rw [if_pos (by omega),if_pos h6]
     have:=An b w hbB u hu hl n (i+1) (oh 80 f (r.take 6)) (r.drop 6) (by omega) (hr.drop 6) (by rw [List.length_drop];omega)
     rw [← this,List.drop_drop]
     congr 1
     show (⟨f.Issuer,f.Number,f.Version,f.Withdrawn,f.Person,f.Kind,f.State,⟨aC (r.take 3),aC ((r.drop 3).take 3)⟩,f.Seat,f.Share,f.Currency,f.Amount,f.Ref⟩:GFact) = ⟨f.Issuer,f.Number,f.Version,f.Withdrawn,f.Person,f.Kind,f.State,⟨aC ((r.take 6).take 3),aC ((r.take 6).drop 3)⟩,f.Seat,f.Share,f.Currency,f.Amount,f.Ref⟩
     rw [List.take_take,List.drop_take]
     rfl
    ·rw [if_neg (by omega),if_neg h6]
     exact no b w u hu hl n (i+1) _ _ (by omega) (hr.drop 3) (by rw [List.length_drop];omega)
   ·rw [if_neg h3,if_neg (by omega:¬ 6≤r.length)]
    obtain ⟨y2,b2,e2,h2,h2'⟩:=lP (n:=3) hr (by omega) (by omega)
    have e2:an 3 ⟨r,true⟩ = some (y2,⟨b2,true⟩):=e2
    show ((an 3 ⟨r,true⟩).bind _) = _
    rw [e2,Option.bind_some]
    exact no b w u hu hl n (i+1) _ b2 (by omega) h2 (by omega)
  ·next h80 =>
   rw [pO hr (by have:=D3 u[i];omega) (by omega),Option.bind_some]
   by_cases hle:eY u[i]≤r.length
   ·rw [if_pos hle,if_pos hle]
    have:=An b w hbB u hu hl n (i+1) (oh u[i] f (r.take (eY u[i]))) (r.drop (eY u[i])) (by omega) (hr.drop _) (by rw [List.length_drop];omega)
    rw [← this]
    congr 1
    revert hc h80
    generalize u[i] = c
    intro hc h80
    obtain rfl | rfl | rfl | rfl | rfl | rfl | rfl:=gz hc <;> first | rfl | (exact absurd rfl h80)
   ·rw [if_neg hle,if_neg hle]
    exact no b w u hu hl n (i+1) _ _ (by omega) hr (by omega)
end Go.Ax
set_option linter.all false
/- fact.Read is the reference's Read. -/
set_option maxRecDepth 100000
namespace Go.Ax
def GW (b:List Int):GFact:=⟨gD b 0 0,aC (ak b 1 2),gD b 3 0,am (gD b 4 0) 1,gD b 5 0,gD b 6 0,0,⟨0,0⟩,0,0,0,0,0⟩
def yB (b:List Int):GFact × Int × Bool:=if 7≤b.length then PH b (gD b 4 0) (lV (bG (gD b 6 0)) (GW b) (b.drop 7)) else ka
theorem LL (b:List Int) (w:Int) (f:GFact) (r:List Int) (k:Int) (hr:aB r) (hB:r.length≤1000000000000):((gx k).bind fun r6=>aK b w f ⟨r,true⟩ r6 0) = some ka:=by
 rw [ro,Option.bind_some]
 exact no b w (bG k) (BK k) (nO k) _ 0 f r (Nat.zero_add _).symm hr hB
theorem sA {b:List Int} {s:Bool} (h:aB b) (hB:b.length≤1000000000000):an 1 ⟨b,s⟩ = some (if 1≤b.length then (aC (b.take 1),⟨b.drop 1,s⟩) else (0,⟨b,true⟩)):=pO (n:=1) h (by omega) hB
theorem Qk {b:List Int} {s:Bool} (h:aB b) (hB:b.length≤1000000000000):an 2 ⟨b,s⟩ = some (if 2≤b.length then (aC (b.take 2),⟨b.drop 2,s⟩) else (0,⟨b,true⟩)):=pO (n:=2) h (by omega) hB
theorem EZ {b:List Int} (i:Nat) (h:i < b.length):aC ((b.drop i).take 1) = gD b i 0:=by
 rw [List.drop_eq_getElem_cons h,List.take_succ_cons,List.take_zero]
 show 0*256+b[i] = b.getD i 0
 rw [List.getD_eq_getElem?_getD,List.getElem?_eq_getElem h]
 simp
theorem Ei {b:List Int} (h:aB b) (hB:b.length≤1000000000000):∃ y b',an 1 ⟨b,true⟩ = some (y,⟨b',true⟩)∧aB b'∧b'.length≤1000000000000:=by
 obtain ⟨y,b',e,h1,h2⟩:=lP (n:=1) h (by omega) hB
 exact ⟨y,b',e,h1,by omega⟩
theorem RK {b:List Int} (h:aB b) (hB:b.length≤1000000000000):∃ y b',an 2 ⟨b,true⟩ = some (y,⟨b',true⟩)∧aB b'∧b'.length≤1000000000000:=by
 obtain ⟨y,b',e,h1,h2⟩:=lP (n:=2) h (by omega) hB
 exact ⟨y,b',e,h1,by omega⟩
theorem G6 {b:List Int} (h:aB b) (hB:b.length≤1000000000000):Aj b = some (yB b):=by
 rw [Im,sA h hB,Option.bind_some]
 by_cases h7:7≤b.length
 ·rw [if_pos (by omega)]
  have hd:∀ k,(b.drop k).length = b.length - k:=fun k=>List.length_drop
  rw [Qk (h.drop 1) (by rw [hd];omega),Option.bind_some,if_pos (by rw [hd];omega),List.drop_drop]
  rw [sA (h.drop (1+2)) (by rw [hd];omega),Option.bind_some,if_pos (by rw [hd];omega),List.drop_drop]
  rw [sA (h.drop (1+2+1)) (by rw [hd];omega),Option.bind_some,if_pos (by rw [hd];omega),List.drop_drop]
  rw [sA (h.drop (1+2+1+1)) (by rw [hd];omega),Option.bind_some,if_pos (by rw [hd];omega),List.drop_drop]
  rw [sA (h.drop (1+2+1+1+1)) (by rw [hd];omega),Option.bind_some,if_pos (by rw [hd];omega),List.drop_drop]
  have e0:aC (b.take 1) = gD b 0 0:=by have:=EZ (b:=b) 0 (by omega);rwa [List.drop_zero] at this
  show ((gx (aC ((b.drop 6).take 1))).bind fun r6=>aK b (aC ((b.drop 4).take 1)) ⟨aC (b.take 1),aC ((b.drop 1).take 2),aC ((b.drop 3).take 1),am (aC ((b.drop 4).take 1)) 1,aC ((b.drop 5).take 1),aC ((b.drop 6).take 1),0,⟨0,0⟩,0,0,0,0,0⟩ ⟨b.drop 7,false⟩ r6 0) = _
  rw [e0,EZ 3 (by omega),EZ 4 (by omega),EZ 5 (by omega),EZ 6 (by omega),ro,Option.bind_some]
  have:=An b (gD b 4 0) hB (bG (gD b 6 0)) (BK _) (nO _) _ 0 (GW b) (b.drop 7) (Nat.zero_add _).symm (h.drop 7) (by rw [hd];omega)
  unfold yB
  rw [if_pos h7]
  exact this
 ·
  have fin:yB b = ka:=by unfold yB;rw [if_neg h7]
  rw [fin]
  have k1:∀ (c:List Int) (p q:Int) (f:Int→Int→GFact),aB c→c.length≤1000000000000→((an 1 ⟨c,true⟩).bind fun r5=>(gx r5.1).bind fun r6=>aK b p (f q r5.1) r5.2 r6 0) = some ka:=by
   intro c p q f hc hl
   obtain ⟨y,b',e,h1,h2⟩:=Ei hc hl
   rw [e,Option.bind_some]
   exact LL b _ _ b' _ h1 h2
  have k2:∀ (c:List Int) (p:Int) (f:Int→Int→GFact),aB c→c.length≤1000000000000→((an 1 ⟨c,true⟩).bind fun r4=>(an 1 r4.2).bind fun r5=>(gx r5.1).bind fun r6=>aK b p (f r4.1 r5.1) r5.2 r6 0) = some ka:=by
   intro c p f hc hl
   obtain ⟨y,b',e,h1,h2⟩:=Ei hc hl
   rw [e,Option.bind_some]
   exact k1 b' p y f h1 h2
  have k3:∀ (c:List Int) (f:Int→Int→Int→GFact),aB c→c.length≤1000000000000→((an 1 ⟨c,true⟩).bind fun r3=>(an 1 r3.2).bind fun r4=>(an 1 r4.2).bind fun r5=>(gx r5.1).bind fun r6=>aK b r3.1 (f r3.1 r4.1 r5.1) r5.2 r6 0) = some ka:=by
   intro c f hc hl
   obtain ⟨y,b',e,h1,h2⟩:=Ei hc hl
   rw [e,Option.bind_some]
   exact k2 b' y (f y) h1 h2
  have k4:∀ (c:List Int) (f:Int→Int→Int→Int→GFact),aB c→c.length≤1000000000000→((an 1 ⟨c,true⟩).bind fun r2=>(an 1 r2.2).bind fun r3=>(an 1 r3.2).bind fun r4=>(an 1 r4.2).bind fun r5=>(gx r5.1).bind fun r6=>aK b r3.1 (f r2.1 r3.1 r4.1 r5.1) r5.2 r6 0) = some ka:=by
   intro c f hc hl
   obtain ⟨y,b',e,h1,h2⟩:=Ei hc hl
   rw [e,Option.bind_some]
   exact k3 b' (f y) h1 h2
  have hd:∀ k,(b.drop k).length = b.length - k:=fun k=>List.length_drop
  by_cases g1:1≤b.length
  ·rw [if_pos g1,Qk (h.drop 1) (by rw [hd];omega),Option.bind_some]
   by_cases g3:2≤(b.drop 1).length
   ·rw [if_pos g3,sA ((h.drop 1).drop 2) (by rw [List.drop_drop,hd];omega),Option.bind_some]
    by_cases g4:1≤((b.drop 1).drop 2).length
    ·rw [if_pos g4,sA (((h.drop 1).drop 2).drop 1) (by rw [List.drop_drop,List.drop_drop,hd];omega),Option.bind_some]
     by_cases g5:1≤(((b.drop 1).drop 2).drop 1).length
     ·rw [if_pos g5,sA ((((h.drop 1).drop 2).drop 1).drop 1) (by rw [List.drop_drop,List.drop_drop,List.drop_drop,hd];omega),Option.bind_some]
      by_cases g6:1≤((((b.drop 1).drop 2).drop 1).drop 1).length
      ·rw [if_pos g6,sA (((((h.drop 1).drop 2).drop 1).drop 1).drop 1) (by rw [List.drop_drop,List.drop_drop,List.drop_drop,List.drop_drop,hd];omega),Option.bind_some]
       rw [if_neg (by rw [List.drop_drop,List.drop_drop,List.drop_drop,List.drop_drop,hd];omega)]
       exact LL b _ _ _ _ (((((h.drop 1).drop 2).drop 1).drop 1).drop 1) (by rw [List.drop_drop,List.drop_drop,List.drop_drop,List.drop_drop,hd];omega)
      ·rw [if_neg g6]
       exact k1 _ _ _ (fun x y=>⟨_,_,_,_,x,y,_,_,_,_,_,_,_⟩) ((((h.drop 1).drop 2).drop 1).drop 1) (by rw [List.drop_drop,List.drop_drop,List.drop_drop,hd];omega)
     ·rw [if_neg g5]
      exact k2 _ _ (fun x y=>⟨_,_,_,_,x,y,_,_,_,_,_,_,_⟩) (((h.drop 1).drop 2).drop 1) (by rw [List.drop_drop,List.drop_drop,hd];omega)
    ·rw [if_neg g4]
     exact k3 _ (fun z x y=>⟨_,_,_,am z 1,x,y,_,_,_,_,_,_,_⟩) ((h.drop 1).drop 2) (by rw [List.drop_drop,hd];omega)
   ·rw [if_neg g3]
    exact k4 _ (fun u z x y=>⟨_,_,u,am z 1,x,y,_,_,_,_,_,_,_⟩) (h.drop 1) (by rw [hd];omega)
  ·rw [if_neg g1]
   obtain ⟨y,b',e,h1,h2⟩:=RK h hB
   rw [e,Option.bind_some]
   exact k4 b' (fun u z x y'=>⟨_,y,u,am z 1,x,y',_,_,_,_,_,_,_⟩) h1 h2
def mH (f:GFact):Int:=if f.Withdrawn then 1 else 0
def sF (f:GFact):List Int:=au f.Issuer 1++au f.Number 2++au f.Version 1++au (mH f) 1++au f.Person 1++au f.Kind 1
def eL (f:GFact):List Int:=sF f++(bG f.Kind).flatMap (iN f)
theorem Gm (f:GFact):(sF f).length = 7:=by simp [sF,aA]
theorem OU (f:GFact):aB (sF f):=by
 unfold sF
 exact bF.2 ⟨bF.2 ⟨bF.2 ⟨bF.2 ⟨bF.2 ⟨be _ _,be _ _⟩,be _ _⟩,be _ _⟩,be _ _⟩,be _ _⟩
theorem QI (f:GFact) (u:List Nat):aB (u.flatMap (iN f)):=by
 intro x hx
 obtain ⟨c,_,h⟩:=List.mem_flatMap.1 hx
 exact QQ f c x h
theorem Gt (f:GFact):∀ (u:List Nat),(u.flatMap (iN f)).length≤6*u.length
 | []=>by simp
 | c :: u=>by
  have:=Gt f u
  have h6:(iN f c).length≤6:=by
   unfold iN
   repeat' split
   all_goals simp [aA]
  rw [List.flatMap_cons,List.length_append,List.length_cons];omega
theorem Gy (f:GFact):aB (eL f):=bF.2 ⟨OU f,QI f _⟩
theorem xI (f:GFact):7≤(eL f).length∧(eL f).length≤43:=by
 unfold eL
 rw [List.length_append,Gm]
 have:=Gt f (bG f.Kind)
 have:=lG f.Kind
 omega
theorem Li (u:List Nat) (hu:∀ c∈u,c < 256) (i:Nat) (hi:i < u.length):((UInt8.toNat (Array.getD (aI u).data ((i:Int)).toNat (UInt8.ofNat 0))):Int) = (u[i]:Int):=by
 rw [Int.toNat_natCast,Dc u i hi]
 have:=hu _ (List.getElem_mem hi)
 simp [Nat.mod_eq_of_lt this]
theorem MV (u:List Nat) (hu:∀ c∈u,c < 256) (hn:u.length≤50) (i:Nat) (hi:i < u.length) (hl:jC u[i] = true) (f:GFact) (b:List Int) (hb:b.length≤1000):cY (aI u) (i:Int) f b = cY (aI u) ((i+1:Nat):Int) f (b++iN f u[i]):=by
 have hsz:((aI u).size:Int) = (u.length:Int):=by rw [gB]
 have b1:∀ v,aU v 1 b = some (b++au v 1):=fun v=>fY v (n:=1) (by omega) b (by omega)
 have b2:∀ v,aU v 2 b = some (b++au v 2):=fun v=>fY v (n:=2) (by omega) b (by omega)
 have b4:∀ v,aU v 4 b = some (b++au v 4):=fun v=>fY v (n:=4) (by omega) b (by omega)
 have b3:∀ v,aU v 3 b = some (b++au v 3):=fun v=>fY v (n:=3) (by omega) b (by omega)
 have b3':∀ v z,aU v 3 (b++au z 3) = some (b++au z 3++au v 3):=fun v z=>fY v (n:=3) (by omega) _ (by rw [List.length_append,aA];omega)
 rw [pe,hsz,dj hi,bH,cond_true,ap,ap,Li u hu i hi]
 simp only [b1,b2,b3,b4,b3',Option.bind_some,xF,co hi (by omega)]
 have k83:=e9 u[i] 83;have k80:=e9 u[i] 80;have k84:=e9 u[i] 84;have k72:=e9 u[i] 72;have k67:=e9 u[i] 67;have k65:=e9 u[i] 65;have k82:=e9 u[i] 82
 simp only [Int.cast_ofNat_Int] at k83 k80 k84 k72 k67 k65 k82
 unfold am
 rw [k83,k80,k84,k72,k67,k65,k82]
 revert hl
 generalize u[i] = c
 intro hl
 obtain rfl | rfl | rfl | rfl | rfl | rfl | rfl:=gz hl <;> first | rfl | (show cY _ _ _ (b++au f.Span.From 3++au f.Span.To 3) = cY _ _ _ (b++(au f.Span.From 3++au f.Span.To 3));rw [List.append_assoc])
theorem C8 (u:List Nat) (hu:∀ c∈u,c < 256) (hn:u.length≤50) (hl:∀ c∈u,jC c = true) (f:GFact):∀ (n i:Nat) (b:List Int),u.length = i+n→b.length≤8+6*i→cY (aI u) (i:Int) f b = some (b++(u.drop i).flatMap (iN f))
 | 0,i,b,hi,_=>by
  have:i = u.length:=by omega
  subst this
  rw [pe,show ((aI u).size:Int) = (u.length:Int) by rw [gB],cJ,cond_false,List.drop_length]
  simp
 | n+1,i,b,hi,hb=>by
  have hlt:i < u.length:=by omega
  have hc:=hl _ (List.getElem_mem hlt)
  have h6:=Pt (f:=f) hc
  have:=D3 u[i]
  rw [MV u hu hn i hlt hc f b (by omega),C8 u hu hn hl f n (i+1) _ (by omega) (by rw [List.length_append];omega),List.drop_eq_getElem_cons hlt,List.flatMap_cons,List.append_assoc]
theorem uF (f:GFact):qo f = some (if cq f = true then eL f else []):=by
 rw [EJ,vg,Option.bind_some]
 cases hv:cq f with
 | false=>rfl
 | true =>
  have key:∀ g,kL g f = some ((au f.Issuer 1++au f.Number 2++au f.Version 1++au g 1++au f.Person 1++au f.Kind 1)++(bG f.Kind).flatMap (iN f)):=by
   intro g
   have b1:∀ v b,b.length≤100→aU v 1 b = some (b++au v 1):=fun v b hb=>fY v (n:=1) (by omega) b (by omega)
   have b2:∀ v b,b.length≤100→aU v 2 b = some (b++au v 2):=fun v b hb=>fY v (n:=2) (by omega) b (by omega)
   rw [zj,b1 _ _ (by simp),Option.bind_some,b2 _ _ (by simp [aA]),Option.bind_some,b1 _ _ (by simp [aA]),Option.bind_some,b1 _ _ (by simp [aA]),Option.bind_some,b1 _ _ (by simp [aA]),Option.bind_some,b1 _ _ (by simp [aA]),Option.bind_some,i6,Option.bind_some]
   have:=C8 (bG f.Kind) (mv _) (by have:=lG f.Kind;omega) (nO _) f _ 0 ([]++au f.Issuer 1++au f.Number 2++au f.Version 1++au g 1++au f.Person 1++au f.Kind 1) (Nat.zero_add _).symm (by simp [aA])
   rw [List.nil_append] at this ⊢
   exact this
  show (bif f.Withdrawn then _ else _) = _
  rw [key,key]
  simp only [if_true]
  unfold eL sF mH
  cases f.Withdrawn <;> rfl
theorem qx {a b:List Int} (ha:aB a) (hb:aB b):ot (bz a) (bz b) = decide (a = b):=by
 have e:∀ l:List Int,(bz l).toList = l.map fun x=>UInt8.ofNat x.toNat:=fun l=>by rw [ByteArray.toList_eq];rfl
 have inj:∀ {a b:List Int},aB a→aB b→(a.map fun x=>UInt8.ofNat x.toNat) = (b.map fun x=>UInt8.ofNat x.toNat)→a = b:=by
  intro a
  induction a with
  | nil=>intro b _ _ h;cases b with
   | nil=>rfl
   | cons y b=>simp at h
  | cons x a ih =>
   intro b ha hb h
   cases b with
   | nil=>simp at h
   | cons y b =>
    rw [List.map_cons,List.map_cons] at h
    obtain ⟨h1,h2⟩:=List.cons.inj h
    obtain ⟨hx,ha⟩:=dY.1 ha
    obtain ⟨hy,hb⟩:=dY.1 hb
    have h3:=congrArg UInt8.toNat h1
    have g:∀ z:Int,0≤z∧z < 256→(UInt8.ofNat z.toNat).toNat = z.toNat:=fun z hz=>by
     have:z.toNat < 256:=by omega
     simp [Nat.mod_eq_of_lt this]
    rw [g x hx,g y hy] at h3
    rw [ih ha hb h2,show x = y by omega]
 show ((bz a).toList == (bz b).toList) = _
 rw [e,e]
 by_cases h:a = b
 ·subst h;simp
 ·rw [decide_eq_false h]
  exact beq_false_of_ne fun hh=>h (inj ha hb hh)
def MU (b:List Int) (o:Option (GFact × List Int)):GFact × Int × Bool:=match o with
 | none=>ka
 | some (f,r)=>if cq f = true∧eL f = b.take (b.length - r.length) then (f,(b.length:Int) - (r.length:Int),true) else ka
theorem N4 (b:List Int) (hb:aB b) (u:List Nat) (t2 f:GFact) (a:Nat) (ha:a≤b.length):da b (a:Int) (aI u) (u.length:Int) t2 f = some (MU b (some (f,b.drop a))):=by
 rw [qG,show ((aI u).size:Int) = (u.length:Int) by rw [gB],cJ,cond_false,uF,Option.bind_some,Bool.or_true,ap,i7 (by rw [bH,Bool.or_true]),i7 (by rw [aV (by omega),Bool.or_true]),xZ b (by omega),Int.toNat_natCast]
 show _ = some (if cq f = true∧eL f = b.take (b.length - (b.drop a).length) then (f,(b.length:Int) - ((b.drop a).length:Int),true) else ka)
 rw [List.length_drop,show b.length - (b.length - a) = a by omega,show (b.length:Int) - ((b.length - a:Nat):Int) = (a:Int) by omega]
 cases hv:cq f with
 | false=>rfl
 | true =>
  have hl:=(xI f).1
  rw [if_pos rfl,eJ.2 (by omega:((eL f).length:Int)≠0),cond_false,qx (Gy f) (hb.take a)]
  by_cases he:eL f = b.take a
  ·rw [decide_eq_true he,if_pos ⟨rfl,he⟩];rfl
  ·rw [decide_eq_false he,if_neg (fun h=>he h.2)];rfl
theorem L0 (b:List Int) (hb:aB b) (u:List Nat) (hu:∀ c∈u,c < 256) (hn:u.length≤50) (i:Nat) (hi:i < u.length) (hl:jC u[i] = true) (t2 f:GFact) (a:Nat) (ha:a≤b.length) (hB:b.length≤1000000000000) :
  da b (a:Int) (aI u) (i:Int) t2 f = if a+eY u[i]≤b.length then da b ((a+eY u[i]:Nat):Int) (aI u) ((i+1:Nat):Int) t2 (oh u[i] f ((b.drop a).take (eY u[i]))) else some ka:=by
 have hsz:((aI u).size:Int) = (u.length:Int):=by rw [gB]
 have k83:=e9 u[i] 83;have k80:=e9 u[i] 80;have k84:=e9 u[i] 84;have k72:=e9 u[i] 72;have k67:=e9 u[i] 67;have k65:=e9 u[i] 65;have k82:=e9 u[i] 82
 simp only [Int.cast_ofNat_Int] at k83 k80 k84 k72 k67 k65 k82
 have hby:=Li u hu i hi
 have e1:da b (a:Int) (aI u) (i:Int) t2 f = ez b (a:Int) (aI u) (i:Int) (eY u[i]:Int) t2 f:=by
  rw [qG,hsz,dj hi,bH,cond_true,ap,ap,hby]
  unfold am
  rw [k80,k67,k65]
  unfold eY
  by_cases h1:u[i] = 80
  ·simp [h1]
  by_cases h2:u[i] = 67
  ·simp [h2]
  by_cases h3:u[i] = 65
  ·simp [h3]
  ·simp [h1,h2,h3]
 have hz:=D3 u[i]
 have e2:ac ((a:Int)+(eY u[i]:Int)) = ((a+eY u[i]:Nat):Int):=by rw [ay (by omega) (by omega)];omega
 rw [e1,xX,e2]
 by_cases hle:a+eY u[i]≤b.length
 ·rw [bp (by omega),cond_false,if_pos hle,ab (by omega),ab (by omega),ab (by omega),ab (by omega),ab (by rw [hsz];omega),hby]
  have e3:ak b ((a:Int)).toNat (((a+eY u[i]:Nat):Int) - (a:Int)).toNat = (b.drop a).take (eY u[i]):=by
   unfold ak
   rw [Int.toNat_natCast];congr 1;omega
  rw [e3]
  have hx:aB ((b.drop a).take (eY u[i])):=(hb.drop a).take _
  have hxl:((b.drop a).take (eY u[i])).length = eY u[i]:=by rw [List.length_take,List.length_drop];omega
  have hnum:cR ((b.drop a).take (eY u[i])) = some (aC ((b.drop a).take (eY u[i]))):=jK hx (by omega)
  have hp:∀ f',bP b (a:Int) (aI u) (i:Int) (eY u[i]:Int) t2 f' = da b ((a+eY u[i]:Nat):Int) (aI u) ((i+1:Nat):Int) t2 f':=fun f'=>by
   rw [wD,e2,co hi (by omega)]
  generalize hX:(b.drop a).take (eY u[i]) = X at *
  rw [hnum]
  simp only [Option.bind_some,hp]
  unfold am
  rw [k83,k80,k84,k72,k67,k65,k82]
  by_cases h80:u[i] = 80
  ·have h6:X.length = 6:=by rw [hxl,h80];rfl
   have s1:ak X 0 3 = X.take 3:=rfl
   have s2:ak X 3 ((X.length:Int) - 3).toNat = X.drop 3:=by
    unfold ak;rw [List.take_of_length_le];rw [List.length_drop];omega
   rw [s1,s2,jK (hx.take 3) (by rw [List.length_take];omega),Option.bind_some,ab (by omega),ab (by omega),ab (by omega),jK (hx.drop 3) (by rw [List.length_drop];omega),Option.bind_some]
   have d83:decide (u[i] = 83) = false:=decide_eq_false (by omega)
   rw [d83,decide_eq_true h80,cond_false,cond_true]
   simp only [oh,h80]
   rfl
  ·rw [decide_eq_false h80]
   revert hl h80
   generalize u[i] = c
   intro hl h80
   obtain rfl | rfl | rfl | rfl | rfl | rfl | rfl:=gz hl <;> first | rfl | (exact absurd rfl h80)
 ·rw [aV (by omega),cond_true,if_neg hle];rfl
theorem DM (b:List Int) (hb:aB b) (hB:b.length≤1000000000000) (u:List Nat) (hu:∀ c∈u,c < 256) (hn:u.length≤50) (hl:∀ c∈u,jC c = true) (t2:GFact):∀ (n i a:Nat) (f:GFact),u.length = i+n→a≤b.length→da b (a:Int) (aI u) (i:Int) t2 f = some (MU b (lV (u.drop i) f (b.drop a)))
 | 0,i,a,f,hi,ha=>by
  have:i = u.length:=by omega
  subst this
  rw [N4 b hb u t2 f a ha,List.drop_length];rfl
 | n+1,i,a,f,hi,ha=>by
  have hlt:i < u.length:=by omega
  rw [L0 b hb u hu hn i hlt (hl _ (List.getElem_mem hlt)) t2 f a ha hB,List.drop_eq_getElem_cons hlt,lV,List.length_drop]
  by_cases hle:a+eY u[i]≤b.length
  ·rw [if_pos hle,if_pos (by omega),DM b hb hB u hu hn hl t2 n (i+1) (a+eY u[i]) _ (by omega) hle,List.drop_drop]
  ·rw [if_neg hle,if_neg (by omega)];rfl
theorem DK {b:List Int} (hb:aB b) (hB:b.length≤1000000000000):sM b = some (if 7≤b.length then MU b (lV (bG (gD b 6 0)) (GW b) (b.drop 7)) else ka):=by
 have g:∀ i,ac (gD b i 0) = gD b i 0:=fun i=>by have:=hb.gD i;exact ay (by omega) (by omega)
 rw [Hm]
 by_cases h7:7≤b.length
 ·rw [bp (by omega),cond_false,if_pos h7,ab (by omega),ab (by omega),jK (hb.sub 1 2) (by unfold ak;rw [List.length_take];omega),Option.bind_some,ab (by omega),ab (by omega),ab (by omega),ab (by omega),g,g,g,g,i6,Option.bind_some]
  exact DM b hb hB _ (mv _) (by have:=lG (gD b 6 0);omega) (nO _) _ _ 0 7 (GW b) (Nat.zero_add _).symm h7
 ·rw [aV (by omega),cond_true,if_neg h7];rfl
theorem R1 {b:List Int} (hb:aB b) (h7:7≤b.length):b.take 7 = [gD b 0 0,gD b 1 0,gD b 2 0,gD b 3 0,gD b 4 0,gD b 5 0,gD b 6 0]:=by
 match b,h7 with
 | a0 :: a1 :: a2 :: a3 :: a4 :: a5 :: a6 :: r,_=>rfl
theorem Jt {b:List Int} (hb:aB b) (h7:7≤b.length):MU b (lV (bG (gD b 6 0)) (GW b) (b.drop 7)) = PH b (gD b 4 0) (lV (bG (gD b 6 0)) (GW b) (b.drop 7)):=by
 cases hr:lV (bG (gD b 6 0)) (GW b) (b.drop 7) with
 | none=>rfl
 | some p =>
  obtain ⟨f,r⟩:=p
  obtain ⟨h1,_,h3,h4,h5,h6,h8,h9⟩:=yl _ _ _ f r (nO _) (BF _) (hb.drop 7) hr
  show (if cq f = true∧eL f = b.take (b.length - r.length) then _ else ka) = (if 1 < gD b 4 0 then ka else if cq f = true then _ else ka)
  have hlen:b.length - r.length = 7+((bG (gD b 6 0)).flatMap (iN f)).length:=by
   have:=congrArg List.length h1
   rw [List.length_append,List.length_drop] at this
   omega
  have e1:b.take (b.length - r.length) = b.take 7++(bG (gD b 6 0)).flatMap (iN f):=by
   rw [hlen,List.take_add, ← h1,List.take_left']
   rfl
  have b4:=hb.gD 4
  have kind:f.Kind = gD b 6 0:=h9
  have hh:eL f = b.take (b.length - r.length)↔sF f = b.take 7:=by
   rw [e1]
   unfold eL
   rw [kind]
   constructor
   ·exact fun h=>(List.append_inj h (by rw [Gm,List.length_take];omega)).1
   ·exact fun h=>by rw [h]
  have n2:au (aC (ak b 1 2)) 2 = [gD b 1 0,gD b 2 0]:=by
   have e:ak b 1 2 = [gD b 1 0,gD b 2 0]:=by
    match b,h7 with
    | a0 :: a1 :: a2 :: a3 :: a4 :: a5 :: a6 :: r,_=>rfl
   rw [e]
   exact iQ (b:=[gD b 1 0,gD b 2 0]) (dY.2 ⟨hb.gD 1,dY.2 ⟨hb.gD 2,pY⟩⟩)
  have o:∀ i,au (gD b i 0) 1 = [gD b i 0]:=fun i=>Lz (hb.gD i).1 (hb.gD i).2
  have wd:f.Withdrawn = am (gD b 4 0) 1:=h6
  have hg:sF f = [gD b 0 0,gD b 1 0,gD b 2 0,gD b 3 0,mH f,gD b 5 0,gD b 6 0]:=by
   unfold sF
   rw [show f.Issuer = gD b 0 0 from h3,show f.Number = aC (ak b 1 2) from h4,show f.Version = gD b 3 0 from h5,show f.Person = gD b 5 0 from h8,kind,n2,o,o,o,o,show au (mH f) 1 = [mH f] from Lz (by unfold mH;split <;> omega) (by unfold mH;split <;> omega)]
   rfl
  have key:([gD b 0 0,gD b 1 0,gD b 2 0,gD b 3 0,mH f,gD b 5 0,gD b 6 0] = [gD b 0 0,gD b 1 0,gD b 2 0,gD b 3 0,gD b 4 0,gD b 5 0,gD b 6 0])↔¬ 1 < gD b 4 0:=by
   constructor
   ·intro h
    have h0:mH f = gD b 4 0:=by
     have:=congrArg (fun l=>l.getD 4 0) h
     exact this
    rw [← h0];unfold mH;split <;> omega
   ·intro h
    have h0:mH f = gD b 4 0:=by
     unfold mH
     rw [wd]
     by_cases h1:gD b 4 0 = 1
     ·rw [aZ.2 h1,if_pos rfl,h1]
     ·rw [eJ.2 h1,if_neg (by simp)];omega
    rw [h0]
  have hk:eL f = b.take (b.length - r.length)↔¬ 1 < gD b 4 0:=by rw [hh,hg,R1 hb h7];exact key
  by_cases hw:1 < gD b 4 0
  ·rw [if_pos hw,if_neg (fun h=>hk.1 h.2 hw)]
  ·rw [if_neg hw]
   by_cases hv:cq f = true
   ·rw [if_pos hv,if_pos ⟨hv,hk.2 hw⟩]
   ·rw [if_neg hv,if_neg (fun h=>hv h.1)]
theorem Fu {b:List Int} (hb:aB b) (hB:b.length≤1000000000000):sM b = some (yB b):=by
 rw [DK hb hB]
 unfold yB
 by_cases h7:7≤b.length
 ·rw [if_pos h7,if_pos h7,Jt hb h7]
 ·rw [if_neg h7,if_neg h7]
theorem OV {b:List Int} (hb:aB b) {f:GFact} {n:Int} (h:yB b = (f,n,true)):cq f = true∧0≤n∧n≤(b.length:Int)∧eL f = b.take n.toNat:=by
 unfold yB at h
 split at h
 ·next h7 =>
  rw [← Jt hb h7] at h
  revert h
  cases hr:lV (bG (gD b 6 0)) (GW b) (b.drop 7) with
  | none=>intro h;cases h
  | some p =>
   obtain ⟨f',r⟩:=p
   intro h
   obtain ⟨h1,_⟩:=yl _ _ _ f' r (nO _) (BF _) (hb.drop 7) hr
   have hl:r.length≤b.length:=by
    have:=congrArg List.length h1
    rw [List.length_append,List.length_drop] at this
    omega
   have h:(if cq f' = true∧eL f' = b.take (b.length - r.length) then (f',(b.length:Int) - (r.length:Int),true) else ka) = (f,n,true):=h
   split at h
   ·next hv =>
    cases h
    refine ⟨hv.1,by omega,by omega, ?_⟩
    rw [hv.2];congr 1;omega
   ·cases h
 ·cases h
end Go.Ax
