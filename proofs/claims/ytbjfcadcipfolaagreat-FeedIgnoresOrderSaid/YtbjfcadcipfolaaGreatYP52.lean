import Derived.Test.YtbjfcadcipfolaaGreatYP50
import Derived.Laws.RangeString
set_option linter.all false
/- Both texts read the same facts out of bytes. -/
set_option maxRecDepth 100000
namespace Go.Ax
theorem CG (l:List Nat) (hl:∀ c∈l,c < 128) (i:Nat) (hi:i < l.length):dF (aI l) i = (l[i]:Int)∧fF (aI l) i = i+1:=by
 have hsz:i < (aI l).size:=by rw [dZ];exact hi
 have hg:(aI l)[i]'hsz = UInt8.ofNat l[i]:=by
  show (aI l).data[i]'hsz = _
  simp [aI]
 have hc:=hl _ (List.getElem_mem hi)
 have hn:((aI l)[i]'hsz).toNat = l[i]:=by rw [hg];simp [Nat.mod_eq_of_lt (show l[i] < 256 by omega)]
 have:=Go.decode_ascii (aI l) i hsz (by rw [hn];exact hc)
 unfold fF dF Ae
 have hlt:Nat.blt i (aI l).size = true:=by simpa using hsz
 rw [this,hn,hlt]
 exact ⟨rfl,rfl⟩
theorem uT (k:Int):∀ c∈bi k,c < 128:=by
 by_cases h:1≤k∧k≤14
 ·obtain rfl | rfl | rfl | rfl | rfl | rfl | rfl | rfl | rfl | rfl | rfl | rfl | rfl | rfl:=kinds h.1 h.2 <;> decide
 ·rw [jj h];simp
theorem AK (k:Int):(bi k).Nodup:=by
 by_cases h:1≤k∧k≤14
 ·obtain rfl | rfl | rfl | rfl | rfl | rfl | rfl | rfl | rfl | rfl | rfl | rfl | rfl | rfl:=kinds h.1 h.2 <;> decide
 ·rw [jj h];decide
def gW (c:Nat):Bool:=c == 83||c == 80||c == 84||c == 72||c == 67||c == 65||c == 82
theorem kK (k:Int):∀ c∈bi k,gW c = true:=by
 by_cases h:1≤k∧k≤14
 ·obtain rfl | rfl | rfl | rfl | rfl | rfl | rfl | rfl | rfl | rfl | rfl | rfl | rfl | rfl:=kinds h.1 h.2 <;> decide
 ·rw [jj h];simp
theorem et {c:Nat} (h:gW c = true):c = 83∨c = 80∨c = 84∨c = 72∨c = 67∨c = 65∨c = 82:=by
 unfold gW at h
 simp only [Bool.or_eq_true,beq_iff_eq] at h
 omega
def er (c:Nat):Nat:=if c = 80 then 6 else if c = 67 then 2 else if c = 65 then 4 else 1
theorem zO (c:Nat):1≤er c∧er c≤6:=by
 unfold er
 repeat' split
 all_goals omega
def ox (c:Nat) (f:GFact) (x:List Int):GFact :=
 if c = 83 then ⟨f.Issuer,f.Number,f.Version,f.Withdrawn,f.Person,f.Kind,aC x,f.Span,f.Seat,f.Share,f.Currency,f.Amount,f.Ref⟩ else
 if c = 80 then ⟨f.Issuer,f.Number,f.Version,f.Withdrawn,f.Person,f.Kind,f.State,⟨aC (x.take 3),aC (x.drop 3)⟩,f.Seat,f.Share,f.Currency,f.Amount,f.Ref⟩ else
 if c = 84 then ⟨f.Issuer,f.Number,f.Version,f.Withdrawn,f.Person,f.Kind,f.State,f.Span,aC x,f.Share,f.Currency,f.Amount,f.Ref⟩ else
 if c = 72 then ⟨f.Issuer,f.Number,f.Version,f.Withdrawn,f.Person,f.Kind,f.State,f.Span,f.Seat,aC x,f.Currency,f.Amount,f.Ref⟩ else
 if c = 67 then ⟨f.Issuer,f.Number,f.Version,f.Withdrawn,f.Person,f.Kind,f.State,f.Span,f.Seat,f.Share,aC x,f.Amount,f.Ref⟩ else
 if c = 65 then ⟨f.Issuer,f.Number,f.Version,f.Withdrawn,f.Person,f.Kind,f.State,f.Span,f.Seat,f.Share,f.Currency,aC x,f.Ref⟩ else
 if c = 82 then ⟨f.Issuer,f.Number,f.Version,f.Withdrawn,f.Person,f.Kind,f.State,f.Span,f.Seat,f.Share,f.Currency,f.Amount,aC x⟩ else f
def dz (f:GFact) (c:Nat):List Int :=
 if c = 83 then am f.State 1 else if c = 80 then am f.Span.From 3++am f.Span.To 3 else if c = 84 then am f.Seat 1 else if c = 72 then am f.Share 1 else
 if c = 67 then am f.Currency 2 else if c = 65 then am f.Amount 4 else if c = 82 then am f.Ref 1 else []
theorem P3 (f:GFact) (c:Nat):aG (dz f c):=by
 unfold dz
 repeat' split
 all_goals first | exact aW _ _ | exact bC.2 ⟨aW _ _,aW _ _⟩ | exact pl
theorem Ji {f:GFact} {c:Nat} (h:gW c = true):(dz f c).length = er c:=by
 obtain rfl | rfl | rfl | rfl | rfl | rfl | rfl:=et h <;> simp [dz,er,av]
theorem Qd {f:GFact} {c:Nat} {x:List Int} (h:gW c = true) (hx:aG x) (hl:x.length = er c):dz (ox c f x) c = x:=by
 have one:∀ n,x.length = n→am (aC x) n = x:=fun n e=>by subst e;exact mQ hx
 obtain rfl | rfl | rfl | rfl | rfl | rfl | rfl:=et h
 ·exact one 1 hl
 ·show am (aC (x.take 3)) 3++am (aC (x.drop 3)) 3 = x
  have hl:x.length = 6:=hl
  have e1:am (aC (x.take 3)) (x.take 3).length = x.take 3:=mQ (hx.take 3)
  have e2:am (aC (x.drop 3)) (x.drop 3).length = x.drop 3:=mQ (hx.drop 3)
  rw [List.length_take,hl] at e1
  rw [List.length_drop,hl] at e2
  rw [show min 3 6 = 3 from rfl] at e1
  rw [show 6 - 3 = 3 from rfl] at e2
  rw [e1,e2,List.take_append_drop]
 ·exact one 1 hl
 ·exact one 1 hl
 ·exact one 2 hl
 ·exact one 4 hl
 ·exact one 1 hl
theorem NI {f:GFact} {c d:Nat} {x:List Int} (hc:gW c = true) (hne:c≠d):dz (ox c f x) d = dz f d:=by
 obtain rfl | rfl | rfl | rfl | rfl | rfl | rfl:=et hc <;> (unfold dz;simp only [ox];simp (config:={ decide:=true }) only [if_true,if_false]) <;> (repeat' split) <;> first | rfl | (exfalso;omega)
theorem Pv {f:GFact} {c:Nat} {x:List Int} (hc:gW c = true):(ox c f x).Issuer = f.Issuer∧(ox c f x).Number = f.Number∧(ox c f x).Version = f.Version∧(ox c f x).Withdrawn = f.Withdrawn∧(ox c f x).Person = f.Person∧(ox c f x).Kind = f.Kind:=by
 obtain rfl | rfl | rfl | rfl | rfl | rfl | rfl:=et hc <;> exact ⟨rfl,rfl,rfl,rfl,rfl,rfl⟩
def lR:List Nat→GFact→List Int→Option (GFact × List Int)
 | [],f,b=>some (f,b)
 | c :: u,f,b=>if er c≤b.length then lR u (ox c f (b.take (er c))) (b.drop (er c)) else none
theorem wN:∀ (u:List Nat) (f:GFact) (b:List Int) (f':GFact) (r:List Int),(∀ c∈u,gW c = true)→u.Nodup→aG b→lR u f b = some (f',r) →
  u.flatMap (dz f')++r = b∧(∀ d,d ∉ u→dz f' d = dz f d)∧(f'.Issuer = f.Issuer∧f'.Number = f.Number∧f'.Version = f.Version∧f'.Withdrawn = f.Withdrawn∧f'.Person = f.Person∧f'.Kind = f.Kind)
 | [],f,b,f',r,_,_,_,h=>by
  cases h
  exact ⟨rfl,fun _ _=>rfl,rfl,rfl,rfl,rfl,rfl,rfl⟩
 | c :: u,f,b,f',r,hl,hn,hb,h=>by
  rw [lR] at h
  split at h
  ·next hle =>
   have hc:=hl c (by simp)
   obtain ⟨hn1,hn2⟩:=List.nodup_cons.1 hn
   obtain ⟨h1,h2,h3⟩:=wN u _ _ f' r (fun d hd=>hl d (by simp [hd])) hn2 (hb.drop _) h
   obtain ⟨g1,g2,g3,g4,g5,g6⟩:=Pv (f:=f) (x:=b.take (er c)) hc
   refine ⟨?_,fun d hd=>?_, ?_⟩
   ·rw [List.flatMap_cons,List.append_assoc,h1,h2 c hn1,Qd hc (hb.take _) (by rw [List.length_take];omega),List.take_append_drop]
   ·rw [h2 d (fun hx=>hd (by simp [hx])),NI hc (fun e=>hd (by simp [e]))]
   ·rw [g1,g2,g3,g4,g5,g6] at h3;exact h3
  ·cases h
theorem cR (a b:Nat):((a:Int) == (b:Int)) = decide (a = b):=by
 by_cases h:a = b
 ·simp [h]
 ·rw [decide_eq_false h]
  have:¬ ((a:Int) = (b:Int)):=by omega
  simpa using this
def MM:GFact:=⟨0,0,0,false,0,0,0,⟨0,0⟩,0,0,0,0,0⟩
def jQ:GFact × Int × Bool:=(MM,0,false)
theorem lv {n:Nat} {b:List Int} (h:aG b) (hn:n≤7) (hB:b.length≤1000000000000):∃ y b',ao (n:Int) ⟨b,true⟩ = some (y,⟨b',true⟩)∧aG b'∧b'.length≤b.length:=by
 rw [pk h hn hB]
 split
 ·exact ⟨_,_,rfl,h.drop _,by rw [List.length_drop];omega⟩
 ·exact ⟨_,_,rfl,h,Nat.le_refl _⟩
theorem Hb (b:List Int) (w:Int) (f:GFact) (r:GFact_reader) (u:List Nat):aJ b w f r (aI u) (u.length:Int) = (bif r.short then some jQ else bif aa (1 < w) then some jQ else bif (!aB f) then some jQ else some (f,(ac ((b.length:Int) - (r.b.length:Int))),true)):=by
 have hlt:Nat.blt u.length (aI u).size = false:=by
  rw [dZ]
  cases hc:Nat.blt u.length u.length with
  | false=>rfl
  | true=>rw [Nat.blt_eq] at hc;omega
 rw [qq,Int.toNat_natCast,hlt,cond_false,jc]
 rfl
theorem Gh (b:List Int) (w:Int) (f:GFact) (r:GFact_reader) (u:List Nat) (hu:∀ c∈u,c < 128) (i:Nat) (hi:i < u.length) (hl:gW u[i] = true) :
  aJ b w f r (aI u) (i:Int) = if u[i] = 80 then (ao 3 r).bind fun r1=>(ao 3 r1.2).bind fun r2=>aJ b w (⟨f.Issuer,f.Number,f.Version,f.Withdrawn,f.Person,f.Kind,f.State,(⟨r1.1,r2.1⟩:GSpan),f.Seat,f.Share,f.Currency,f.Amount,f.Ref⟩:GFact) r2.2 (aI u) ((i+1:Nat):Int)
   else (ao (er u[i]:Int) r).bind fun r1=>aJ b w (if u[i] = 83 then ⟨f.Issuer,f.Number,f.Version,f.Withdrawn,f.Person,f.Kind,r1.1,f.Span,f.Seat,f.Share,f.Currency,f.Amount,f.Ref⟩ else
    if u[i] = 84 then ⟨f.Issuer,f.Number,f.Version,f.Withdrawn,f.Person,f.Kind,f.State,f.Span,r1.1,f.Share,f.Currency,f.Amount,f.Ref⟩ else if u[i] = 72 then ⟨f.Issuer,f.Number,f.Version,f.Withdrawn,f.Person,f.Kind,f.State,f.Span,f.Seat,r1.1,f.Currency,f.Amount,f.Ref⟩ else
    if u[i] = 67 then ⟨f.Issuer,f.Number,f.Version,f.Withdrawn,f.Person,f.Kind,f.State,f.Span,f.Seat,f.Share,r1.1,f.Amount,f.Ref⟩ else if u[i] = 65 then ⟨f.Issuer,f.Number,f.Version,f.Withdrawn,f.Person,f.Kind,f.State,f.Span,f.Seat,f.Share,f.Currency,r1.1,f.Ref⟩ else
    ⟨f.Issuer,f.Number,f.Version,f.Withdrawn,f.Person,f.Kind,f.State,f.Span,f.Seat,f.Share,f.Currency,f.Amount,r1.1⟩) r1.2 (aI u) ((i+1:Nat):Int):=by
 obtain ⟨r1,r2⟩:=CG u hu i hi
 have hlt:Nat.blt i (aI u).size = true:=by rw [dZ];simpa using hi
 rw [qq,Int.toNat_natCast,hlt,cond_true,ab rfl,r1,r2]
 have k83:=cR u[i] 83;have k80:=cR u[i] 80;have k84:=cR u[i] 84;have k72:=cR u[i] 72;have k67:=cR u[i] 67;have k65:=cR u[i] 65;have k82:=cR u[i] 82
 simp only [Int.cast_ofNat_Int] at k83 k80 k84 k72 k67 k65 k82
 unfold ak
 rw [k83,k80,k84,k72,k67,k65,k82]
 revert hl
 generalize u[i] = c
 intro hl
 obtain rfl | rfl | rfl | rfl | rfl | rfl | rfl:=et hl <;> rfl
theorem nC (b:List Int) (w:Int) (u:List Nat) (hu:∀ c∈u,c < 128) (hl:∀ c∈u,gW c = true):∀ (n i:Nat) (f:GFact) (r:List Int),u.length = i+n→aG r→r.length≤1000000000000→aJ b w f ⟨r,true⟩ (aI u) (i:Int) = some jQ
 | 0,i,f,r,hi,_,_=>by
  have:i = u.length:=by omega
  subst this
  rw [Hb];rfl
 | n+1,i,f,r,hi,hr,hB=>by
  have hlt:i < u.length:=by omega
  rw [Gh b w f _ u hu i hlt (hl _ (List.getElem_mem hlt))]
  split
  ·obtain ⟨y1,b1,e1,h1,h1'⟩:=lv (n:=3) hr (by omega) hB
   obtain ⟨y2,b2,e2,h2,h2'⟩:=lv (n:=3) h1 (by omega) (by omega)
   have e1:ao 3 ⟨r,true⟩ = some (y1,⟨b1,true⟩):=e1
   have e2:ao 3 ⟨b1,true⟩ = some (y2,⟨b2,true⟩):=e2
   rw [e1,Option.bind_some,e2,Option.bind_some]
   exact nC b w u hu hl n (i+1) _ b2 (by omega) h2 (by omega)
  ·obtain ⟨y1,b1,e1,h1,h1'⟩:=lv (n:=er u[i]) hr (by have:=zO u[i];omega) hB
   rw [e1,Option.bind_some]
   exact nC b w u hu hl n (i+1) _ b1 (by omega) h1 (by omega)
def Of (b:List Int) (w:Int) (o:Option (GFact × List Int)):GFact × Int × Bool:=match o with
 | none=>jQ
 | some (f,r)=>if 1 < w then jQ else if aB f = true then (f,(b.length:Int) - (r.length:Int),true) else jQ
theorem yn (b:List Int) (w:Int) (hbB:b.length≤1000000000000) (u:List Nat) (hu:∀ c∈u,c < 128) (hl:∀ c∈u,gW c = true):∀ (n i:Nat) (f:GFact) (r:List Int),u.length = i+n→aG r→r.length≤b.length→aJ b w f ⟨r,false⟩ (aI u) (i:Int) = some (Of b w (lR (u.drop i) f r))
 | 0,i,f,r,hi,_,hB=>by
  have:i = u.length:=by omega
  subst this
  rw [Hb,List.drop_length]
  show (bif false then _ else _) = some (if 1 < w then jQ else if aB f = true then _ else jQ)
  rw [cond_false]
  by_cases hw:1 < w
  ·rw [aT hw,cond_true,if_pos hw]
  ·rw [aX hw,cond_false,if_neg hw]
   cases hv:aB f with
   | false=>rfl
   | true =>
    show some (f,ac ((b.length:Int) - (r.length:Int)),true) = _
    rw [aA (by omega) (by omega)]
    rfl
 | n+1,i,f,r,hi,hr,hB=>by
  have hlt:i < u.length:=by omega
  have hc:=hl _ (List.getElem_mem hlt)
  rw [Gh b w f _ u hu i hlt hc,List.drop_eq_getElem_cons hlt,lR]
  split
  ·next h80 =>
   have e1:=pk (n:=3) (s:=false) hr (by omega) (by omega)
   have e1:ao 3 ⟨r,false⟩ = some (if 3≤r.length then (aC (r.take 3),⟨r.drop 3,false⟩) else (0,⟨r,true⟩)):=e1
   rw [e1,Option.bind_some,h80,show er 80 = 6 from rfl]
   by_cases h3:3≤r.length
   ·rw [if_pos h3]
    have e2:=pk (n:=3) (s:=false) (hr.drop 3) (by omega) (by rw [List.length_drop];omega)
    have e2:ao 3 ⟨r.drop 3,false⟩ = some (if 3≤(r.drop 3).length then (aC ((r.drop 3).take 3),⟨(r.drop 3).drop 3,false⟩) else (0,⟨r.drop 3,true⟩)):=e2
    rw [e2,Option.bind_some,List.length_drop]
    by_cases h6:6≤r.length
    ·rw [if_pos (by omega),if_pos h6]
     have:=yn b w hbB u hu hl n (i+1) (ox 80 f (r.take 6)) (r.drop 6) (by omega) (hr.drop 6) (by rw [List.length_drop];omega)
     rw [← this,List.drop_drop]
     congr 1
     show (⟨f.Issuer,f.Number,f.Version,f.Withdrawn,f.Person,f.Kind,f.State,⟨aC (r.take 3),aC ((r.drop 3).take 3)⟩,f.Seat,f.Share,f.Currency,f.Amount,f.Ref⟩:GFact) = ⟨f.Issuer,f.Number,f.Version,f.Withdrawn,f.Person,f.Kind,f.State,⟨aC ((r.take 6).take 3),aC ((r.take 6).drop 3)⟩,f.Seat,f.Share,f.Currency,f.Amount,f.Ref⟩
     rw [List.take_take,List.drop_take]
     rfl
    ·rw [if_neg (by omega),if_neg h6]
     exact nC b w u hu hl n (i+1) _ _ (by omega) (hr.drop 3) (by rw [List.length_drop];omega)
   ·rw [if_neg h3,if_neg (by omega:¬ 6≤r.length)]
    obtain ⟨y2,b2,e2,h2,h2'⟩:=lv (n:=3) hr (by omega) (by omega)
    have e2:ao 3 ⟨r,true⟩ = some (y2,⟨b2,true⟩):=e2
    show ((ao 3 ⟨r,true⟩).bind _) = _
    rw [e2,Option.bind_some]
    exact nC b w u hu hl n (i+1) _ b2 (by omega) h2 (by omega)
  ·next h80 =>
   rw [pk hr (by have:=zO u[i];omega) (by omega),Option.bind_some]
   by_cases hle:er u[i]≤r.length
   ·rw [if_pos hle,if_pos hle]
    have:=yn b w hbB u hu hl n (i+1) (ox u[i] f (r.take (er u[i]))) (r.drop (er u[i])) (by omega) (hr.drop _) (by rw [List.length_drop];omega)
    rw [← this]
    congr 1
    revert hc h80
    generalize u[i] = c
    intro hc h80
    obtain rfl | rfl | rfl | rfl | rfl | rfl | rfl:=et hc <;> first | rfl | (exact absurd rfl h80)
   ·rw [if_neg hle,if_neg hle]
    exact nC b w u hu hl n (i+1) _ _ (by omega) hr (by omega)
end Go.Ax
set_option linter.all false
/- fact.Read is the reference's Read. -/
set_option maxRecDepth 100000
namespace Go.Ax
def FL (b:List Int):GFact:=⟨gD b 0 0,aC (af b 1 2),gD b 3 0,ak (gD b 4 0) 1,gD b 5 0,gD b 6 0,0,⟨0,0⟩,0,0,0,0,0⟩
def xX (b:List Int):GFact × Int × Bool:=if 7≤b.length then Of b (gD b 4 0) (lR (bi (gD b 6 0)) (FL b) (b.drop 7)) else jQ
theorem La (b:List Int) (w:Int) (f:GFact) (r:List Int) (k:Int) (hr:aG r) (hB:r.length≤1000000000000):((eJ k).bind fun r6=>aJ b w f ⟨r,true⟩ r6 0) = some jQ:=by
 rw [mH,Option.bind_some]
 exact nC b w (bi k) (uT k) (kK k) _ 0 f r (Nat.zero_add _).symm hr hB
theorem rN {b:List Int} {s:Bool} (h:aG b) (hB:b.length≤1000000000000):ao 1 ⟨b,s⟩ = some (if 1≤b.length then (aC (b.take 1),⟨b.drop 1,s⟩) else (0,⟨b,true⟩)):=pk (n:=1) h (by omega) hB
theorem PC {b:List Int} {s:Bool} (h:aG b) (hB:b.length≤1000000000000):ao 2 ⟨b,s⟩ = some (if 2≤b.length then (aC (b.take 2),⟨b.drop 2,s⟩) else (0,⟨b,true⟩)):=pk (n:=2) h (by omega) hB
theorem EC {b:List Int} (i:Nat) (h:i < b.length):aC ((b.drop i).take 1) = gD b i 0:=by
 rw [List.drop_eq_getElem_cons h,List.take_succ_cons,List.take_zero]
 show 0*256+b[i] = b.getD i 0
 rw [List.getD_eq_getElem?_getD,List.getElem?_eq_getElem h]
 simp
theorem CV {b:List Int} (h:aG b) (hB:b.length≤1000000000000):∃ y b',ao 1 ⟨b,true⟩ = some (y,⟨b',true⟩)∧aG b'∧b'.length≤1000000000000:=by
 obtain ⟨y,b',e,h1,h2⟩:=lv (n:=1) h (by omega) hB
 exact ⟨y,b',e,h1,by omega⟩
theorem Rl {b:List Int} (h:aG b) (hB:b.length≤1000000000000):∃ y b',ao 2 ⟨b,true⟩ = some (y,⟨b',true⟩)∧aG b'∧b'.length≤1000000000000:=by
 obtain ⟨y,b',e,h1,h2⟩:=lv (n:=2) h (by omega) hB
 exact ⟨y,b',e,h1,by omega⟩
theorem GS {b:List Int} (h:aG b) (hB:b.length≤1000000000000):yV b = some (xX b):=by
 rw [IC,rN h hB,Option.bind_some]
 by_cases h7:7≤b.length
 ·rw [if_pos (by omega)]
  have hd:∀ k,(b.drop k).length = b.length - k:=fun k=>List.length_drop
  rw [PC (h.drop 1) (by rw [hd];omega),Option.bind_some,if_pos (by rw [hd];omega),List.drop_drop]
  rw [rN (h.drop (1+2)) (by rw [hd];omega),Option.bind_some,if_pos (by rw [hd];omega),List.drop_drop]
  rw [rN (h.drop (1+2+1)) (by rw [hd];omega),Option.bind_some,if_pos (by rw [hd];omega),List.drop_drop]
  rw [rN (h.drop (1+2+1+1)) (by rw [hd];omega),Option.bind_some,if_pos (by rw [hd];omega),List.drop_drop]
  rw [rN (h.drop (1+2+1+1+1)) (by rw [hd];omega),Option.bind_some,if_pos (by rw [hd];omega),List.drop_drop]
  have e0:aC (b.take 1) = gD b 0 0:=by have:=EC (b:=b) 0 (by omega);rwa [List.drop_zero] at this
  show ((eJ (aC ((b.drop 6).take 1))).bind fun r6=>aJ b (aC ((b.drop 4).take 1)) ⟨aC (b.take 1),aC ((b.drop 1).take 2),aC ((b.drop 3).take 1),ak (aC ((b.drop 4).take 1)) 1,aC ((b.drop 5).take 1),aC ((b.drop 6).take 1),0,⟨0,0⟩,0,0,0,0,0⟩ ⟨b.drop 7,false⟩ r6 0) = _
  rw [e0,EC 3 (by omega),EC 4 (by omega),EC 5 (by omega),EC 6 (by omega),mH,Option.bind_some]
  have:=yn b (gD b 4 0) hB (bi (gD b 6 0)) (uT _) (kK _) _ 0 (FL b) (b.drop 7) (Nat.zero_add _).symm (h.drop 7) (by rw [hd];omega)
  unfold xX
  rw [if_pos h7]
  exact this
 ·
  have fin:xX b = jQ:=by unfold xX;rw [if_neg h7]
  rw [fin]
  have k1:∀ (c:List Int) (p q:Int) (f:Int→Int→GFact),aG c→c.length≤1000000000000→((ao 1 ⟨c,true⟩).bind fun r5=>(eJ r5.1).bind fun r6=>aJ b p (f q r5.1) r5.2 r6 0) = some jQ:=by
   intro c p q f hc hl
   obtain ⟨y,b',e,h1,h2⟩:=CV hc hl
   rw [e,Option.bind_some]
   exact La b _ _ b' _ h1 h2
  have k2:∀ (c:List Int) (p:Int) (f:Int→Int→GFact),aG c→c.length≤1000000000000→((ao 1 ⟨c,true⟩).bind fun r4=>(ao 1 r4.2).bind fun r5=>(eJ r5.1).bind fun r6=>aJ b p (f r4.1 r5.1) r5.2 r6 0) = some jQ:=by
   intro c p f hc hl
   obtain ⟨y,b',e,h1,h2⟩:=CV hc hl
   rw [e,Option.bind_some]
   exact k1 b' p y f h1 h2
  have k3:∀ (c:List Int) (f:Int→Int→Int→GFact),aG c→c.length≤1000000000000→((ao 1 ⟨c,true⟩).bind fun r3=>(ao 1 r3.2).bind fun r4=>(ao 1 r4.2).bind fun r5=>(eJ r5.1).bind fun r6=>aJ b r3.1 (f r3.1 r4.1 r5.1) r5.2 r6 0) = some jQ:=by
   intro c f hc hl
   obtain ⟨y,b',e,h1,h2⟩:=CV hc hl
   rw [e,Option.bind_some]
   exact k2 b' y (f y) h1 h2
  have k4:∀ (c:List Int) (f:Int→Int→Int→Int→GFact),aG c→c.length≤1000000000000→((ao 1 ⟨c,true⟩).bind fun r2=>(ao 1 r2.2).bind fun r3=>(ao 1 r3.2).bind fun r4=>(ao 1 r4.2).bind fun r5=>(eJ r5.1).bind fun r6=>aJ b r3.1 (f r2.1 r3.1 r4.1 r5.1) r5.2 r6 0) = some jQ:=by
   intro c f hc hl
   obtain ⟨y,b',e,h1,h2⟩:=CV hc hl
   rw [e,Option.bind_some]
   exact k3 b' (f y) h1 h2
  have hd:∀ k,(b.drop k).length = b.length - k:=fun k=>List.length_drop
  by_cases g1:1≤b.length
  ·rw [if_pos g1,PC (h.drop 1) (by rw [hd];omega),Option.bind_some]
   by_cases g3:2≤(b.drop 1).length
   ·rw [if_pos g3,rN ((h.drop 1).drop 2) (by rw [List.drop_drop,hd];omega),Option.bind_some]
    by_cases g4:1≤((b.drop 1).drop 2).length
    ·rw [if_pos g4,rN (((h.drop 1).drop 2).drop 1) (by rw [List.drop_drop,List.drop_drop,hd];omega),Option.bind_some]
     by_cases g5:1≤(((b.drop 1).drop 2).drop 1).length
     ·rw [if_pos g5,rN ((((h.drop 1).drop 2).drop 1).drop 1) (by rw [List.drop_drop,List.drop_drop,List.drop_drop,hd];omega),Option.bind_some]
      by_cases g6:1≤((((b.drop 1).drop 2).drop 1).drop 1).length
      ·rw [if_pos g6,rN (((((h.drop 1).drop 2).drop 1).drop 1).drop 1) (by rw [List.drop_drop,List.drop_drop,List.drop_drop,List.drop_drop,hd];omega),Option.bind_some]
       rw [if_neg (by rw [List.drop_drop,List.drop_drop,List.drop_drop,List.drop_drop,hd];omega)]
       exact La b _ _ _ _ (((((h.drop 1).drop 2).drop 1).drop 1).drop 1) (by rw [List.drop_drop,List.drop_drop,List.drop_drop,List.drop_drop,hd];omega)
      ·rw [if_neg g6]
       exact k1 _ _ _ (fun x y=>⟨_,_,_,_,x,y,_,_,_,_,_,_,_⟩) ((((h.drop 1).drop 2).drop 1).drop 1) (by rw [List.drop_drop,List.drop_drop,List.drop_drop,hd];omega)
     ·rw [if_neg g5]
      exact k2 _ _ (fun x y=>⟨_,_,_,_,x,y,_,_,_,_,_,_,_⟩) (((h.drop 1).drop 2).drop 1) (by rw [List.drop_drop,List.drop_drop,hd];omega)
    ·rw [if_neg g4]
     exact k3 _ (fun z x y=>⟨_,_,_,ak z 1,x,y,_,_,_,_,_,_,_⟩) ((h.drop 1).drop 2) (by rw [List.drop_drop,hd];omega)
   ·rw [if_neg g3]
    exact k4 _ (fun u z x y=>⟨_,_,u,ak z 1,x,y,_,_,_,_,_,_,_⟩) (h.drop 1) (by rw [hd];omega)
  ·rw [if_neg g1]
   obtain ⟨y,b',e,h1,h2⟩:=Rl h hB
   rw [e,Option.bind_some]
   exact k4 b' (fun u z x y'=>⟨_,y,u,ak z 1,x,y',_,_,_,_,_,_,_⟩) h1 h2
def iw (f:GFact):Int:=if f.Withdrawn then 1 else 0
def kq (f:GFact):List Int:=am f.Issuer 1++am f.Number 2++am f.Version 1++am (iw f) 1++am f.Person 1++am f.Kind 1
def bt (f:GFact):List Int:=kq f++(bi f.Kind).flatMap (dz f)
theorem tI (f:GFact):(kq f).length = 7:=by simp [kq,av]
theorem OR (f:GFact):aG (kq f):=by
 unfold kq
 exact bC.2 ⟨bC.2 ⟨bC.2 ⟨bC.2 ⟨bC.2 ⟨aW _ _,aW _ _⟩,aW _ _⟩,aW _ _⟩,aW _ _⟩,aW _ _⟩
theorem PV (f:GFact) (u:List Nat):aG (u.flatMap (dz f)):=by
 intro x hx
 obtain ⟨c,_,h⟩:=List.mem_flatMap.1 hx
 exact P3 f c x h
theorem Fs (f:GFact):∀ (u:List Nat),(u.flatMap (dz f)).length≤6*u.length
 | []=>by simp
 | c :: u=>by
  have:=Fs f u
  have h6:(dz f c).length≤6:=by
   unfold dz
   repeat' split
   all_goals simp [av]
  rw [List.flatMap_cons,List.length_append,List.length_cons];omega
theorem nf (f:GFact):aG (bt f):=bC.2 ⟨OR f,PV f _⟩
theorem wH (f:GFact):7≤(bt f).length∧(bt f).length≤43:=by
 unfold bt
 rw [List.length_append,tI]
 have:=Fs f (bi f.Kind)
 have:=iY f.Kind
 omega
theorem K9 (u:List Nat) (hu:∀ c∈u,c < 256) (i:Nat) (hi:i < u.length):((UInt8.toNat (Array.getD (aI u).data ((i:Int)).toNat (UInt8.ofNat 0))):Int) = (u[i]:Int):=by
 rw [Int.toNat_natCast,DB u i hi]
 have:=hu _ (List.getElem_mem hi)
 simp [Nat.mod_eq_of_lt this]
theorem Ma (u:List Nat) (hu:∀ c∈u,c < 256) (hn:u.length≤50) (i:Nat) (hi:i < u.length) (hl:gW u[i] = true) (f:GFact) (b:List Int) (hb:b.length≤1000):cG (aI u) (i:Int) f b = cG (aI u) ((i+1:Nat):Int) f (b++dz f u[i]):=by
 have hsz:((aI u).size:Int) = (u.length:Int):=by rw [dZ]
 have b1:∀ v,aP v 1 b = some (b++am v 1):=fun v=>fm v (n:=1) (by omega) b (by omega)
 have b2:∀ v,aP v 2 b = some (b++am v 2):=fun v=>fm v (n:=2) (by omega) b (by omega)
 have b4:∀ v,aP v 4 b = some (b++am v 4):=fun v=>fm v (n:=4) (by omega) b (by omega)
 have b3:∀ v,aP v 3 b = some (b++am v 3):=fun v=>fm v (n:=3) (by omega) b (by omega)
 have b3':∀ v z,aP v 3 (b++am z 3) = some (b++am z 3++am v 3):=fun v z=>fm v (n:=3) (by omega) _ (by rw [List.length_append,av];omega)
 rw [nK,hsz,cA hi,bu,cond_true,an,an,K9 u hu i hi]
 simp only [b1,b2,b3,b4,b3',Option.bind_some,wT,bW hi (by omega)]
 have k83:=cR u[i] 83;have k80:=cR u[i] 80;have k84:=cR u[i] 84;have k72:=cR u[i] 72;have k67:=cR u[i] 67;have k65:=cR u[i] 65;have k82:=cR u[i] 82
 simp only [Int.cast_ofNat_Int] at k83 k80 k84 k72 k67 k65 k82
 unfold ak
 rw [k83,k80,k84,k72,k67,k65,k82]
 revert hl
 generalize u[i] = c
 intro hl
 obtain rfl | rfl | rfl | rfl | rfl | rfl | rfl:=et hl <;> first | rfl | (show cG _ _ _ (b++am f.Span.From 3++am f.Span.To 3) = cG _ _ _ (b++(am f.Span.From 3++am f.Span.To 3));rw [List.append_assoc])
theorem C5 (u:List Nat) (hu:∀ c∈u,c < 256) (hn:u.length≤50) (hl:∀ c∈u,gW c = true) (f:GFact):∀ (n i:Nat) (b:List Int),u.length = i+n→b.length≤8+6*i→cG (aI u) (i:Int) f b = some (b++(u.drop i).flatMap (dz f))
 | 0,i,b,hi,_=>by
  have:i = u.length:=by omega
  subst this
  rw [nK,show ((aI u).size:Int) = (u.length:Int) by rw [dZ],cV,cond_false,List.drop_length]
  simp
 | n+1,i,b,hi,hb=>by
  have hlt:i < u.length:=by omega
  have hc:=hl _ (List.getElem_mem hlt)
  have h6:=Ji (f:=f) hc
  have:=zO u[i]
  rw [Ma u hu hn i hlt hc f b (by omega),C5 u hu hn hl f n (i+1) _ (by omega) (by rw [List.length_append];omega),List.drop_eq_getElem_cons hlt,List.flatMap_cons,List.append_assoc]
theorem kw (f:GFact):jZ f = some (if aB f = true then bt f else []):=by
 rw [Ec,gP,Option.bind_some]
 cases hv:aB f with
 | false=>rfl
 | true =>
  have key:∀ g,ko g f = some ((am f.Issuer 1++am f.Number 2++am f.Version 1++am g 1++am f.Person 1++am f.Kind 1)++(bi f.Kind).flatMap (dz f)):=by
   intro g
   have b1:∀ v b,b.length≤100→aP v 1 b = some (b++am v 1):=fun v b hb=>fm v (n:=1) (by omega) b (by omega)
   have b2:∀ v b,b.length≤100→aP v 2 b = some (b++am v 2):=fun v b hb=>fm v (n:=2) (by omega) b (by omega)
   rw [yH,b1 _ _ (by simp),Option.bind_some,b2 _ _ (by simp [av]),Option.bind_some,b1 _ _ (by simp [av]),Option.bind_some,b1 _ _ (by simp [av]),Option.bind_some,b1 _ _ (by simp [av]),Option.bind_some,b1 _ _ (by simp [av]),Option.bind_some,i6,Option.bind_some]
   have:=C5 (bi f.Kind) (md _) (by have:=iY f.Kind;omega) (kK _) f _ 0 ([]++am f.Issuer 1++am f.Number 2++am f.Version 1++am g 1++am f.Person 1++am f.Kind 1) (Nat.zero_add _).symm (by simp [av])
   rw [List.nil_append] at this ⊢
   exact this
  show (bif f.Withdrawn then _ else _) = _
  rw [key,key]
  simp only [if_true]
  unfold bt kq iw
  cases f.Withdrawn <;> rfl
theorem qv {a b:List Int} (ha:aG a) (hb:aG b):n7 (aZ a) (aZ b) = decide (a = b):=by
 have e:∀ l:List Int,(aZ l).toList = l.map fun x=>UInt8.ofNat x.toNat:=fun l=>by rw [ByteArray.toList_eq];rfl
 have inj:∀ {a b:List Int},aG a→aG b→(a.map fun x=>UInt8.ofNat x.toNat) = (b.map fun x=>UInt8.ofNat x.toNat)→a = b:=by
  intro a
  induction a with
  | nil=>intro b _ _ h;cases b with
   | nil=>rfl
   | cons y b=>simp at h
  | cons x a ih =>
   intro b ha hb h
   cases b with
   | nil=>simp at h
   | cons y b =>
    rw [List.map_cons,List.map_cons] at h
    obtain ⟨h1,h2⟩:=List.cons.inj h
    obtain ⟨hx,ha⟩:=cT.1 ha
    obtain ⟨hy,hb⟩:=cT.1 hb
    have h3:=congrArg UInt8.toNat h1
    have g:∀ z:Int,0≤z∧z < 256→(UInt8.ofNat z.toNat).toNat = z.toNat:=fun z hz=>by
     have:z.toNat < 256:=by omega
     simp [Nat.mod_eq_of_lt this]
    rw [g x hx,g y hy] at h3
    rw [ih ha hb h2,show x = y by omega]
 show ((aZ a).toList == (aZ b).toList) = _
 rw [e,e]
 by_cases h:a = b
 ·subst h;simp
 ·rw [decide_eq_false h]
  exact beq_false_of_ne fun hh=>h (inj ha hb hh)
def Lz (b:List Int) (o:Option (GFact × List Int)):GFact × Int × Bool:=match o with
 | none=>jQ
 | some (f,r)=>if aB f = true∧bt f = b.take (b.length - r.length) then (f,(b.length:Int) - (r.length:Int),true) else jQ
theorem NV (b:List Int) (hb:aG b) (u:List Nat) (t2 f:GFact) (a:Nat) (ha:a≤b.length):cL b (a:Int) (aI u) (u.length:Int) t2 f = some (Lz b (some (f,b.drop a))):=by
 rw [qd,show ((aI u).size:Int) = (u.length:Int) by rw [dZ],cV,cond_false,kw,Option.bind_some,Bool.or_true,an,oo (by rw [bu,Bool.or_true]),oo (by rw [aT (by omega),Bool.or_true]),wY b (by omega),Int.toNat_natCast]
 show _ = some (if aB f = true∧bt f = b.take (b.length - (b.drop a).length) then (f,(b.length:Int) - ((b.drop a).length:Int),true) else jQ)
 rw [List.length_drop,show b.length - (b.length - a) = a by omega,show (b.length:Int) - ((b.length - a:Nat):Int) = (a:Int) by omega]
 cases hv:aB f with
 | false=>rfl
 | true =>
  have hl:=(wH f).1
  rw [if_pos rfl,eF.2 (by omega:((bt f).length:Int)≠0),cond_false,qv (nf f) (hb.take a)]
  by_cases he:bt f = b.take a
  ·rw [decide_eq_true he,if_pos ⟨rfl,he⟩];rfl
  ·rw [decide_eq_false he,if_neg (fun h=>he h.2)];rfl
theorem Mc (b:List Int) (hb:aG b) (u:List Nat) (hu:∀ c∈u,c < 256) (hn:u.length≤50) (i:Nat) (hi:i < u.length) (hl:gW u[i] = true) (t2 f:GFact) (a:Nat) (ha:a≤b.length) (hB:b.length≤1000000000000) :
  cL b (a:Int) (aI u) (i:Int) t2 f = if a+er u[i]≤b.length then cL b ((a+er u[i]:Nat):Int) (aI u) ((i+1:Nat):Int) t2 (ox u[i] f ((b.drop a).take (er u[i]))) else some jQ:=by
 have hsz:((aI u).size:Int) = (u.length:Int):=by rw [dZ]
 have k83:=cR u[i] 83;have k80:=cR u[i] 80;have k84:=cR u[i] 84;have k72:=cR u[i] 72;have k67:=cR u[i] 67;have k65:=cR u[i] 65;have k82:=cR u[i] 82
 simp only [Int.cast_ofNat_Int] at k83 k80 k84 k72 k67 k65 k82
 have hby:=K9 u hu i hi
 have e1:cL b (a:Int) (aI u) (i:Int) t2 f = dY b (a:Int) (aI u) (i:Int) (er u[i]:Int) t2 f:=by
  rw [qd,hsz,cA hi,bu,cond_true,an,an,hby]
  unfold ak
  rw [k80,k67,k65]
  unfold er
  by_cases h1:u[i] = 80
  ·simp [h1]
  by_cases h2:u[i] = 67
  ·simp [h2]
  by_cases h3:u[i] = 65
  ·simp [h3]
  ·simp [h1,h2,h3]
 have hz:=zO u[i]
 have e2:ac ((a:Int)+(er u[i]:Int)) = ((a+er u[i]:Nat):Int):=by rw [aA (by omega) (by omega)];omega
 rw [e1,xk,e2]
 by_cases hle:a+er u[i]≤b.length
 ·rw [aX (by omega),cond_false,if_pos hle,ab (by omega),ab (by omega),ab (by omega),ab (by omega),ab (by rw [hsz];omega),hby]
  have e3:af b ((a:Int)).toNat (((a+er u[i]:Nat):Int) - (a:Int)).toNat = (b.drop a).take (er u[i]):=by
   unfold af
   rw [Int.toNat_natCast];congr 1;omega
  rw [e3]
  have hx:aG ((b.drop a).take (er u[i])):=(hb.drop a).take _
  have hxl:((b.drop a).take (er u[i])).length = er u[i]:=by rw [List.length_take,List.length_drop];omega
  have hnum:cw ((b.drop a).take (er u[i])) = some (aC ((b.drop a).take (er u[i]))):=jz hx (by omega)
  have hp:∀ f',bH b (a:Int) (aI u) (i:Int) (er u[i]:Int) t2 f' = cL b ((a+er u[i]:Nat):Int) (aI u) ((i+1:Nat):Int) t2 f':=fun f'=>by
   rw [vG,e2,bW hi (by omega)]
  generalize hX:(b.drop a).take (er u[i]) = X at *
  rw [hnum]
  simp only [Option.bind_some,hp]
  unfold ak
  rw [k83,k80,k84,k72,k67,k65,k82]
  by_cases h80:u[i] = 80
  ·have h6:X.length = 6:=by rw [hxl,h80];rfl
   have s1:af X 0 3 = X.take 3:=rfl
   have s2:af X 3 ((X.length:Int) - 3).toNat = X.drop 3:=by
    unfold af;rw [List.take_of_length_le];rw [List.length_drop];omega
   rw [s1,s2,jz (hx.take 3) (by rw [List.length_take];omega),Option.bind_some,ab (by omega),ab (by omega),ab (by omega),jz (hx.drop 3) (by rw [List.length_drop];omega),Option.bind_some]
   have d83:decide (u[i] = 83) = false:=decide_eq_false (by omega)
   rw [d83,decide_eq_true h80,cond_false,cond_true]
   simp only [ox,h80]
   rfl
  ·rw [decide_eq_false h80]
   revert hl h80
   generalize u[i] = c
   intro hl h80
   obtain rfl | rfl | rfl | rfl | rfl | rfl | rfl:=et hl <;> first | rfl | (exact absurd rfl h80)
 ·rw [aT (by omega),cond_true,if_neg hle];rfl
theorem CN (b:List Int) (hb:aG b) (hB:b.length≤1000000000000) (u:List Nat) (hu:∀ c∈u,c < 256) (hn:u.length≤50) (hl:∀ c∈u,gW c = true) (t2:GFact):∀ (n i a:Nat) (f:GFact),u.length = i+n→a≤b.length→cL b (a:Int) (aI u) (i:Int) t2 f = some (Lz b (lR (u.drop i) f (b.drop a)))
 | 0,i,a,f,hi,ha=>by
  have:i = u.length:=by omega
  subst this
  rw [NV b hb u t2 f a ha,List.drop_length];rfl
 | n+1,i,a,f,hi,ha=>by
  have hlt:i < u.length:=by omega
  rw [Mc b hb u hu hn i hlt (hl _ (List.getElem_mem hlt)) t2 f a ha hB,List.drop_eq_getElem_cons hlt,lR,List.length_drop]
  by_cases hle:a+er u[i]≤b.length
  ·rw [if_pos hle,if_pos (by omega),CN b hb hB u hu hn hl t2 n (i+1) (a+er u[i]) _ (by omega) hle,List.drop_drop]
  ·rw [if_neg hle,if_neg (by omega)];rfl
theorem CB {b:List Int} (hb:aG b) (hB:b.length≤1000000000000):rg b = some (if 7≤b.length then Lz b (lR (bi (gD b 6 0)) (FL b) (b.drop 7)) else jQ):=by
 have g:∀ i,ac (gD b i 0) = gD b i 0:=fun i=>by have:=hb.gD i;exact aA (by omega) (by omega)
 rw [GM]
 by_cases h7:7≤b.length
 ·rw [aX (by omega),cond_false,if_pos h7,ab (by omega),ab (by omega),jz (hb.sub 1 2) (by unfold af;rw [List.length_take];omega),Option.bind_some,ab (by omega),ab (by omega),ab (by omega),ab (by omega),g,g,g,g,i6,Option.bind_some]
  exact CN b hb hB _ (md _) (by have:=iY (gD b 6 0);omega) (kK _) _ _ 0 7 (FL b) (Nat.zero_add _).symm h7
 ·rw [aT (by omega),cond_true,if_neg h7];rfl
theorem Rs {b:List Int} (hb:aG b) (h7:7≤b.length):b.take 7 = [gD b 0 0,gD b 1 0,gD b 2 0,gD b 3 0,gD b 4 0,gD b 5 0,gD b 6 0]:=by
 match b,h7 with
 | a0 :: a1 :: a2 :: a3 :: a4 :: a5 :: a6 :: r,_=>rfl
theorem Ip {b:List Int} (hb:aG b) (h7:7≤b.length):Lz b (lR (bi (gD b 6 0)) (FL b) (b.drop 7)) = Of b (gD b 4 0) (lR (bi (gD b 6 0)) (FL b) (b.drop 7)):=by
 cases hr:lR (bi (gD b 6 0)) (FL b) (b.drop 7) with
 | none=>rfl
 | some p =>
  obtain ⟨f,r⟩:=p
  obtain ⟨h1,_,h3,h4,h5,h6,h8,h9⟩:=wN _ _ _ f r (kK _) (AK _) (hb.drop 7) hr
  show (if aB f = true∧bt f = b.take (b.length - r.length) then _ else jQ) = (if 1 < gD b 4 0 then jQ else if aB f = true then _ else jQ)
  have hlen:b.length - r.length = 7+((bi (gD b 6 0)).flatMap (dz f)).length:=by
   have:=congrArg List.length h1
   rw [List.length_append,List.length_drop] at this
   omega
  have e1:b.take (b.length - r.length) = b.take 7++(bi (gD b 6 0)).flatMap (dz f):=by
   rw [hlen,List.take_add, ← h1,List.take_left']
   rfl
  have b4:=hb.gD 4
  have kind:f.Kind = gD b 6 0:=h9
  have hh:bt f = b.take (b.length - r.length)↔kq f = b.take 7:=by
   rw [e1]
   unfold bt
   rw [kind]
   constructor
   ·exact fun h=>(List.append_inj h (by rw [tI,List.length_take];omega)).1
   ·exact fun h=>by rw [h]
  have n2:am (aC (af b 1 2)) 2 = [gD b 1 0,gD b 2 0]:=by
   have e:af b 1 2 = [gD b 1 0,gD b 2 0]:=by
    match b,h7 with
    | a0 :: a1 :: a2 :: a3 :: a4 :: a5 :: a6 :: r,_=>rfl
   rw [e]
   exact mQ (b:=[gD b 1 0,gD b 2 0]) (cT.2 ⟨hb.gD 1,cT.2 ⟨hb.gD 2,pl⟩⟩)
  have o:∀ i,am (gD b i 0) 1 = [gD b i 0]:=fun i=>K6 (hb.gD i).1 (hb.gD i).2
  have wd:f.Withdrawn = ak (gD b 4 0) 1:=h6
  have hg:kq f = [gD b 0 0,gD b 1 0,gD b 2 0,gD b 3 0,iw f,gD b 5 0,gD b 6 0]:=by
   unfold kq
   rw [show f.Issuer = gD b 0 0 from h3,show f.Number = aC (af b 1 2) from h4,show f.Version = gD b 3 0 from h5,show f.Person = gD b 5 0 from h8,kind,n2,o,o,o,o,show am (iw f) 1 = [iw f] from K6 (by unfold iw;split <;> omega) (by unfold iw;split <;> omega)]
   rfl
  have key:([gD b 0 0,gD b 1 0,gD b 2 0,gD b 3 0,iw f,gD b 5 0,gD b 6 0] = [gD b 0 0,gD b 1 0,gD b 2 0,gD b 3 0,gD b 4 0,gD b 5 0,gD b 6 0])↔¬ 1 < gD b 4 0:=by
   constructor
   ·intro h
    have h0:iw f = gD b 4 0:=by
     have:=congrArg (fun l=>l.getD 4 0) h
     exact this
    rw [← h0];unfold iw;split <;> omega
   ·intro h
    have h0:iw f = gD b 4 0:=by
     unfold iw
     rw [wd]
     by_cases h1:gD b 4 0 = 1
     ·rw [aY.2 h1,if_pos rfl,h1]
     ·rw [eF.2 h1,if_neg (by simp)];omega
    rw [h0]
  have hk:bt f = b.take (b.length - r.length)↔¬ 1 < gD b 4 0:=by rw [hh,hg,Rs hb h7];exact key
  by_cases hw:1 < gD b 4 0
  ·rw [if_pos hw,if_neg (fun h=>hk.1 h.2 hw)]
  ·rw [if_neg hw]
   by_cases hv:aB f = true
   ·rw [if_pos hv,if_pos ⟨hv,hk.2 hw⟩]
   ·rw [if_neg hv,if_neg (fun h=>hv h.1)]
theorem DW {b:List Int} (hb:aG b) (hB:b.length≤1000000000000):rg b = some (xX b):=by
 rw [CB hb hB]
 unfold xX
 by_cases h7:7≤b.length
 ·rw [if_pos h7,if_pos h7,Ip hb h7]
 ·rw [if_neg h7,if_neg h7]
theorem Oj {b:List Int} (hb:aG b) {f:GFact} {n:Int} (h:xX b = (f,n,true)):aB f = true∧0≤n∧n≤(b.length:Int)∧bt f = b.take n.toNat:=by
 unfold xX at h
 split at h
 ·next h7 =>
  rw [← Ip hb h7] at h
  revert h
  cases hr:lR (bi (gD b 6 0)) (FL b) (b.drop 7) with
  | none=>intro h;cases h
  | some p =>
   obtain ⟨f',r⟩:=p
   intro h
   obtain ⟨h1,_⟩:=wN _ _ _ f' r (kK _) (AK _) (hb.drop 7) hr
   have hl:r.length≤b.length:=by
    have:=congrArg List.length h1
    rw [List.length_append,List.length_drop] at this
    omega
   have h:(if aB f' = true∧bt f' = b.take (b.length - r.length) then (f',(b.length:Int) - (r.length:Int),true) else jQ) = (f,n,true):=h
   split at h
   ·next hv =>
    cases h
    refine ⟨hv.1,by omega,by omega, ?_⟩
    rw [hv.2];congr 1;omega
   ·cases h
 ·cases h
end Go.Ax
