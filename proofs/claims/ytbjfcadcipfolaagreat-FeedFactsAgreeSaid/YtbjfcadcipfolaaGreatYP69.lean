import Derived.Test.YtbjfcadcipfolaaGreatYP68
set_option linter.all false
/- The bytes of a fact;the order of facts;what merging gives, whatever the order. -/
set_option maxRecDepth 100000
namespace Go.Ax
theorem Cl {n:Nat} (hn:n≤8) (l:List Int) (hl:l.length≤100):∀ (m i:Nat) (b:List Int),l.length = i+m→b.length≤1000+8*i→bR (n:Int) l (l.length:Int) (i:Int) b = some (b++(l.drop i).flatMap fun v=>am v n)
 | 0,i,b,hi,hb=>by
  have:i = l.length:=by omega
  subst this
  rw [jg,cV,cond_false,List.drop_length]
  simp
 | m+1,i,b,hi,hb=>by
  have hlt:i < l.length:=by omega
  rw [jg]
  simp only [cA hlt,bu,cond_true,an,Bool.or_true,cd hlt,bW hlt (by omega)]
  rw [show ac ((n:Int) - 1) = (n:Int) - 1 from aA (by omega) (by omega)]
  have:=sW (fun k b=>bp (n:Int) l[i] k l (l.length:Int) (i:Int) b) l[i] (fun b=>bR (n:Int) l (l.length:Int) ((i+1:Nat):Int) b) (fun b=>by
   show bp _ _ (-1) _ _ _ b = _
   rw [gN,aX (by omega),cond_false,bW hlt (by omega)]) (fun k b hk hb=>by
   show bp _ _ (k:Int) _ _ _ b = bp _ _ ((k:Int) - 1) _ _ _ _
   rw [gN,bu,cond_true,GV k hk,ab (by omega),ab (by omega),ab (by omega),wR _ hk,wQ k hk]) n b hn (by omega)
  refine Eq.trans this ?_
  show bR _ _ _ _ _ = _
  rw [Cl hn l hl m (i+1) _ (by omega) (by rw [List.length_append,av];omega),List.drop_eq_getElem_cons hlt,List.flatMap_cons,List.append_assoc]
theorem iC {n:Nat} (hn:n≤8) (l:List Int) (hl:l.length≤100) (b:List Int) (hb:b.length≤1000):aD (n:Int) l b = some (b++l.flatMap fun v=>am v n):=by
 rw [s8]
 exact Cl hn l hl l.length 0 b (by omega) (by omega)
theorem Kk (u:List Nat) (hu:∀ c∈u,c < 128) (i:Nat) (hi:i < u.length) (hl:gW u[i] = true) (f:GFact) (b:List Int) (hb:b.length≤1000):bj f b (aI u) (i:Int) = bj f (b++dz f u[i]) (aI u) ((i+1:Nat):Int):=by
 obtain ⟨r1,r2⟩:=CG u hu i hi
 have hlt:Nat.blt i (aI u).size = true:=by rw [dZ];simpa using hi
 have b1:∀ v,aD 1 [v] b = some (b++am v 1):=fun v=>by have:=iC (n:=1) (by omega) [v] (by simp) b hb;rw [List.flatMap_cons,List.flatMap_nil,List.append_nil] at this;exact this
 have b2:∀ v,aD 2 [v] b = some (b++am v 2):=fun v=>by have:=iC (n:=2) (by omega) [v] (by simp) b hb;rw [List.flatMap_cons,List.flatMap_nil,List.append_nil] at this;exact this
 have b4:∀ v,aD 4 [v] b = some (b++am v 4):=fun v=>by have:=iC (n:=4) (by omega) [v] (by simp) b hb;rw [List.flatMap_cons,List.flatMap_nil,List.append_nil] at this;exact this
 have b3:∀ v z,aD 3 [v,z] b = some (b++(am v 3++am z 3)):=fun v z=>by have:=iC (n:=3) (by omega) [v,z] (by simp) b hb;rw [List.flatMap_cons,List.flatMap_cons,List.flatMap_nil,List.append_nil] at this;exact this
 rw [oL,Int.toNat_natCast,hlt,cond_true,ab rfl,r1,r2]
 simp only [b1,b2,b3,b4,Option.bind_some]
 have k83:=cR u[i] 83;have k80:=cR u[i] 80;have k84:=cR u[i] 84;have k72:=cR u[i] 72;have k67:=cR u[i] 67;have k65:=cR u[i] 65;have k82:=cR u[i] 82
 simp only [Int.cast_ofNat_Int] at k83 k80 k84 k72 k67 k65 k82
 unfold ak
 rw [k83,k80,k84,k72,k67,k65,k82]
 revert hl
 generalize u[i] = c
 intro hl
 obtain rfl | rfl | rfl | rfl | rfl | rfl | rfl:=et hl <;> rfl
theorem AX (u:List Nat) (hu:∀ c∈u,c < 128) (hn:u.length≤50) (hl:∀ c∈u,gW c = true) (f:GFact):∀ (n i:Nat) (b:List Int),u.length = i+n→b.length≤8+6*i→bj f b (aI u) (i:Int) = some (b++(u.drop i).flatMap (dz f))
 | 0,i,b,hi,_=>by
  have:i = u.length:=by omega
  subst this
  have hlt:Nat.blt u.length (aI u).size = false:=by
   rw [dZ]
   cases hc:Nat.blt u.length u.length with
   | false=>rfl
   | true=>rw [Nat.blt_eq] at hc;omega
  rw [oL,Int.toNat_natCast,hlt,cond_false,List.drop_length]
  simp
 | n+1,i,b,hi,hb=>by
  have hlt:i < u.length:=by omega
  have hc:=hl _ (List.getElem_mem hlt)
  have h6:=Ji (f:=f) hc
  have:=zO u[i]
  rw [Kk u hu i hlt hc f b (by omega),AX u hu hn hl f n (i+1) _ (by omega) (by rw [List.length_append];omega),List.drop_eq_getElem_cons hlt,List.flatMap_cons,List.append_assoc]
theorem vV (f:GFact):rP f = some (if aB f = true then bt f else []):=by
 rw [GJ,jc,Option.bind_some]
 cases hv:aB f with
 | false=>rfl
 | true =>
  have key:∀ g,lE g f = some ((am f.Issuer 1++am f.Number 2++am f.Version 1++am g 1++am f.Person 1++am f.Kind 1)++(bi f.Kind).flatMap (dz f)):=by
   intro g
   have b1:aD 1 [f.Issuer] [] = some (am f.Issuer 1):=by have:=iC (n:=1) (by omega) [f.Issuer] (by simp) [] (by simp);rw [List.flatMap_cons,List.flatMap_nil,List.append_nil] at this;exact this
   have b2:aD 2 [f.Number] (am f.Issuer 1) = some (am f.Issuer 1++am f.Number 2):=by have:=iC (n:=2) (by omega) [f.Number] (by simp) (am f.Issuer 1) (by simp [av]);rw [List.flatMap_cons,List.flatMap_nil,List.append_nil] at this;exact this
   have b3:aD 1 [f.Version,g,f.Person,f.Kind] (am f.Issuer 1++am f.Number 2) = some (am f.Issuer 1++am f.Number 2++(am f.Version 1++(am g 1++(am f.Person 1++am f.Kind 1)))):=by
    have:=iC (n:=1) (by omega) [f.Version,g,f.Person,f.Kind] (by simp) (am f.Issuer 1++am f.Number 2) (by simp [av])
    rw [List.flatMap_cons,List.flatMap_cons,List.flatMap_cons,List.flatMap_cons,List.flatMap_nil,List.append_nil] at this
    exact this
   rw [An,b1,Option.bind_some,b2,Option.bind_some,b3,Option.bind_some,mH,Option.bind_some]
   have:=AX (bi f.Kind) (uT _) (by have:=iY f.Kind;omega) (kK _) f _ 0 (am f.Issuer 1++am f.Number 2++(am f.Version 1++(am g 1++(am f.Person 1++am f.Kind 1)))) (Nat.zero_add _).symm (by simp [av])
   rw [List.drop_zero] at this
   refine Eq.trans this ?_
   simp only [List.append_assoc]
  show (bif f.Withdrawn then _ else _) = _
  rw [key,key]
  simp only [if_true]
  unfold bt kq iw
  cases f.Withdrawn <;> rfl
theorem CA:∀ {a b:List Int},aG a→aG b→(dm a b < 0↔bN b a = false)
 | [],[],_,_=>by simp [dm,Lib.compareBytes,bN]
 | [],_ :: _,_,_=>by simp [dm,Lib.compareBytes,bN]
 | _ :: _,[],_,_=>by simp [dm,Lib.compareBytes,bN]
 | x :: a,y :: b,ha,hb=>by
  obtain ⟨hx,ha⟩:=cT.1 ha
  obtain ⟨hy,hb⟩:=cT.1 hb
  have ih:=CA ha hb
  have e:bN (y :: b) (x :: a) = (aa (y < x)||(ak y x&&bN b a)):=rfl
  rw [e]
  unfold dm at ih ⊢
  simp only [List.map_cons,Lib.compareBytes]
  by_cases h:x < y
  ·rw [if_pos ((rO hx hy).2 h),aX (by omega),eF.2 (by omega)]
   simp
  ·rw [if_neg (fun e=>h ((rO hx hy).1 e))]
   by_cases h':y < x
   ·rw [if_pos ((rO hy hx).2 h'),aT h']
    simp
   ·rw [if_neg (fun e=>h' ((rO hy hx).1 e)),ih,aX h',aY.2 (by omega)]
    simp
def dO (a b:GFact):Prop:=bN (bt b) (bt a) = false
instance (a b:GFact):Decidable (dO a b):=inferInstanceAs (Decidable (bN (bt b) (bt a) = false))
theorem gf (a:GFact):¬ dO a a:=fun h=>by unfold dO at h;rw [jr] at h;cases h
theorem mm {a b c:GFact} (h:dO a b) (h':dO b c):dO a c:=by
 unfold dO at *
 obtain ⟨h1,h2⟩:=uf.1 h
 obtain ⟨h3,h4⟩:=uf.1 h'
 refine uf.2 ⟨nm h1 h3,fun e=>?_⟩
 rw [e] at h3
 exact h2 (mS h3 h1)
theorem cr {u:Bool} {x l h:Int} (hf:bK u x l h = true) (h0:l≤1) (hl:0≤l) (hh:0≤h):0≤x∧x≤h∧(u = false→x = 0):=by
 unfold bK at hf
 cases u with
 | true =>
  rw [if_pos rfl,uM] at hf
  exact ⟨by omega,by omega,fun e=>by cases e⟩
 | false =>
  rw [if_neg (by simp)] at hf
  have:x = 0:=by simpa [ak] using hf
  exact ⟨by omega,by omega,fun _=>this⟩
theorem Aa {n:Nat} {x y:Int} (hx:0≤x∧x < 256 ^ n) (hy:0≤y∧y < 256 ^ n) (h:am x n = am y n):x = y:=by
 have h1:=oZ x n
 have h2:=oZ y n
 rw [h] at h1
 rw [Int.emod_eq_of_lt hx.1 hx.2] at h1
 rw [Int.emod_eq_of_lt hy.1 hy.2] at h2
 rw [← h1,h2]
theorem jK {x y:Int} (hx:0≤x∧x < 256) (hy:0≤y∧y < 256) (h:am x 1 = am y 1):x = y:=Aa (n:=1) hx hy h
theorem Hw {x y:Int} (hx:0≤x∧x < 65536) (hy:0≤y∧y < 65536) (h:am x 2 = am y 2):x = y:=Aa (n:=2) hx hy h
theorem IZ {x y:Int} (hx:0≤x∧x < 16777216) (hy:0≤y∧y < 16777216) (h:am x 3 = am y 3):x = y:=Aa (n:=3) hx hy h
theorem O3 {x y:Int} (hx:0≤x∧x < 4294967296) (hy:0≤y∧y < 4294967296) (h:am x 4 = am y 4):x = y:=Aa (n:=4) hx hy h
theorem AP {T:Type} {p q:Nat→List T}:∀ {u:List Nat},(∀ c∈u,(p c).length = (q c).length)→u.flatMap p = u.flatMap q→∀ c∈u,p c = q c
 | [],_,_,c,hc=>by simp at hc
 | d :: u,hl,h,c,hc=>by
  rw [List.flatMap_cons,List.flatMap_cons] at h
  obtain ⟨h1,h2⟩:=List.append_inj h (hl d (by simp))
  rcases List.mem_cons.1 hc with rfl | hc
  ·exact h1
  ·exact AP (fun c hc=>hl c (by simp [hc])) h2 c hc
theorem MV (f g:GFact) (c:Nat):(dz f c).length = (dz g c).length:=by
 unfold dz
 repeat' split
 all_goals simp [av]
theorem xi {f:GFact} (h:aB f = true):1≤f.Kind∧f.Kind≤14:=by
 have h1:=((jD f).1 h).1
 by_cases hk:1≤f.Kind∧f.Kind≤14
 ·exact hk
 ·rw [jj hk] at h1;simp at h1
theorem NC {k:Int} (h:1≤k∧k≤14):80∈bi k:=by
 obtain rfl | rfl | rfl | rfl | rfl | rfl | rfl | rfl | rfl | rfl | rfl | rfl | rfl | rfl:=kinds h.1 h.2 <;> decide
theorem Ov {f g:GFact} (hf:aB f = true) (hg:aB g = true) (h:kq f = kq g) :
  f.Issuer = g.Issuer∧f.Number = g.Number∧f.Version = g.Version∧f.Withdrawn = g.Withdrawn∧f.Person = g.Person∧f.Kind = g.Kind:=by
 obtain ⟨_,f1,f2,f3,f4,_⟩:=(jD f).1 hf
 obtain ⟨_,g1,g2,g3,g4,_⟩:=(jD g).1 hg
 have fk:=xi hf
 have gk:=xi hg
 unfold kq at h
 obtain ⟨h,k6⟩:=List.append_inj h (by simp [av])
 obtain ⟨h,k5⟩:=List.append_inj h (by simp [av])
 obtain ⟨h,k4⟩:=List.append_inj h (by simp [av])
 obtain ⟨h,k3⟩:=List.append_inj h (by simp [av])
 obtain ⟨k1,k2⟩:=List.append_inj h (by simp [av])
 refine ⟨jK (by omega) (by omega) k1,Hw (by omega) (by omega) k2,jK (by omega) (by omega) k3, ?_,jK (by omega) (by omega) k5,jK (by omega) (by omega) k6⟩
 have:=jK (by unfold iw;split <;> omega) (by unfold iw;split <;> omega) k4
 unfold iw at this
 cases hw:f.Withdrawn <;> cases hw':g.Withdrawn <;> simp [hw,hw'] at this ⊢
theorem Mo {f g:GFact} (hf:aB f = true) (hg:aB g = true) (h:bt f = bt g):f = g:=by
 unfold bt at h
 obtain ⟨h1,h2⟩:=List.append_inj h (by rw [tI,tI])
 obtain ⟨e1,e2,e3,e4,e5,e6⟩:=Ov hf hg h1
 rw [← e6] at h2
 have hl:=AP (fun c _=>MV f g c) h2
 obtain ⟨_,_,_,_,_,fS,fT,fp,fH,fC,fA,fR,_⟩:=(jD f).1 hf
 obtain ⟨_,_,_,_,_,gS,gT,gp,gH,gC,gA,gR,_⟩:=(jD g).1 hg
 rw [← e6] at gS gT gH gC gA gR
 have fS':=cr fS (by omega) (by omega) (by omega)
 have gS':=cr gS (by omega) (by omega) (by omega)
 have fT':=cr fT (by omega) (by omega) (by omega)
 have gT':=cr gT (by omega) (by omega) (by omega)
 have fH':=cr fH (by omega) (by omega) (by omega)
 have gH':=cr gH (by omega) (by omega) (by omega)
 have fC':=cr fC (by omega) (by omega) (by omega)
 have gC':=cr gC (by omega) (by omega) (by omega)
 have fA':=cr fA (by omega) (by omega) (by omega)
 have gA':=cr gA (by omega) (by omega) (by omega)
 have fR':=cr fR (by omega) (by omega) (by omega)
 have gR':=cr gR (by omega) (by omega) (by omega)
 have hm:∀ c,cu f.Kind c = true→dz f c = dz g c:=fun c hc=>hl c (by unfold cu at hc;simpa using hc)
 have pS:f.State = g.State:=by
  cases hc:cu f.Kind 83 with
  | true=>exact jK (by omega) (by omega) (hm 83 hc)
  | false=>rw [fS'.2.2 hc,gS'.2.2 hc]
 have pT:f.Seat = g.Seat:=by
  cases hc:cu f.Kind 84 with
  | true=>exact jK (by omega) (by omega) (hm 84 hc)
  | false=>rw [fT'.2.2 hc,gT'.2.2 hc]
 have pH:f.Share = g.Share:=by
  cases hc:cu f.Kind 72 with
  | true=>exact jK (by omega) (by omega) (hm 72 hc)
  | false=>rw [fH'.2.2 hc,gH'.2.2 hc]
 have pC:f.Currency = g.Currency:=by
  cases hc:cu f.Kind 67 with
  | true=>exact Hw (by omega) (by omega) (hm 67 hc)
  | false=>rw [fC'.2.2 hc,gC'.2.2 hc]
 have pA:f.Amount = g.Amount:=by
  cases hc:cu f.Kind 65 with
  | true=>exact O3 (by omega) (by omega) (hm 65 hc)
  | false=>rw [fA'.2.2 hc,gA'.2.2 hc]
 have pR:f.Ref = g.Ref:=by
  cases hc:cu f.Kind 82 with
  | true=>exact jK (by omega) (by omega) (hm 82 hc)
  | false=>rw [fR'.2.2 hc,gR'.2.2 hc]
 have hspan:dz f 80 = dz g 80:=hl 80 (NC (xi hf))
 have hs:am f.Span.From 3++am f.Span.To 3 = am g.Span.From 3++am g.Span.To 3:=hspan
 obtain ⟨s1,s2⟩:=List.append_inj hs (by simp [av])
 have q1:=IZ (by omega) (by omega) s1
 have q2:=IZ (by omega) (by omega) s2
 obtain ⟨a1,a2,a3,a4,a5,a6,a7,⟨a8,a9⟩,a10,a11,a12,a13,a14⟩:=f
 obtain ⟨b1,b2,b3,b4,b5,b6,b7,⟨b8,b9⟩,b10,b11,b12,b13,b14⟩:=g
 simp only at e1 e2 e3 e4 e5 e6 pS pT pH pC pA pR q1 q2
 subst e1 e2 e3 e4 e5 e6 pS pT pH pC pA pR q1 q2
 rfl
def uI (a b:GFact):Int:=if a.Issuer < b.Issuer then -1 else if b.Issuer < a.Issuer then 1 else if a.Number < b.Number then -1 else if b.Number < a.Number then 1 else 0
def ct (a b:GFact):Prop:=a.Issuer < b.Issuer∨(a.Issuer = b.Issuer∧a.Number < b.Number)
def ee (a b:GFact):Prop:=a.Issuer = b.Issuer∧a.Number = b.Number
theorem lS (a b:GFact):(ct a b∧uI a b = -1)∨(ee a b∧uI a b = 0)∨(ct b a∧uI a b = 1):=by
 unfold uI ct ee
 by_cases h1:a.Issuer < b.Issuer
 ·left;simp [h1]
 by_cases h2:b.Issuer < a.Issuer
 ·right;right;simp [h1,h2]
 by_cases h3:a.Number < b.Number
 ·left;simp [h1,h2,h3];omega
 by_cases h4:b.Number < a.Number
 ·right;right;simp [h1,h2,h3,h4];omega
 ·right;left;simp [h1,h2,h3,h4];omega
theorem xl {a b c:GFact} (h:ct a b) (h':ct b c):ct a c:=by unfold ct at *; omega
theorem A3 (a:GFact):¬ ct a a:=by unfold ct;omega
theorem fM {a b:GFact} (h:ct a b):¬ ee a b:=by unfold ct ee at *; omega
theorem rE {a b:GFact} (h:ct a b):¬ ct b a:=by unfold ct at *; omega
theorem P7 {a b c:GFact} (h:ct a b) (h':ee b c):ct a c:=by unfold ct ee at *; omega
theorem Ld {a b c:GFact} (h:ee a b) (h':ct b c):ct a c:=by unfold ct ee at *; omega
theorem jo {a b:GFact} (h:ee a b):ee b a:=⟨h.1.symm,h.2.symm⟩
theorem wk {a b c:GFact} (h:ee a b) (h':ee b c):ee a c:=⟨h.1.trans h'.1,h.2.trans h'.2⟩
theorem zn (a:GFact):ee a a:=⟨rfl,rfl⟩
theorem A7 {a b:GFact} (ha:aB a = true) (hb:aB b = true):dO a b∨a = b∨dO b a:=by
 unfold dO
 cases h1:bN (bt b) (bt a) with
 | false=>exact .inl rfl
 | true=>cases h2:bN (bt a) (bt b) with
  | false=>exact .inr (.inr rfl)
  | true=>exact .inr (.inl (Mo ha hb (mS h2 h1)))
def eo (a b:GFact):GFact:=if dO a b then b else a
def iB (l:List GFact):Prop:=∀ f∈l,aB f = true
def oz (l:List GFact):Prop:=l.Pairwise ct
def bq:List GFact→List GFact→List GFact
 | [],b=>b
 | x :: a,[]=>x :: a
 | x :: a,y :: b=>if uI x y < 0 then x :: bq a (y :: b) else if 0 < uI x y then y :: bq (x :: a) b else eo x y :: bq a b
termination_by a b=>a.length+b.length
def jE (S:List GFact) (f:GFact):Prop:=f∈S∧aB f = true∧∀ g∈S,aB g = true→ee f g→¬ dO f g
structure bJ (S M:List GFact):Prop where
  asc:oz M
  mem:∀ f,f∈M↔jE S f
theorem bJ.valids {S M:List GFact} (h:bJ S M):iB M:=fun f hf=>((h.mem f).1 hf).2.1
theorem nZ {S S':List GFact} (h:∀ f,f∈S↔f∈S') (f:GFact):jE S f↔jE S' f:=by
 unfold jE
 rw [h f]
 simp only [h]
theorem bJ.congr {S S' M:List GFact} (h:bJ S M) (hs:∀ f,f∈S↔f∈S'):bJ S' M:=⟨h.asc,fun f=>(h.mem f).trans (nZ hs f)⟩
theorem F5:∀ {a b:List GFact},oz a→oz b→(∀ f,f∈a↔f∈b)→a = b
 | [],[],_,_,_=>rfl
 | [],y :: b,_,_,h=>by have:=(h y).2 (by simp);simp at this
 | x :: a,[],_,_,h=>by have:=(h x).1 (by simp);simp at this
 | x :: a,y :: b,ha,hb,h=>by
  unfold oz at ha hb
  rw [List.pairwise_cons] at ha hb
  have hxy:x = y:=by
   rcases List.mem_cons.1 ((h x).1 (by simp)) with e | hx
   ·exact e
   ·rcases List.mem_cons.1 ((h y).2 (by simp)) with e | hy
    ·exact e.symm
    ·exact (rE (ha.1 y hy) (hb.1 x hx)).elim
  subst hxy
  congr 1
  refine F5 ha.2 hb.2 fun f=>⟨fun hf=>?_,fun hf=>?_⟩
  ·rcases List.mem_cons.1 ((h f).1 (by simp [hf])) with e | hm
   ·subst e;exact (A3 _ (ha.1 f hf)).elim
   ·exact hm
  ·rcases List.mem_cons.1 ((h f).2 (by simp [hf])) with e | hm
   ·subst e;exact (A3 _ (hb.1 f hf)).elim
   ·exact hm
theorem bJ.uniq {S S' M M':List GFact} (h:bJ S M) (h':bJ S' M') (hs:∀ f,jE S f↔jE S' f):M = M' :=
 F5 h.asc h'.asc fun f=>(h.mem f).trans ((hs f).trans (h'.mem f).symm)
theorem qk {x:GFact} {S:List GFact} (hx:aB x = true) (h:∀ g∈S,ct x g) (f:GFact):jE (x :: S) f↔f = x∨jE S f:=by
 constructor
 ·rintro ⟨h1,h2,h3⟩
  rcases List.mem_cons.1 h1 with e | hm
  ·exact .inl e
  ·exact .inr ⟨hm,h2,fun g hg=>h3 g (by simp [hg])⟩
 ·rintro (rfl | ⟨h1,h2,h3⟩)
  ·refine ⟨by simp,hx,fun g hg _ he=>?_⟩
   rcases List.mem_cons.1 hg with e | hm
   ·subst e;exact gf _
   ·exact (fM (h g hm) he).elim
  ·refine ⟨by simp [h1],h2,fun g hg hv he=>?_⟩
   rcases List.mem_cons.1 hg with e | hm
   ·subst e;exact (fM (h f h1) (jo he)).elim
   ·exact h3 g hm hv he
theorem Mj {x y:GFact} {S:List GFact} (hx:aB x = true) (hy:aB y = true) (he:ee x y) (h:∀ g∈S,ct x g) (f:GFact):jE (x :: y :: S) f↔f = eo x y∨jE S f:=by
 have hno:∀ g∈S, ∀ z,ee x z→¬ ee z g:=fun g hg z hz hzg=>fM (h g hg) (wk hz hzg)
 constructor
 ·rintro ⟨h1,h2,h3⟩
  have k1:=h3 x (by simp) hx
  have k2:=h3 y (by simp) hy
  rcases List.mem_cons.1 h1 with e | hm
  ·subst e
   left
   have:=k2 he
   unfold eo
   rw [if_neg this]
  ·rcases List.mem_cons.1 hm with e | hm
   ·subst e
    left
    have:=k1 (jo he)
    unfold eo
    split
    ·rfl
    ·next hn =>
     rcases A7 hx hy with e | e | e
     ·exact (hn e).elim
     ·exact e.symm
     ·exact (this e).elim
   ·exact .inr ⟨hm,h2,fun g hg=>h3 g (by simp [hg])⟩
 ·rintro (rfl | ⟨h1,h2,h3⟩)
  ·unfold eo
   split
   ·next hl =>
    refine ⟨by simp,hy,fun g hg hv hi=>?_⟩
    rcases List.mem_cons.1 hg with e | hg
    ·subst e;intro hc;exact gf _ (mm hl hc)
    ·rcases List.mem_cons.1 hg with e | hg
     ·subst e;exact gf _
     ·exact (hno g hg y he hi).elim
   ·next hl =>
    refine ⟨by simp,hx,fun g hg hv hi=>?_⟩
    rcases List.mem_cons.1 hg with e | hg
    ·subst e;exact gf _
    ·rcases List.mem_cons.1 hg with e | hg
     ·subst e;exact hl
     ·exact (hno g hg x (zn x) hi).elim
  ·refine ⟨by simp [h1],h2,fun g hg hv hi=>?_⟩
   rcases List.mem_cons.1 hg with e | hg
   ·subst e;exact (hno f h1 g (zn g) (jo hi)).elim
   ·rcases List.mem_cons.1 hg with e | hg
    ·subst e;exact (hno f h1 g he (jo hi)).elim
    ·exact h3 g hg hv hi
theorem uq {x:GFact} {a:List GFact} (h:oz (x :: a)):(∀ g∈a,ct x g)∧oz a:=List.pairwise_cons.1 h
theorem uh:∀ (a b:List GFact),oz a→oz b→iB a→iB b→bJ (a++b) (bq a b)
 | [],b,_,hb,_,vb=>by
  rw [bq]
  refine ⟨hb,fun f=>?_⟩
  rw [List.nil_append]
  induction b with
  | nil=>simp [jE]
  | cons y b ih =>
   obtain ⟨h1,h2⟩:=uq hb
   rw [qk (vb y (by simp)) h1,List.mem_cons,ih h2 fun g hg=>vb g (by simp [hg])]
 | x :: a,[],ha,_,va,_=>by
  rw [bq,List.append_nil]
  refine ⟨ha,fun f=>?_⟩
  have key:∀ l:List GFact,oz l→iB l→(f∈l↔jE l f):=by
   intro l
   induction l with
   | nil=>intro _ _;simp [jE]
   | cons y b ih =>
    intro hb vb
    obtain ⟨h1,h2⟩:=uq hb
    rw [qk (vb y (by simp)) h1,List.mem_cons,ih h2 fun g hg=>vb g (by simp [hg])]
  exact key _ ha va
 | x :: a,y :: b,ha,hb,va,vb=>by
  obtain ⟨hxa,ha'⟩:=uq ha
  obtain ⟨hyb,hb'⟩:=uq hb
  have vx:=va x (by simp)
  have vy:=vb y (by simp)
  have va':iB a:=fun g hg=>va g (by simp [hg])
  have vb':iB b:=fun g hg=>vb g (by simp [hg])
  rw [bq]
  rcases lS x y with ⟨hc,e⟩ | ⟨hc,e⟩ | ⟨hc,e⟩
  ·rw [if_pos (by omega)]
   have ih:=uh a (y :: b) ha' hb va' vb
   have hall:∀ g∈a++y :: b,ct x g:=by
    intro g hg
    rcases List.mem_append.1 hg with hg | hg
    ·exact hxa g hg
    ·rcases List.mem_cons.1 hg with rfl | hg
     ·exact hc
     ·exact xl hc (hyb g hg)
   refine ⟨List.pairwise_cons.2 ⟨fun g hg=>hall g ((ih.mem g).1 hg).1,ih.asc⟩,fun f=>?_⟩
   rw [List.cons_append,qk vx hall,List.mem_cons,ih.mem]
  ·rw [if_neg (by omega),if_neg (by omega)]
   have ih:=uh a b ha' hb' va' vb'
   have hall:∀ g∈a++b,ct x g:=by
    intro g hg
    rcases List.mem_append.1 hg with hg | hg
    ·exact hxa g hg
    ·exact Ld hc (hyb g hg)
   have hgr:∀ g∈a++b,ct (eo x y) g:=by
    intro g hg
    unfold eo
    split
    ·exact Ld (jo hc) (hall g hg)
    ·exact hall g hg
   refine ⟨List.pairwise_cons.2 ⟨fun g hg=>hgr g ((ih.mem g).1 hg).1,ih.asc⟩,fun f=>?_⟩
   rw [nZ (S':=x :: y :: (a++b)) (fun f=>by simp only [List.mem_append,List.mem_cons,List.cons_append];constructor <;> (intro h;rcases h with h | h | h | h <;> simp [h])),Mj vx vy hc hall,List.mem_cons,ih.mem]
  ·rw [if_neg (by omega),if_pos (by omega)]
   have ih:=uh (x :: a) b ha hb' va vb'
   have hall:∀ g∈x :: a++b,ct y g:=by
    intro g hg
    rcases List.mem_append.1 hg with hg | hg
    ·rcases List.mem_cons.1 hg with rfl | hg
     ·exact hc
     ·exact xl hc (hxa g hg)
    ·exact hyb g hg
   refine ⟨List.pairwise_cons.2 ⟨fun g hg=>hall g ((ih.mem g).1 hg).1,ih.asc⟩,fun f=>?_⟩
   rw [nZ (S':=y :: (x :: a++b)) (fun f=>by simp only [List.mem_append,List.mem_cons,List.cons_append];constructor <;> (intro h;rcases h with h | h | h | h <;> simp [h])),qk vy hall,List.mem_cons,ih.mem]
termination_by a b=>a.length+b.length
theorem C7 (g:GFact) (hg:aB g = true):∀ A:List GFact, ∃ m,(m = g∨m∈A)∧aB m = true∧ee g m∧¬ dO m g∧∀ h∈A,aB h = true→ee g h→¬ dO m h
 | []=>⟨g, .inl rfl,hg,zn g,gf g,fun h hh=>by simp at hh⟩
 | x :: A=>by
  obtain ⟨m,h1,h2,h3,h4,h5⟩:=C7 g hg A
  by_cases hc:aB x = true∧ee g x∧dO m x
  ·obtain ⟨c1,c2,c3⟩:=hc
   refine ⟨x, .inr (by simp),c1,c2,fun hl=>h4 (mm c3 hl),fun h hh hv hi hl=>?_⟩
   rcases List.mem_cons.1 hh with rfl | hh
   ·exact gf _ hl
   ·exact h5 h hh hv hi (mm c3 hl)
  ·refine ⟨m,h1.imp id fun h=>by simp [h],h2,h3,h4,fun h hh hv hi hl=>?_⟩
   rcases List.mem_cons.1 hh with rfl | hh
   ·exact hc ⟨hv,hi,hl⟩
   ·exact h5 h hh hv hi hl
theorem wO {A M B:List GFact} (h:bJ A M) (f:GFact):jE (M++B) f↔jE (A++B) f:=by
 have hMA:∀ g∈M,g∈A:=fun g hg=>((h.mem g).1 hg).1
 constructor
 ·rintro ⟨h1,h2,h3⟩
  refine ⟨?_,h2,fun g hg hv hi hl=>?_⟩
  ·rcases List.mem_append.1 h1 with h1 | h1
   ·exact List.mem_append_left _ (hMA f h1)
   ·exact List.mem_append_right _ h1
  ·rcases List.mem_append.1 hg with hg | hg
   ·obtain ⟨m,m1,m2,m3,m4,m5⟩:=C7 g hv A
    have hmA:m∈A:=by rcases m1 with rfl | m1;exact hg;exact m1
    have hmM:m∈M:=(h.mem m).2 ⟨hmA,m2,fun k hk hkv hki=>m5 k hk hkv (wk m3 hki)⟩
    have k1:=h3 m (List.mem_append_left _ hmM) m2 (wk hi m3)
    rcases A7 hv m2 with e | e | e
    ·exact k1 (mm hl e)
    ·subst e;exact k1 hl
    ·exact m4 e
   ·exact h3 g (List.mem_append_right _ hg) hv hi hl
 ·rintro ⟨h1,h2,h3⟩
  refine ⟨?_,h2,fun g hg hv hi=>?_⟩
  ·rcases List.mem_append.1 h1 with h1 | h1
   ·exact List.mem_append_left _ ((h.mem f).2 ⟨h1,h2,fun g hg=>h3 g (List.mem_append_left _ hg)⟩)
   ·exact List.mem_append_right _ h1
  ·rcases List.mem_append.1 hg with hg | hg
   ·exact h3 g (List.mem_append_left _ (hMA g hg)) hv hi
   ·exact h3 g (List.mem_append_right _ hg) hv hi
theorem Jf (A B:List GFact) (f:GFact):f∈A++B↔f∈B++A:=by rw [List.mem_append,List.mem_append,or_comm]
theorem J2 {A M B:List GFact} (h:bJ A M) (f:GFact):jE (B++M) f↔jE (B++A) f :=
 (nZ (Jf B M) f).trans ((wO h f).trans (nZ (Jf A B) f))
theorem bJ.app {A B M M':List GFact} (h:bJ A M) (h':bJ B M'):bJ (A++B) (bq M M'):=by
 have:=uh M M' h.asc h'.asc h.valids h'.valids
 exact ⟨this.asc,fun f=>(this.mem f).trans ((wO h f).trans (J2 h' f))⟩
theorem bJ.one {f:GFact} (h:aB f = true):bJ [f] [f]:=by
 refine ⟨by simp [oz],fun g=>?_⟩
 rw [qk h (by simp)]
 simp [jE]
theorem bJ.nil:bJ [] []:=⟨by simp [oz],fun g=>by simp [jE]⟩
theorem bJ.skip {A M:List GFact} {f:GFact} (h:bJ A M) (hf:aB f = false):bJ (A++[f]) M:=by
 refine ⟨h.asc,fun g=>(h.mem g).trans ⟨fun ⟨h1,h2,h3⟩=>⟨by simp [h1],h2,fun k hk hv hi=>?_⟩,fun ⟨h1,h2,h3⟩=>⟨?_,h2,fun k hk=>h3 k (by simp [hk])⟩⟩⟩
 ·rcases List.mem_append.1 hk with hk | hk
  ·exact h3 k hk hv hi
  ·simp at hk;subst hk;rw [hf] at hv;cases hv
 ·rcases List.mem_append.1 h1 with h1 | h1
  ·exact h1
  ·simp at h1;subst h1;rw [hf] at h2;cases h2
def dK (l:List GFact):List GFact:=l.foldl (fun out f=>if aB f then bq out [f] else out) []
theorem Li:∀ (l A out:List GFact),bJ A out→bJ (A++l) (l.foldl (fun out f=>if aB f then bq out [f] else out) out)
 | [],A,out,h=>by rw [List.append_nil];exact h
 | f :: l,A,out,h=>by
  rw [List.foldl_cons,show A++f :: l = (A++[f])++l by simp]
  refine Li l (A++[f]) _ ?_
  by_cases hf:aB f = true
  ·rw [if_pos hf];exact h.app (.one hf)
  ·rw [if_neg hf];exact h.skip (by simpa using hf)
theorem j5 (l:List GFact):bJ l (dK l):=Li l [] [] .nil
def AM (a b:List GFact):List GFact:=bq (dK a) (dK b)
theorem DL (a b:List GFact):bJ (a++b) (AM a b):=(j5 a).app (j5 b)
end Go.Ax
set_option linter.all false
/- Facts are merged: both texts give the same. -/
set_option maxRecDepth 100000
namespace Go.Ax
theorem vO {n z:Nat} (hn:n≤10000000) (hz:z≤1000):n*z≤140737488355328:=Nat.le_trans (Nat.mul_le_mul hn hz) (by decide)
theorem G8 {T R:Type} {out p s:List T} (hout:out = p++s) (z:Nat) (hz:z≤1000) (hl:out.length≤1000000) (x:T) (k:List T→Option R) :
  (gb (aa (0≤(p.length:Int)))<|gb (aa ((p.length:Int)≤(out.length:Int)))<|gb (aa (((af out 0 ((p.length:Int) - 0).toNat).length*z)≤140737488355328))<|gb (aa ((af out 0 ((p.length:Int) - 0).toNat).length≤140737488355328))<|gb (aa ((((af out 0 ((p.length:Int) - 0).toNat).length+1)*z)≤140737488355328))<|gb (aa (((af out 0 ((p.length:Int) - 0).toNat).length+1)≤140737488355328))<|gb (aa (0≤(p.length:Int)))<|gb (aa ((p.length:Int)≤(out.length:Int)))<|gb (aa ((out.length:Int)≤(out.length:Int)))<|gb (aa (((((af out 0 ((p.length:Int) - 0).toNat)++[x]).length+(af out (p.length:Int).toNat ((out.length:Int) - (p.length:Int)).toNat).length)*z)≤140737488355328))<|gb (aa ((((af out 0 ((p.length:Int) - 0).toNat)++[x]).length+(af out (p.length:Int).toNat ((out.length:Int) - (p.length:Int)).toNat).length)≤140737488355328))<|k (((af out 0 ((p.length:Int) - 0).toNat)++[x])++(af out (p.length:Int).toNat ((out.length:Int) - (p.length:Int)).toNat))) = k (p++x :: s):=by
 have hlen:out.length = p.length+s.length:=by rw [hout,List.length_append]
 have e1:af out 0 ((p.length:Int) - 0).toNat = p:=by rw [p6,hout,List.take_left' rfl]
 have e2:af out (p.length:Int).toNat ((out.length:Int) - (p.length:Int)).toNat = s:=by rw [jI out (by omega) (by omega),Int.toNat_natCast,hout,List.drop_left' rfl]
 rw [e1,e2,List.length_append,List.length_singleton,ab (by omega),ab (by omega),ab (vO (by omega) hz),ab (by omega),ab (vO (by omega) hz),ab (by omega),ab (by omega),ab (by omega),ab (by omega),ab (vO (by omega) hz),ab (by omega)]
 simp
theorem tU (x y:Int):pY x y = some (if x < y then -1 else if y < x then 1 else 0):=by
 have e:∀ z:Int,ub z = some false:=fun z=>by rw [Iz,bQ.2 rfl]
 rw [DS,e,e,Option.bind_some,Option.bind_some,cond_false,cond_false]
 by_cases h:x < y
 ·rw [aT h,cond_true,if_pos h]
 ·rw [aX h,cond_false,if_neg h]
  by_cases h':y < x
  ·rw [aT h',cond_true,if_pos h']
  ·rw [aX h',cond_false,if_neg h']
theorem Mm (l:List Int) (hl:l.length≤100):IH l = some ((l.find? fun x=>aV x 0).getD 0):=by
 rw [NL]
 have key:∀ (m i:Nat),l.length = i+m→rb 0 l (l.length:Int) (i:Int) = some (((l.drop i).find? fun x=>aV x 0).getD 0):=by
  intro m
  induction m with
  | zero =>
   intro i hi
   have:i = l.length:=by omega
   subst this
   rw [xM,cV,cond_false,List.drop_length]
   rfl
  | succ m ih =>
   intro i hi
   have hlt:i < l.length:=by omega
   rw [xM]
   simp only [cA hlt,bu,cond_true,an,Bool.or_true,cd hlt,bW hlt (by omega)]
   rw [List.drop_eq_getElem_cons hlt,List.find?_cons]
   cases hc:aV l[i] 0 with
   | true=>rfl
   | false=>exact ih (i+1) (by omega)
 exact key l.length 0 (by omega)
theorem vr (a b:GFact):iR a b = some (uI a b):=by
 rw [xb,tU,Option.bind_some,tU,Option.bind_some,Mm _ (by simp),Option.bind_some]
 congr 1
 unfold uI
 by_cases h1:a.Issuer < b.Issuer
 ·rw [if_pos h1,if_pos h1];rfl
 ·by_cases h2:b.Issuer < a.Issuer
  ·rw [if_neg h1,if_pos h2,if_neg h1,if_pos h2];rfl
  ·rw [if_neg h1,if_neg h2,if_neg h1,if_neg h2]
   by_cases h3:a.Number < b.Number
   ·rw [if_pos h3];rfl
   ·by_cases h4:b.Number < a.Number
    ·rw [if_neg h3,if_pos h4];rfl
    ·rw [if_neg h3,if_neg h4];rfl
theorem GT {a b:GFact} (ha:aB a = true) (hb:aB b = true):yx a b = some (decide (dO a b)):=by
 rw [IB,jc,Option.bind_some,ha,Bool.not_true,cond_false,jc,Option.bind_some,hb,Bool.not_true,cond_false,vV,Option.bind_some,vV,Option.bind_some,if_pos ha,if_pos hb,qS,Option.bind_some]
 congr 1
 show decide _ = decide _
 rw [decide_eq_decide]
 exact CA (nf a) (nf b)
theorem zb {a b:GFact} (ha:aB a = true) (hb:aB b = true):lC a b = some (eo a b):=by
 rw [At,GT ha hb,Option.bind_some]
 unfold eo
 by_cases h:dO a b
 ·rw [decide_eq_true h,if_pos h];rfl
 ·rw [decide_eq_false h,if_neg h];rfl
theorem mF:∀ (a b:List GFact),(bq a b).length≤a.length+b.length
 | [],b=>by rw [bq];simp
 | x :: a,[]=>by rw [bq];simp
 | x :: a,y :: b=>by
  have h1:=mF a (y :: b)
  have h2:=mF (x :: a) b
  have h3:=mF a b
  rw [bq]
  simp only [List.length_cons] at h1 h2 h3 ⊢
  split
  ·simp only [List.length_cons];omega
  ·split
   ·simp only [List.length_cons];omega
   ·simp only [List.length_cons];omega
termination_by a b=>a.length+b.length
theorem IA {T:Type} (x:T) (a:List T):af (x :: a) 1 (((x :: a).length:Int) - 1).toNat = a:=by
 unfold af
 rw [List.drop_succ_cons,List.drop_zero,List.take_of_length_le (by simp)]
theorem Fu {a b out:List GFact} (h:a = []∨b = []) (hn:out.length+a.length+b.length≤1000000):dE a b out = some (out++a++b):=by
 have hc:(bif aa (0 < (a.length:Int)) then aa (0 < (b.length:Int)) else false) = false:=by
  rw [cc]
  rcases h with rfl | rfl <;> simp [aa]
 rw [oT,hc,cond_false,ab (by omega),ab (by omega),ab (by rw [List.length_append];omega),ab (by rw [List.length_append];omega)]
theorem re:∀ (a b out:List GFact),iB a→iB b→out.length+a.length+b.length≤1000000→dE a b out = some (out++bq a b)
 | [],b,out,_,_,hn=>by rw [Fu (.inl rfl) hn,bq];simp
 | x :: a,[],out,_,_,hn=>by rw [Fu (.inr rfl) hn,bq];simp
 | x :: a,y :: b,out,va,vb,hn=>by
  have vx:=va x (by simp)
  have vy:=vb y (by simp)
  have va':iB a:=fun g hg=>va g (by simp [hg])
  have vb':iB b:=fun g hg=>vb g (by simp [hg])
  have la:(x :: a).length = a.length+1:=rfl
  have lb:(y :: b).length = b.length+1:=rfl
  rw [la,lb] at hn
  have i1:=re a (y :: b) (out++[x]) va' vb (by rw [List.length_append,List.length_singleton,lb];omega)
  have i2:=re (x :: a) b (out++[y]) va vb' (by rw [List.length_append,List.length_singleton,la];omega)
  have i3:=re a b (out++[eo x y]) va' vb' (by rw [List.length_append,List.length_singleton];omega)
  rw [oT,cc,aT (p:=(0:Int) < ((x :: a).length:Int)) (by omega),aT (p:=(0:Int) < ((y :: b).length:Int)) (by omega),Bool.and_self,cond_true,an,an]
  show ((iR x y).bind _) = _
  rw [vr,Option.bind_some,IA,IA,bq]
  by_cases h:uI x y < 0
  ·rw [aT h,cond_true,if_pos h,an,ab (by omega),ab (by omega),ab (by omega),ab (by omega)]
   refine Eq.trans i1 ?_
   simp
  ·rw [aX h,cond_false,if_neg h]
   by_cases h':0 < uI x y
   ·rw [aT h',cond_true,if_pos h',an,ab (by omega),ab (by omega),ab (by omega),ab (by omega)]
    refine Eq.trans i2 ?_
    simp
   ·rw [aX h',cond_false,if_neg h',an,an]
    show ((lC x y).bind _) = _
    rw [zb vx vy,Option.bind_some,ab (by omega),ab (by omega),ab (by omega),ab (by omega),ab (by omega),ab (by omega)]
    refine Eq.trans i3 ?_
    simp
termination_by a b=>a.length+b.length
theorem sy {a b:List GFact} (va:iB a) (vb:iB b) (hn:a.length+b.length≤1000000):ow a b = some (bq a b):=by
 rw [CF,re a b [] va vb (by simpa using hn),List.nil_append]
theorem FA (l:List GFact) (f:GFact):dK (l++[f]) = if aB f = true then bq (dK l) [f] else dK l:=by
 unfold dK
 rw [List.foldl_append]
 rfl
theorem iH (l:List GFact):(dK l).length≤l.length:=by
 have key:∀ (l out:List GFact),(l.foldl (fun out f=>if aB f then bq out [f] else out) out).length≤out.length+l.length:=by
  intro l
  induction l with
  | nil=>intro out;simp
  | cons f l ih =>
   intro out
   rw [List.foldl_cons]
   refine Nat.le_trans (ih _) ?_
   split
   ·have:=mF out [f]
    simp only [List.length_cons,List.length_nil] at this ⊢; omega
   ·simp only [List.length_cons];omega
 have:=key l []
 simpa [dK] using this
theorem Nl {f:GFact} (h:aB f = true):iB [f]:=fun g hg=>by rw [List.mem_singleton] at hg;rw [hg];exact h
theorem oG (l:List GFact) (hn:l.length≤400000):jp l = some (dK l):=by
 rw [ya]
 have key:∀ (m i:Nat),l.length = i+m→dW l (l.length:Int) (i:Int) (dK (l.take i)) = some (dK l):=by
  intro m
  induction m with
  | zero =>
   intro i hi
   have:i = l.length:=by omega
   subst this
   rw [lU,cV,cond_false,List.take_length]
  | succ m ih =>
   intro i hi
   have hlt:i < l.length:=by omega
   have ht:l.take (i+1) = l.take i++[l[i]]:=(List.take_append_getElem hlt).symm
   have ih':=ih (i+1) (by omega)
   rw [ht,FA] at ih'
   have hlen:(dK (l.take i)).length≤i:=Nat.le_trans (iH _) (by rw [List.length_take];omega)
   rw [lU]
   simp only [cA hlt,bu,cond_true,an,Bool.or_true,cd hlt,bW hlt (by omega)]
   rw [jc,Option.bind_some]
   cases hv:aB l[i] with
   | false=>rw [hv,if_neg (by simp)] at ih'; exact ih'
   | true =>
    rw [hv,if_pos rfl] at ih'
    rw [cond_true,sy (j5 _).valids (Nl hv) (by simp;omega),Option.bind_some]
    exact ih'
 exact key l.length 0 (by omega)
theorem C4 (a b:List GFact):AM a b = dK (a++b):=(DL a b).uniq (j5 (a++b)) fun _=>Iff.rfl
theorem BX (a b:List GFact) (ha:a.length≤400000) (hb:b.length≤400000):sI a b = some (dK (a++b)):=by
 have h1:=iH a
 have h2:=iH b
 rw [Cn,oG a ha,Option.bind_some,oG b hb,Option.bind_some,sy (j5 a).valids (j5 b).valids (by omega),Option.bind_some, ← C4]
 rfl
def Hx (a b:GFact):Int:=if a.Issuer≠b.Issuer then a.Issuer - b.Issuer else a.Number - b.Number
theorem nB {f:GFact} (h:aB f = true):(0≤f.Issuer∧f.Issuer≤5)∧(1≤f.Number∧f.Number≤999)∧(1≤f.Version∧f.Version≤99)∧(1≤f.Person∧f.Person≤99):=by
 obtain ⟨_,h1,h2,h3,h4,_⟩:=(jD f).1 h
 exact ⟨h1,h2,h3,h4⟩
theorem zB {a b:GFact} (ha:aB a = true) (hb:aB b = true):o5 a b = some (Hx a b):=by
 have h1:=nB ha
 have h2:=nB hb
 rw [Kt,aA (by omega) (by omega),aA (by omega) (by omega)]
 unfold Hx
 by_cases h:a.Issuer = b.Issuer
 ·rw [bQ.2 h,if_neg (by simpa using h)];rfl
 ·rw [bS.2 h,if_pos h];rfl
theorem KM (a b:GFact):0 < Hx a b↔ct b a:=by
 unfold Hx ct
 split <;> omega
theorem BO (a b:GFact):Hx a b = 0↔ee a b:=by
 unfold Hx ee
 split <;> omega
theorem EU {a b:GFact} (ha:aB a = true) (hb:aB b = true) (he:ee a b):qY a b = some (decide (dO a b)):=by
 rw [GE,gP,Option.bind_some,ha,Bool.not_true,cond_false,gP,Option.bind_some,hb,Bool.not_true,cond_false,zB ha hb,Option.bind_some,(BO a b).2 he,bQ.2 rfl,cond_false,kw,Option.bind_some,kw,Option.bind_some,if_pos ha,if_pos hb]
 have va:=nB ha
 have vb:=nB hb
 have e:∀ l:List Int,ByteArray.toList (aZ l) = l.map fun x=>UInt8.ofNat x.toNat:=fun l=>by rw [ByteArray.toList_eq];rfl
 have hl:Op.bytesLess (ByteArray.toList (aZ (bt a))) (ByteArray.toList (aZ (bt b))) = decide (dO a b):=by
  rw [e,e,Bool.eq_iff_iff,sY (nf a) (nf b),decide_eq_true_eq]
  unfold dO
  rw [uf]
  exact ⟨fun ⟨h1,h2⟩=>⟨h1,fun e=>h2 e.symm⟩,fun ⟨h1,h2⟩=>⟨h1,fun e=>h2 e.symm⟩⟩
 by_cases hv:a.Version = b.Version
 ·rw [bQ.2 hv,cond_false,hl]
 ·rw [bS.2 hv,cond_true]
  congr 1
  show decide _ = decide _
  rw [decide_eq_decide]
  have key:∀ {f g:GFact},aB f = true→aB g = true→ee f g→f.Version < g.Version→dO f g:=by
   intro f g hf hg h hlt
   have vf:=nB hf
   have vg:=nB hg
   have form:∀ f:GFact,bt f = am f.Issuer 1++(am f.Number 2++((f.Version / 256 ^ 0) % 256 :: (am (iw f) 1++(am f.Person 1++(am f.Kind 1++(bi f.Kind).flatMap (dz f)))))):=fun f=>by
    unfold bt kq
    simp only [List.append_assoc]
    rfl
   have pre:∀ (p x y:List Int),bN (p++x) (p++y) = bN x y:=by
    intro p
    induction p with
    | nil=>intro x y;rfl
    | cons z p ih =>
     intro x y
     show (aa (z < z)||(ak z z&&bN (p++x) (p++y))) = _
     rw [aX (by omega),gn,Bool.false_or,Bool.true_and,ih]
   unfold dO
   rw [form f,form g,h.1,h.2,pre,pre]
   show (aa ((g.Version / 256 ^ 0) % 256 < (f.Version / 256 ^ 0) % 256)||(ak ((g.Version / 256 ^ 0) % 256) ((f.Version / 256 ^ 0) % 256)&&_)) = false
   have e1:(g.Version / 256 ^ 0) % 256 = g.Version:=by rw [Int.pow_zero,Int.ediv_one];omega
   have e2:(f.Version / 256 ^ 0) % 256 = f.Version:=by rw [Int.pow_zero,Int.ediv_one];omega
   rw [e1,e2,aX (by omega),eF.2 (by omega)]
   rfl
  constructor
  ·intro h;exact key ha hb he h
  ·intro h
   by_cases h':a.Version < b.Version
   ·exact h'
   ·exact (gf _ (mm h (key hb ha (jo he) (by omega)))).elim
theorem qL (f:GFact):∀ (p s:List GFact),(∀ g∈p,ct g f)→(∀ g∈s,ct f g)→bq (p++s) [f] = p++f :: s
 | [],[],_,_=>by simp [bq]
 | [],y :: s,_,hs=>by
  have h:=hs y (by simp)
  rw [List.nil_append,bq]
  rcases lS y f with ⟨hc,e⟩ | ⟨hc,e⟩ | ⟨hc,e⟩
  ·exact (rE h hc).elim
  ·exact (fM h (jo hc)).elim
  ·rw [if_neg (by omega),if_pos (by omega),bq]
   rfl
 | x :: p,s,hp,hs=>by
  have h:=hp x (by simp)
  rw [List.cons_append,bq]
  rcases lS x f with ⟨hc,e⟩ | ⟨hc,e⟩ | ⟨hc,e⟩
  ·rw [if_pos (by omega),qL f p s (fun g hg=>hp g (by simp [hg])) hs]
   rfl
  ·exact (fM h hc).elim
  ·exact (rE h hc).elim
theorem It:∀ l:List GFact,bq l [] = l
 | []=>by rw [bq]
 | x :: l=>by rw [bq]
theorem A4 (f q:GFact) (he:ee q f):∀ (p s:List GFact),(∀ g∈p,ct g f)→bq (p++q :: s) [f] = p++eo q f :: s
 | [],s,_=>by
  rw [List.nil_append,bq]
  rcases lS q f with ⟨hc,e⟩ | ⟨hc,e⟩ | ⟨hc,e⟩
  ·exact (fM hc he).elim
  ·rw [if_neg (by omega),if_neg (by omega),It];rfl
  ·exact (fM hc (jo he)).elim
 | x :: p,s,hp=>by
  have h:=hp x (by simp)
  rw [List.cons_append,bq]
  rcases lS x f with ⟨hc,e⟩ | ⟨hc,e⟩ | ⟨hc,e⟩
  ·rw [if_pos (by omega),A4 f q he p s (fun g hg=>hp g (by simp [hg]))]
   rfl
  ·exact (fM h hc).elim
  ·exact (rE h hc).elim
theorem LN {p:List GFact} {q:GFact} {s:List GFact} (h:oz (p++q :: s)):∀ g∈p,ct g q:=by
 intro g hg
 unfold oz at h
 rw [List.pairwise_append] at h
 exact h.2.2 g hg q (by simp)
theorem MJ (a b out:List GFact) (i:Int) (f:GFact) (hf:aB f = true) (vo:iB out) (ho:oz out) (hn:out.length≤900000):∀ (n:Nat) (p s:List GFact),out = p++s→p.length = n→(∀ g∈s,ct f g) →
  gO a b i (n:Int) out f = bf a b (ac (i+1)) (bq out [f]):=by
 intro n
 induction n with
 | zero =>
  intro p s hps hp hs
  have hp0:p = []:=List.eq_nil_of_length_eq_zero hp
  have ins:=G8 hps 112 (by omega) (by omega) f fun o=>bf a b (ac (i+1)) o
  rw [hp] at ins
  have hd:aa ((0:Int) < ((0:Nat):Int)) = false:=aX (by omega)
  rw [nz,hd]
  simp only [Bool.false_and,Bool.not_false,Bool.true_or,an,cond_false]
  refine Eq.trans ins ?_
  rw [hps,qL f p s (by rw [hp0];simp) hs]
 | succ n ih =>
  intro p s hps hp hs
  obtain ⟨p',q,hq⟩:∃ p' q,p = p'++[q]:=⟨p.dropLast,p.getLast (by intro e;rw [e] at hp;simp at hp),(List.dropLast_concat_getLast _).symm⟩
  have hp':p'.length = n:=by rw [hq] at hp;simpa using hp
  have hout:out = p'++q :: s:=by rw [hps,hq];simp
  have hlen:n < out.length:=by rw [hout,List.length_append,List.length_cons];omega
  have hget:gD out ((n:Int)).toNat (zS .GFact) = q:=by rw [cd hlen];simp [hout, ← hp']
  have hvq:aB q = true:=vo q (by rw [hout];simp)
  have hbef:∀ g∈p',ct g q:=LN (hout ▸ ho)
  have e:ac (((n+1:Nat):Int) - 1) = (n:Int):=by rw [aA (by omega) (by omega)];omega
  have hd:aa ((0:Int) < ((n+1:Nat):Int)) = true:=aT (by omega)
  have ins:=G8 hps 112 (by omega) (by omega) f fun o=>bf a b (ac (i+1)) o
  rw [hp] at ins
  rw [nz,e,hd,hget,bu,cA hlen,zB hvq hf]
  simp only [Bool.or_true,an,cond_true,Option.bind_some]
  by_cases hpos:0 < Hx q f
  ·rw [aT hpos,cond_true]
   refine ih p' (q :: s) hout hp' fun g hg=>?_
   rcases List.mem_cons.1 hg with rfl | hg
   ·exact (KM _ _).1 hpos
   ·exact hs g hg
  ·rw [aX hpos,cond_false]
   by_cases hz:ee q f
   ·rw [aY.2 ((BO q f).2 hz),cond_true,EU hvq hf hz,Option.bind_some]
    have hms:bq out [f] = p'++eo q f :: s:=by
     rw [hout]
     exact A4 f q hz p' s fun g hg=>P7 (hbef g hg) hz
    rw [hms]
    unfold eo
    by_cases hl:dO q f
    ·rw [decide_eq_true hl,cond_true,if_pos hl]
     have:List.set out ((n:Int)).toNat f = p'++f :: s:=by
      rw [Int.toNat_natCast,hout, ← hp',List.set_append_right _ _ (Nat.le_refl _)]
      simp
     rw [this]
    ·rw [decide_eq_false hl,cond_false,if_neg hl, ← hout]
   ·rw [eF.2 (fun h=>hz ((BO q f).1 h)),cond_false]
    have hqf:ct q f:=by
     rcases lS q f with ⟨hc,_⟩ | ⟨hc,_⟩ | ⟨hc,_⟩
     ·exact hc
     ·exact (hz hc).elim
     ·exact (hpos ((KM _ _).2 hc)).elim
    have hall:∀ g∈p,ct g f:=fun g hg=>by
     rw [hq] at hg
     rcases List.mem_append.1 hg with hg | hg
     ·exact xl (hbef g hg) hqf
     ·rw [List.mem_singleton] at hg;rw [hg];exact hqf
    rw [aT (p:=(0:Int)≤((n+1:Nat):Int)) (by omega)] at ins ⊢
    simp only [an] at ins ⊢
    refine Eq.trans ins ?_
    rw [hps,qL f p s hall hs]
theorem Cj (a b:List GFact) (ha:a.length≤400000) (hb:b.length≤400000):uO a b = some (dK (a++b)):=by
 rw [Ei]
 have hlen:ac ((a.length:Int)+(b.length:Int)) = ((a++b).length:Int):=by rw [aA (by omega) (by omega),List.length_append];omega
 have key:∀ (m i:Nat),(a++b).length = i+m→bf a b (i:Int) (dK ((a++b).take i)) = some (dK (a++b)):=by
  intro m
  induction m with
  | zero =>
   intro i hi
   have:i = (a++b).length:=by omega
   subst this
   rw [qg,hlen,cV,cond_false,List.take_length]
  | succ m ih =>
   intro i hi
   have hlt:i < (a++b).length:=by omega
   have hil:(a++b).length = a.length+b.length:=List.length_append
   have ht:(a++b).take (i+1) = (a++b).take i++[(a++b)[i]]:=(List.take_append_getElem hlt).symm
   have ih':=ih (i+1) (by omega)
   rw [ht,FA] at ih'
   have hl2:(dK ((a++b).take i)).length≤900000:=Nat.le_trans (iH _) (by rw [List.length_take];omega)
   have hm:=j5 ((a++b).take i)
   have item:∀ f,f = (a++b)[i]→iJ a b (i:Int) (dK ((a++b).take i)) f = some (dK (a++b)):=by
    rintro f rfl
    rw [xw,gP,Option.bind_some]
    cases hv:aB (a++b)[i] with
    | false =>
     rw [hv,if_neg (by simp)] at ih'
     rw [Bool.not_false,cond_true,bW hlt (by omega)]
     exact ih'
    | true =>
     rw [hv,if_pos rfl] at ih'
     rw [Bool.not_true,cond_false,MJ a b _ _ _ hv hm.valids hm.asc hl2 _ _ [] (by rw [List.append_nil]) rfl (by simp),bW hlt (by omega)]
     exact ih'
   rw [qg,hlen,cA hlt,cond_true]
   by_cases hia:i < a.length
   ·rw [cA hia,cond_true,bu,an,an,cd hia]
    exact item _ (List.getElem_append_left hia).symm
   ·have ew:ac ((i:Int) - (a.length:Int)) = ((i - a.length:Nat):Int):=by rw [aA (by omega) (by omega)];omega
    have hib:i - a.length < b.length:=by omega
    rw [aX (by omega),cond_false,ew,bu,an,cA hib,an,cd hib]
    exact item _ (List.getElem_append_right (by omega)).symm
 have:=key (a++b).length 0 (by omega)
 exact this
theorem xU (a:List GFact) (hn:a.length≤1000000):ky a a = some true:=by
 rw [yS,bQ.2 rfl,cond_false]
 have e:∀ b:Bool,NE b b = true:=fun b=>by cases b <;> rfl
 refine (D5 a (fun i=>cK a a i) (fun _=>false) none (some true) ?_ fun i hi=>?_).trans (by simp)
 ·show cK _ _ _ = _
  rw [mg,cV];rfl
 ·show cK _ _ _ = if (false:Bool) = true then none else cK a a ((i+1:Nat):Int)
  rw [if_neg (by simp),mg]
  simp only [cA hi,bu,cond_true,an,Bool.or_true,cd hi,bW hi (by omega)]
  simp only [gn,e,Bool.and_self,Bool.not_true,cond_false]
end Go.Ax
