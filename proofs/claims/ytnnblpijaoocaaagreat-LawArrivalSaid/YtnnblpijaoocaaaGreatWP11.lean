import Derived.Test.YtnnblpijaoocaaaGreatWP10
set_option linter.all false
/- Facts are made and merged: functions that end. -/
set_option maxRecDepth 100000
namespace Go.Ax
theorem LX (n:Int):En (fun y=>1≤y∧y≤9000) (td n):=by
 rw [Dg]
 refine iD (by decide) fun r _ _=>?_
 repeat' first
  | refine En.bif (fun _=>?_) (fun _=>?_)
  | (refine iD (by decide) fun q h1 h2=>.some ?_;rw [al (by omega) (by omega)];omega)
theorem P3 (a b:Int) (u:ByteArray) (hu:u.size≤1000) (r:GPensionhand_Fact) (t2:GFact):∀ (k:Nat) (i:Int) (f:GFact),(u.size:Int) - i≤k→0≤i→i≤(u.size:Int)→En (fun _=>True) (jO a b u i r t2 f):=by
 intro k
 induction k with
 | zero=>intro i f hk h0 h1;rw [ox];exact En.ifd (fun h=>by omega) fun _=>.some trivial
 | succ k ih =>
  intro i f hk h0 h1
  rw [ox]
  simp only [wR]
  refine En.ifd (fun hi=>?_) fun _=>.some trivial
  rw [al (n:=i+1) (by omega) (by omega)]
  refine En.gd h0 (En.gd hi ?_)
  repeat' first
   | exact ih _ _ (by omega) (by omega) (by omega)
   | exact En.some trivial
   | refine iD (by decide) fun _ _ _=>?_
   | refine En.bif (fun _=>?_) (fun _=>?_)
theorem Qv (r:GPensionhand_Fact):En (fun _=>True) (yM r):=by
 have p127:∀ a b t f,En (fun _=>True) (fQ a b r t f):=by
  intro a b t f
  rw [zy,kN,Option.bind_some]
  have:=ql f.Kind
  exact P3 a b _ (by rw [ao];omega) r t _ 0 f (Int.self_le_toNat _) (by omega) (by omega)
 rw [Hx]
 repeat' first
  | exact p127 _ _ _ _
  | refine iD (by decide) fun _ _ _=>?_
  | refine En.bif (fun _=>?_) (fun _=>?_)
  | refine En.bind (LX _) fun _ _=>?_
theorem Oc (n:Int) (B:Nat) (hB:B≤1000):∀ (k:Nat) (i:Int) (b:List Int),i+1≤k→i≤8→(b.length:Int)+(i+1)≤B→-1≤i→En (fun l:List Int=>l.length≤B) (i6 n i b):=by
 intro k
 induction k with
 | zero=>intro i b hk h1 h2 h3;rw [nk];exact En.ifd (fun h=>by omega) fun _=>.some (by omega)
 | succ k ih =>
  intro i b hk h1 h2 h3
  rw [nk]
  refine En.ifd (fun h=>?_) fun _=>.some (by omega)
  rw [al (n:=i - 1) (by omega) (by omega)]
  exact En.gd (yU _).1 (En.gd (by omega) (En.gd (by omega) (ih _ _ (by omega) (by omega) (by simp;omega) (by omega))))
theorem Rf (n size:Int) (b:List Int) (h0:0≤size) (h1:size≤8) (hb:b.length≤900):En (fun l:List Int=>(l.length:Int)≤b.length+size) (bh n size b):=by
 rw [Cp,al (n:=size - 1) (by omega) (by omega)]
 exact (Oc n (b.length+size).toNat (by omega) _ (size - 1) b (Int.self_le_toNat _) (by omega) (by omega) (by omega)).weak fun l hl=>by omega
theorem yO {α:Type} {Q:α→Prop} {n size:Int} {b:List Int} {f:List Int→Option α} (X:Nat) (hX:X≤800) (hb:b.length≤X) (h:0≤size∧size≤8) (hf:∀ y:List Int,(y.length:Int)≤X+size→En Q (f y)):En Q ((bh n size b).bind f) :=
 .bind (Rf n size b h.1 h.2 (by omega)) fun y hy=>hf y (by omega)
theorem Lk (u:ByteArray) (hu:u.size≤6) (f:GFact):∀ (k:Nat) (i:Int) (b:List Int),(u.size:Int) - i≤k→0≤i→i≤(u.size:Int)→(b.length:Int)≤8+6*i→En (fun _=>True) (iy u i f b):=by
 intro k
 induction k with
 | zero=>intro i b hk h0 h1 hb;rw [mJ];exact En.ifd (fun h=>by omega) fun _=>.some trivial
 | succ k ih =>
  intro i b hk h0 h1 hb
  rw [mJ]
  simp only [uc]
  refine En.ifd (fun hi=>?_) fun _=>.some trivial
  rw [al (n:=i+1) (by omega) (by omega)]
  refine En.gd h0 (En.gd hi ?_)
  repeat' first
   | exact ih _ _ (by omega) (by omega) (by omega) (by omega)
   | refine En.bif (fun _=>?_) (fun _=>?_)
   | refine yO (8+6*i).toNat (by omega) (by omega) (by decide) fun y _=>?_
   | refine yO (8+6*i+3).toNat (by omega) (by omega) (by decide) fun y _=>?_
theorem Ow (f:GFact):En (fun _=>True) (oo f):=by
 have p31:∀ g,En (fun _=>True) (jR g f):=by
  intro g
  rw [xX]
  refine yO 0 (by omega) (by simp) (by decide) fun y1 h1=>?_
  refine yO 1 (by omega) (by omega) (by decide) fun y2 h2=>?_
  refine yO 3 (by omega) (by omega) (by decide) fun y3 h3=>?_
  refine yO 4 (by omega) (by omega) (by decide) fun y4 h4=>?_
  refine yO 5 (by omega) (by omega) (by decide) fun y5 h5=>?_
  refine yO 6 (by omega) (by omega) (by decide) fun y6 h6=>?_
  rw [kN,Option.bind_some]
  have hu:(ab (dy f.Kind)).size≤6:=by rw [ao];exact ql _
  exact Lk _ hu f _ 0 y6 (Int.self_le_toNat _) (by omega) (by omega) (by omega)
 rw [Dq,jM,Option.bind_some]
 repeat' first
  | exact .some trivial
  | exact p31 _
  | refine En.bif (fun _=>?_) (fun _=>?_)
theorem Pz (a b:GFact):En (fun _=>True) (nA a b):=by
 rw [J1]
 exact En.bif (fun _=>.some trivial) fun _=>.some trivial
theorem PQ (a b:GFact):En (fun _=>True) (mY a b):=by
 rw [GC,jM,Option.bind_some,jM,Option.bind_some]
 repeat' first
  | exact .some trivial
  | refine En.bif (fun _=>?_) (fun _=>?_)
  | refine En.bind (Ow _) fun y _=>?_
  | refine En.bind (Pz _ _) fun y _=>?_
theorem md {T:Type} {l:List T} {n:Int} (h0:0≤n) (h:n≤(l.length:Int)):(aH l 0 (n - 0).toNat).length = n.toNat:=by rw [qx (by omega)];omega
theorem so {T:Type} {l:List T} {n:Int} (h0:0≤n) (h:n≤(l.length:Int)):(aH l n.toNat ((l.length:Int) - n).toNat).length = l.length - n.toNat:=by rw [qx (by omega)];omega
theorem IO (a b:List GFact) (ha:a.length+b.length≤900):En (fun o:List GFact=>o.length≤a.length+b.length) (jx a b):=by
 have key:∀ (k:Nat) (i:Int) (out:List GFact),(a.length:Int)+b.length - i≤k→0≤i→(out.length:Int)≤i→i≤(a.length:Int)+b.length→En (fun o:List GFact=>o.length≤a.length+b.length) (aU a b i out):=by
  intro k
  induction k with
  | zero =>
   intro i out hk h0 ho hi
   rw [oP,al (n:=(a.length:Int)+b.length) (by omega) (by omega)]
   exact En.ifd (fun h=>by omega) fun _=>.some (by omega)
  | succ k ih =>
   intro i out hk h0 ho hi
   have p3731:i < (a.length:Int)+b.length→∀ f,En (fun o:List GFact=>o.length≤a.length+b.length) (iC a b i out f):=by
    intro hlt f
    rw [uE,jM,Option.bind_some,al (n:=i+1) (by omega) (by omega)]
    refine En.bif (fun _=>ih _ _ (by omega) (by omega) (by omega) (by omega)) fun _=>?_
    have lp:∀ (m:Nat) (x:Int),x≤m→0≤x→x≤(out.length:Int)→En (fun o:List GFact=>o.length≤a.length+b.length) (gR a b i x out f):=by
     intro m
     induction m with
     | zero =>
      intro x hx hx0 hxl
      obtain rfl:x = 0:=by omega
      rw [mg]
      refine En.go (fun h=>by simp at h) (En.go (fun h=>by simp at h) (En.ifd (fun h=>by omega) fun _=>En.go (fun h=>by simp at h) (En.go (fun h=>by simp at h) (En.ifd (fun h=>by omega) fun _=>?_))))
      rw [md (by omega) hxl,so (by omega) hxl,al (n:=i+1) (by omega) (by omega)]
      simp only [List.length_append,List.length_singleton]
      rw [md (by omega) hxl]
      refine En.gd (by omega) (En.gd (by omega) (En.gd (by omega) (En.gd (by omega) (En.gd (by omega) (En.gd (by omega) (En.gd (by omega) (En.gd (by omega) (En.gd (by omega) (En.gd (by omega) (En.gd (by omega) (ih _ _ (by omega) (by omega) ?_ (by omega))))))))))))
      simp only [List.length_append,List.length_singleton]
      rw [md (by omega) hxl,so (by omega) hxl]
      omega
     | succ m ihm =>
      intro x hx hx0 hxl
      by_cases hz:x≤m
      ·exact ihm x hz hx0 hxl
      have hp:0 < x:=by omega
      rw [mg,al (n:=x - 1) (by omega) (by omega),al (n:=i+1) (by omega) (by omega)]
      have ins:En (fun o:List GFact=>o.length≤a.length+b.length) (gb (aa (0≤x))<|gb (aa (x≤(out.length:Int)))<|gb (aa (((aH out 0 (x - 0).toNat).length*112)≤140737488355328))<|gb (aa ((aH out 0 (x - 0).toNat).length≤140737488355328)) <|
        gb (aa ((((aH out 0 (x - 0).toNat).length+1)*112)≤140737488355328))<|gb (aa (((aH out 0 (x - 0).toNat).length+1)≤140737488355328))<|gb (aa (0≤x))<|gb (aa (x≤(out.length:Int)))<|gb (aa ((out.length:Int)≤(out.length:Int))) <|
        gb (aa (((((aH out 0 (x - 0).toNat)++[f]).length+(aH out x.toNat ((out.length:Int) - x).toNat).length)*112)≤140737488355328))<|gb (aa ((((aH out 0 (x - 0).toNat)++[f]).length+(aH out x.toNat ((out.length:Int) - x).toNat).length)≤140737488355328)) <|
        aU a b (i+1) (((aH out 0 (x - 0).toNat)++[f])++(aH out x.toNat ((out.length:Int) - x).toNat))):=by
       rw [md (by omega) hxl,so (by omega) hxl]
       simp only [List.length_append,List.length_singleton]
       rw [md (by omega) hxl]
       refine En.gd (by omega) (En.gd (by omega) (En.gd (by omega) (En.gd (by omega) (En.gd (by omega) (En.gd (by omega) (En.gd (by omega) (En.gd (by omega) (En.gd (by omega) (En.gd (by omega) (En.gd (by omega) (ih _ _ (by omega) (by omega) ?_ (by omega))))))))))))
       simp only [List.length_append,List.length_singleton]
       rw [md (by omega) hxl,so (by omega) hxl]
       omega
      have less:∀ g,En (fun o:List GFact=>o.length≤a.length+b.length) ((mY g f).bind fun r2=>bif r2 then gb (aa (0≤(x - 1)))<|gb (aa ((x - 1) < (out.length:Int)))<|aU a b (i+1) (List.set out (x - 1).toNat f) else aU a b (i+1) out):=by
       intro g
       refine En.bind (PQ _ _) fun y _=>En.bif (fun _=>En.gd (by omega) (En.gd (by omega) (ih _ _ (by omega) (by omega) (by rw [List.length_set];omega) (by omega)))) fun _=>ih _ _ (by omega) (by omega) (by omega) (by omega)
      repeat' first
       | exact ins
       | exact ihm _ (by omega) (by omega) (by omega)
       | refine En.gd (by omega) (En.gd (by omega) (less _))
       | refine En.go (fun _=>by omega) ?_
       | refine En.ifd (fun _=>?_) (fun h=>absurd hp h)
       | refine En.bind (Pz _ _) fun y _=>?_
       | refine En.bif (fun _=>?_) (fun _=>?_)
    exact lp _ _ (Int.self_le_toNat _) (by omega) (Int.le_refl _)
   rw [oP,al (n:=(a.length:Int)+b.length) (by omega) (by omega)]
   refine En.ifd (fun hlt=>En.ifd (fun h=>En.gd h0 (En.gd h (p3731 hlt _))) fun h=>?_) fun _=>.some (by omega)
   rw [al (n:=i - (a.length:Int)) (by omega) (by omega)]
   exact En.gd (by omega) (En.gd (by omega) (p3731 hlt _))
 rw [Dj]
 exact key _ 0 [] (Int.self_le_toNat _) (by omega) (by simp) (by omega)
theorem NU (n:List Int) (hn:n.length≤9223372036854775807):En (fun o:List GFact=>o.length≤15) (pG n):=by
 have key:∀ (k:Nat) (p:Int) (out:List GFact),3 - p≤k→1≤p→p≤3→(out.length:Int)≤6*(p - 1)→En (fun o:List GFact=>o.length≤15) (kM n p out):=by
  intro k
  induction k with
  | zero =>
   intro p out hk h1 h2 ho
   rw [pu]
   refine En.ifd (fun h=>by omega) fun _=>?_
   repeat' first
    | refine gm hn fun _=>?_
    | refine iD (by decide) fun _ _ _=>?_
    | refine En.gd (by simp only [List.length_append,List.length_singleton];omega) ?_
    | refine En.gd (by omega) ?_
    | exact En.some (by simp only [List.length_append,List.length_singleton];omega)
  | succ k ih =>
   intro p out hk h1 h2 ho
   rw [pu]
   refine En.ifd (fun h=>?_) fun _=>?_
   ·repeat' first
     | exact ih _ _ (by rw [al (by omega) (by omega)];omega) (by rw [al (by omega) (by omega)];omega) (by rw [al (by omega) (by omega)];omega) (by rw [al (n:=p+1) (by omega) (by omega)];simp only [List.length_append,List.length_singleton];omega)
     | refine gm hn fun _=>?_
     | refine iD (by decide) fun _ _ _=>?_
     | refine En.gd (by simp only [List.length_append,List.length_singleton];omega) ?_
     | refine En.gd (by omega) ?_
   ·repeat' first
     | refine gm hn fun _=>?_
     | refine iD (by decide) fun _ _ _=>?_
     | refine En.gd (by simp only [List.length_append,List.length_singleton];omega) ?_
     | refine En.gd (by omega) ?_
     | exact En.some (by simp only [List.length_append,List.length_singleton];omega)
 rw [Gi]
 exact key 2 1 [] (by omega) (by omega) (by omega) (by simp)
end Go.Ax
