import Derived.Test.YtnnblpijaoocaaaGreatZP10
set_option linter.all false
/- Facts are made and merged: functions that end. -/
set_option maxRecDepth 100000
namespace Go.Ax
theorem DQ (n:Int):En (fun y=>1≤y∧y≤9000) (ox n):=by
  rw [xr]
  refine sw (by decide) fun r _ _=>?_
  repeat' first
    | refine En.bif (fun _=>?_) (fun _=>?_)
    | (refine sw (by decide) fun q h1 h2=>.some ?_; rw [aY (by omega) (by omega)]; omega)
theorem IM (a b:Int) (u:ByteArray) (hu:u.size≤1000) (r:GPensionhand_Fact) (t2:GFact):∀ (k:Nat) (i:Int) (f:GFact),(u.size:Int) - i≤k→0≤i→i≤(u.size:Int)→En (fun _=>True) (gF a b u i r t2 f):=by
  intro k
  induction k with
  | zero=>intro i f hk h0 h1; rw [lD]; exact En.ifd (fun h=>by omega) fun _=>.some trivial
  | succ k ih =>
    intro i f hk h0 h1
    rw [lD]
    simp only [qZ]
    refine En.ifd (fun hi=>?_) fun _=>.some trivial
    rw [aY (n:=i+1) (by omega) (by omega)]
    refine En.gd h0 (En.gd hi ?_)
    repeat' first
      | exact ih _ _ (by omega) (by omega) (by omega)
      | exact En.some trivial
      | refine sw (by decide) fun _ _ _=>?_
      | refine En.bif (fun _=>?_) (fun _=>?_)
theorem IT (r:GPensionhand_Fact):En (fun _=>True) (sg r):=by
  have p127:∀ a b t f,En (fun _=>True) (d8 a b r t f):=by
    intro a b t f
    rw [tH,iy,Option.bind_some]
    have:=mt f.Kind
    exact IM a b _ (by rw [nM]; omega) r t _ 0 f (Int.self_le_toNat _) (by omega) (by omega)
  rw [AL]
  repeat' first
    | exact p127 _ _ _ _
    | refine sw (by decide) fun _ _ _=>?_
    | refine En.bif (fun _=>?_) (fun _=>?_)
    | refine En.bind (DQ _) fun _ _=>?_
theorem GH (n:Int) (B:Nat) (hB:B≤1000):∀ (k:Nat) (i:Int) (b:List Int),i+1≤k→i≤8→(b.length:Int)+(i+1)≤B→-1≤i→En (fun l:List Int=>l.length≤B) (fZ n i b):=by
  intro k
  induction k with
  | zero=>intro i b hk h1 h2 h3; rw [kg]; exact En.ifd (fun h=>by omega) fun _=>.some (by omega)
  | succ k ih =>
    intro i b hk h1 h2 h3
    rw [kg]
    refine En.ifd (fun h=>?_) fun _=>.some (by omega)
    rw [aY (n:=i - 1) (by omega) (by omega)]
    exact En.gd (IP _).1 (En.gd (by omega) (En.gd (by omega) (ih _ _ (by omega) (by omega) (by simp; omega) (by omega))))
theorem Km (n size:Int) (b:List Int) (h0:0≤size) (h1:size≤8) (hb:b.length≤900):En (fun l:List Int=>(l.length:Int)≤b.length+size) (aQ n size b):=by
  rw [vh,aY (n:=size - 1) (by omega) (by omega)]
  exact (GH n (b.length+size).toNat (by omega) _ (size - 1) b (Int.self_le_toNat _) (by omega) (by omega) (by omega)).weak fun l hl=>by omega
theorem sb {α:Type} {Q:α→Prop} {n size:Int} {b:List Int} {f:List Int→Option α} (X:Nat) (hX:X≤800) (hb:b.length≤X) (h:0≤size∧size≤8) (hf:∀ y:List Int,(y.length:Int)≤X+size→En Q (f y)):En Q ((aQ n size b).bind f) :=
  .bind (Km n size b h.1 h.2 (by omega)) fun y hy=>hf y (by omega)
theorem EO (u:ByteArray) (hu:u.size≤6) (f:GFact):∀ (k:Nat) (i:Int) (b:List Int),(u.size:Int) - i≤k→0≤i→i≤(u.size:Int)→(b.length:Int)≤8+6*i→En (fun _=>True) (fk u i f b):=by
  intro k
  induction k with
  | zero=>intro i b hk h0 h1 hb; rw [jS]; exact En.ifd (fun h=>by omega) fun _=>.some trivial
  | succ k ih =>
    intro i b hk h0 h1 hb
    rw [jS]
    simp only [qm]
    refine En.ifd (fun hi=>?_) fun _=>.some trivial
    rw [aY (n:=i+1) (by omega) (by omega)]
    refine En.gd h0 (En.gd hi ?_)
    repeat' first
      | exact ih _ _ (by omega) (by omega) (by omega) (by omega)
      | refine En.bif (fun _=>?_) (fun _=>?_)
      | refine sb (8+6*i).toNat (by omega) (by omega) (by decide) fun y _=>?_
      | refine sb (8+6*i+3).toNat (by omega) (by omega) (by decide) fun y _=>?_
theorem HH (f:GFact):En (fun _=>True) (kV f):=by
  have p31:∀ g,En (fun _=>True) (gI g f):=by
    intro g
    rw [rx]
    refine sb 0 (by omega) (by simp) (by decide) fun y1 h1=>?_
    refine sb 1 (by omega) (by omega) (by decide) fun y2 h2=>?_
    refine sb 3 (by omega) (by omega) (by decide) fun y3 h3=>?_
    refine sb 4 (by omega) (by omega) (by decide) fun y4 h4=>?_
    refine sb 5 (by omega) (by omega) (by decide) fun y5 h5=>?_
    refine sb 6 (by omega) (by omega) (by decide) fun y6 h6=>?_
    rw [iy,Option.bind_some]
    have hu:(aw (cF f.Kind)).size≤6:=by rw [nM]; exact mt _
    exact EO _ hu f _ 0 y6 (Int.self_le_toNat _) (by omega) (by omega) (by omega)
  rw [wY,eH,Option.bind_some]
  repeat' first
    | exact .some trivial
    | exact p31 _
    | refine En.bif (fun _=>?_) (fun _=>?_)
theorem H4 (a b:GFact):En (fun _=>True) (kA a b):=by
  rw [C3]
  exact En.bif (fun _=>.some trivial) fun _=>.some trivial
theorem Ik (a b:GFact):En (fun _=>True) (jJ a b):=by
  rw [zW,eH,Option.bind_some,eH,Option.bind_some]
  repeat' first
    | exact .some trivial
    | refine En.bif (fun _=>?_) (fun _=>?_)
    | refine En.bind (HH _) fun y _=>?_
    | refine En.bind (H4 _ _) fun y _=>?_
theorem jA {T:Type} {l:List T} {n:Int} (h0:0≤n) (h:n≤(l.length:Int)):(al l 0 (n - 0).toNat).length = n.toNat:=by rw [mL (by omega)]; omega
theorem nL {T:Type} {l:List T} {n:Int} (h0:0≤n) (h:n≤(l.length:Int)):(al l n.toNat ((l.length:Int) - n).toNat).length = l.length - n.toNat:=by rw [mL (by omega)]; omega
theorem BB (a b:List GFact) (ha:a.length+b.length≤900):En (fun o:List GFact=>o.length≤a.length+b.length) (gq a b):=by
  have key:∀ (k:Nat) (i:Int) (out:List GFact),(a.length:Int)+b.length - i≤k→0≤i→(out.length:Int)≤i→i≤(a.length:Int)+b.length→En (fun o:List GFact=>o.length≤a.length+b.length) (aI a b i out):=by
    intro k
    induction k with
    | zero =>
      intro i out hk h0 ho hi
      rw [lk,aY (n:=(a.length:Int)+b.length) (by omega) (by omega)]
      exact En.ifd (fun h=>by omega) fun _=>.some (by omega)
    | succ k ih =>
      intro i out hk h0 ho hi
      have p3731:i < (a.length:Int)+b.length→∀ f,En (fun o:List GFact=>o.length≤a.length+b.length) (fj a b i out f):=by
        intro hlt f
        rw [pl,eH,Option.bind_some,aY (n:=i+1) (by omega) (by omega)]
        refine En.bif (fun _=>ih _ _ (by omega) (by omega) (by omega) (by omega)) fun _=>?_
        have lp:∀ (m:Nat) (x:Int),x≤m→0≤x→x≤(out.length:Int)→En (fun o:List GFact=>o.length≤a.length+b.length) (eV a b i x out f):=by
          intro m
          induction m with
          | zero =>
            intro x hx hx0 hxl
            obtain rfl:x = 0:=by omega
            rw [jr]
            refine En.go (fun h=>by simp at h) (En.go (fun h=>by simp at h) (En.ifd (fun h=>by omega) fun _=>En.go (fun h=>by simp at h) (En.go (fun h=>by simp at h) (En.ifd (fun h=>by omega) fun _=>?_))))
            rw [jA (by omega) hxl,nL (by omega) hxl,aY (n:=i+1) (by omega) (by omega)]
            simp only [List.length_append,List.length_singleton]
            rw [jA (by omega) hxl]
            refine En.gd (by omega) (En.gd (by omega) (En.gd (by omega) (En.gd (by omega) (En.gd (by omega) (En.gd (by omega) (En.gd (by omega) (En.gd (by omega) (En.gd (by omega) (En.gd (by omega) (En.gd (by omega) (ih _ _ (by omega) (by omega) ?_ (by omega))))))))))))
            simp only [List.length_append,List.length_singleton]
            rw [jA (by omega) hxl,nL (by omega) hxl]
            omega
          | succ m ihm =>
            intro x hx hx0 hxl
            by_cases hz:x≤m
            · exact ihm x hz hx0 hxl
            have hp:0 < x:=by omega
            rw [jr,aY (n:=x - 1) (by omega) (by omega),aY (n:=i+1) (by omega) (by omega)]
            have ins:En (fun o:List GFact=>o.length≤a.length+b.length) (gb (aa (0≤x))<|gb (aa (x≤(out.length:Int)))<|gb (aa (((al out 0 (x - 0).toNat).length*112)≤140737488355328))<|gb (aa ((al out 0 (x - 0).toNat).length≤140737488355328)) <|
                gb (aa ((((al out 0 (x - 0).toNat).length+1)*112)≤140737488355328))<|gb (aa (((al out 0 (x - 0).toNat).length+1)≤140737488355328))<|gb (aa (0≤x))<|gb (aa (x≤(out.length:Int)))<|gb (aa ((out.length:Int)≤(out.length:Int))) <|
                gb (aa (((((al out 0 (x - 0).toNat)++[f]).length+(al out x.toNat ((out.length:Int) - x).toNat).length)*112)≤140737488355328))<|gb (aa ((((al out 0 (x - 0).toNat)++[f]).length+(al out x.toNat ((out.length:Int) - x).toNat).length)≤140737488355328)) <|
                aI a b (i+1) (((al out 0 (x - 0).toNat)++[f])++(al out x.toNat ((out.length:Int) - x).toNat))):=by
              rw [jA (by omega) hxl,nL (by omega) hxl]
              simp only [List.length_append,List.length_singleton]
              rw [jA (by omega) hxl]
              refine En.gd (by omega) (En.gd (by omega) (En.gd (by omega) (En.gd (by omega) (En.gd (by omega) (En.gd (by omega) (En.gd (by omega) (En.gd (by omega) (En.gd (by omega) (En.gd (by omega) (En.gd (by omega) (ih _ _ (by omega) (by omega) ?_ (by omega))))))))))))
              simp only [List.length_append,List.length_singleton]
              rw [jA (by omega) hxl,nL (by omega) hxl]
              omega
            have less:∀ g,En (fun o:List GFact=>o.length≤a.length+b.length) ((jJ g f).bind fun r2=>bif r2 then gb (aa (0≤(x - 1)))<|gb (aa ((x - 1) < (out.length:Int)))<|aI a b (i+1) (List.set out (x - 1).toNat f) else aI a b (i+1) out):=by
              intro g
              refine En.bind (Ik _ _) fun y _=>En.bif (fun _=>En.gd (by omega) (En.gd (by omega) (ih _ _ (by omega) (by omega) (by rw [List.length_set]; omega) (by omega)))) fun _=>ih _ _ (by omega) (by omega) (by omega) (by omega)
            repeat' first
              | exact ins
              | exact ihm _ (by omega) (by omega) (by omega)
              | refine En.gd (by omega) (En.gd (by omega) (less _))
              | refine En.go (fun _=>by omega) ?_
              | refine En.ifd (fun _=>?_) (fun h=>absurd hp h)
              | refine En.bind (H4 _ _) fun y _=>?_
              | refine En.bif (fun _=>?_) (fun _=>?_)
        exact lp _ _ (Int.self_le_toNat _) (by omega) (Int.le_refl _)
      rw [lk,aY (n:=(a.length:Int)+b.length) (by omega) (by omega)]
      refine En.ifd (fun hlt=>En.ifd (fun h=>En.gd h0 (En.gd h (p3731 hlt _))) fun h=>?_) fun _=>.some (by omega)
      rw [aY (n:=i - (a.length:Int)) (by omega) (by omega)]
      exact En.gd (by omega) (En.gd (by omega) (p3731 hlt _))
  rw [xg]
  exact key _ 0 [] (Int.self_le_toNat _) (by omega) (by simp) (by omega)
theorem GX (n:List Int) (hn:n.length≤9223372036854775807):En (fun o:List GFact=>o.length≤15) (l8 n):=by
  have key:∀ (k:Nat) (p:Int) (out:List GFact),3 - p≤k→1≤p→p≤3→(out.length:Int)≤6*(p - 1)→En (fun o:List GFact=>o.length≤15) (iu n p out):=by
    intro k
    induction k with
    | zero =>
      intro p out hk h1 h2 ho
      rw [lN]
      refine En.ifd (fun h=>by omega) fun _=>?_
      repeat' first
        | refine AR hn fun _=>?_
        | refine sw (by decide) fun _ _ _=>?_
        | refine En.gd (by simp only [List.length_append,List.length_singleton]; omega) ?_
        | refine En.gd (by omega) ?_
        | exact En.some (by simp only [List.length_append,List.length_singleton]; omega)
    | succ k ih =>
      intro p out hk h1 h2 ho
      rw [lN]
      refine En.ifd (fun h=>?_) fun _=>?_
      · repeat' first
          | exact ih _ _ (by rw [aY (by omega) (by omega)]; omega) (by rw [aY (by omega) (by omega)]; omega) (by rw [aY (by omega) (by omega)]; omega) (by rw [aY (n:=p+1) (by omega) (by omega)]; simp only [List.length_append,List.length_singleton]; omega)
          | refine AR hn fun _=>?_
          | refine sw (by decide) fun _ _ _=>?_
          | refine En.gd (by simp only [List.length_append,List.length_singleton]; omega) ?_
          | refine En.gd (by omega) ?_
      · repeat' first
          | refine AR hn fun _=>?_
          | refine sw (by decide) fun _ _ _=>?_
          | refine En.gd (by simp only [List.length_append,List.length_singleton]; omega) ?_
          | refine En.gd (by omega) ?_
          | exact En.some (by simp only [List.length_append,List.length_singleton]; omega)
  rw [zC]
  exact key 2 1 [] (by omega) (by omega) (by omega) (by simp)
end Go.Ax
