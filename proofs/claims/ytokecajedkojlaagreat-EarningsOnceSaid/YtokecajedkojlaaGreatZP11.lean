import Derived.Test.YtokecajedkojlaaGreatZP10
set_option linter.all false
/- Facts are made and merged: functions that end. -/
set_option maxRecDepth 100000
namespace Go.Ax
theorem Qi (n:Int):En (fun y=>1≤y∧y≤9000) (wJ n):=by
  rw [I3]
  refine lh (by decide) fun r _ _=>?_
  repeat' first
    | refine En.bif (fun _=>?_) (fun _=>?_)
    | (refine lh (by decide) fun q h1 h2=>.some ?_; rw [ah (by omega) (by omega)]; omega)
theorem Vo (a b:Int) (u:ByteArray) (hu:u.size≤1000) (r:GPensionhand_Fact) (t2:GFact):∀ (k:Nat) (i:Int) (f:GFact),(u.size:Int) - i≤k→0≤i→i≤(u.size:Int)→En (fun _=>True) (lm a b u i r t2 f):=by
  intro k
  induction k with
  | zero=>intro i f hk h0 h1; rw [rN]; exact En.ifd (fun h=>by omega) fun _=>.some trivial
  | succ k ih =>
    intro i f hk h0 h1
    rw [rN]
    simp only [AO]
    refine En.ifd (fun hi=>?_) fun _=>.some trivial
    rw [ah (n:=i+1) (by omega) (by omega)]
    refine En.gd h0 (En.gd hi ?_)
    repeat' first
      | exact ih _ _ (by omega) (by omega) (by omega)
      | exact En.some trivial
      | refine lh (by decide) fun _ _ _=>?_
      | refine En.bif (fun _=>?_) (fun _=>?_)
theorem VP (r:GPensionhand_Fact):En (fun _=>True) (Bo r):=by
  have p127:∀ a b t f,En (fun _=>True) (gM a b r t f):=by
    intro a b t f
    rw [CS,mA,Option.bind_some]
    have:=vB f.Kind
    exact Vo a b _ (by rw [aq]; omega) r t _ 0 f (Int.self_le_toNat _) (by omega) (by omega)
  rw [Nk]
  repeat' first
    | exact p127 _ _ _ _
    | refine lh (by decide) fun _ _ _=>?_
    | refine En.bif (fun _=>?_) (fun _=>?_)
    | refine En.bind (Qi _) fun _ _=>?_
theorem T6 (n:Int) (B:Nat) (hB:B≤1000):∀ (k:Nat) (i:Int) (b:List Int),i+1≤k→i≤8→(b.length:Int)+(i+1)≤B→-1≤i→En (fun l:List Int=>l.length≤B) (ky n i b):=by
  intro k
  induction k with
  | zero=>intro i b hk h1 h2 h3; rw [p6]; exact En.ifd (fun h=>by omega) fun _=>.some (by omega)
  | succ k ih =>
    intro i b hk h1 h2 h3
    rw [p6]
    refine En.ifd (fun h=>?_) fun _=>.some (by omega)
    rw [ah (n:=i - 1) (by omega) (by omega)]
    exact En.gd (CE _).1 (En.gd (by omega) (En.gd (by omega) (ih _ _ (by omega) (by omega) (by simp; omega) (by omega))))
theorem Wt (n size:Int) (b:List Int) (h0:0≤size) (h1:size≤8) (hb:b.length≤900):En (fun l:List Int=>(l.length:Int)≤b.length+size) (br n size b):=by
  rw [Fl,ah (n:=size - 1) (by omega) (by omega)]
  exact (T6 n (b.length+size).toNat (by omega) _ (size - 1) b (Int.self_le_toNat _) (by omega) (by omega) (by omega)).weak fun l hl=>by omega
theorem Bd {α:Type} {Q:α→Prop} {n size:Int} {b:List Int} {f:List Int→Option α} (X:Nat) (hX:X≤800) (hb:b.length≤X) (h:0≤size∧size≤8) (hf:∀ y:List Int,(y.length:Int)≤X+size→En Q (f y)):En Q ((br n size b).bind f) :=
  .bind (Wt n size b h.1 h.2 (by omega)) fun y hy=>hf y (by omega)
theorem Qv (u:ByteArray) (hu:u.size≤6) (f:GFact):∀ (k:Nat) (i:Int) (b:List Int),(u.size:Int) - i≤k→0≤i→i≤(u.size:Int)→(b.length:Int)≤8+6*i→En (fun _=>True) (jx u i f b):=by
  intro k
  induction k with
  | zero=>intro i b hk h0 h1 hb; rw [pO]; exact En.ifd (fun h=>by omega) fun _=>.some trivial
  | succ k ih =>
    intro i b hk h0 h1 hb
    rw [pO]
    simp only [zN]
    refine En.ifd (fun hi=>?_) fun _=>.some trivial
    rw [ah (n:=i+1) (by omega) (by omega)]
    refine En.gd h0 (En.gd hi ?_)
    repeat' first
      | exact ih _ _ (by omega) (by omega) (by omega) (by omega)
      | refine En.bif (fun _=>?_) (fun _=>?_)
      | refine Bd (8+6*i).toNat (by omega) (by omega) (by decide) fun y _=>?_
      | refine Bd (8+6*i+3).toNat (by omega) (by omega) (by decide) fun y _=>?_
theorem US (f:GFact):En (fun _=>True) (rF f):=by
  have p31:∀ g,En (fun _=>True) (lz g f):=by
    intro g
    rw [Bj]
    refine Bd 0 (by omega) (by simp) (by decide) fun y1 h1=>?_
    refine Bd 1 (by omega) (by omega) (by decide) fun y2 h2=>?_
    refine Bd 3 (by omega) (by omega) (by decide) fun y3 h3=>?_
    refine Bd 4 (by omega) (by omega) (by decide) fun y4 h4=>?_
    refine Bd 5 (by omega) (by omega) (by decide) fun y5 h5=>?_
    refine Bd 6 (by omega) (by omega) (by decide) fun y6 h6=>?_
    rw [mA,Option.bind_some]
    have hu:(ac (dW f.Kind)).size≤6:=by rw [aq]; exact vB _
    exact Qv _ hu f _ 0 y6 (Int.self_le_toNat _) (by omega) (by omega) (by omega)
  rw [Ih,eF,Option.bind_some]
  repeat' first
    | exact .some trivial
    | exact p31 _
    | refine En.bif (fun _=>?_) (fun _=>?_)
theorem U5 (a b:GFact):En (fun _=>True) (qO a b):=by
  rw [Ph]
  exact En.bif (fun _=>.some trivial) fun _=>.some trivial
theorem VD (a b:GFact):En (fun _=>True) (oT a b):=by
  rw [KO,eF,Option.bind_some,eF,Option.bind_some]
  repeat' first
    | exact .some trivial
    | refine En.bif (fun _=>?_) (fun _=>?_)
    | refine En.bind (US _) fun y _=>?_
    | refine En.bind (U5 _ _) fun y _=>?_
theorem eR {T:Type} {l:List T} {n:Int} (h0:0≤n) (h:n≤(l.length:Int)):(ao l 0 (n - 0).toNat).length = n.toNat:=by rw [u4 (by omega)]; omega
theorem jY {T:Type} {l:List T} {n:Int} (h0:0≤n) (h:n≤(l.length:Int)):(ao l n.toNat ((l.length:Int) - n).toNat).length = l.length - n.toNat:=by rw [u4 (by omega)]; omega
theorem TG (n:List Int) (hn:n.length≤100000000):En (fun o:List GFact=>o.length≤15) (tY n):=by
  have key:∀ (k:Nat) (p:Int) (out:List GFact),3 - p≤k→1≤p→p≤3→(out.length:Int)≤6*(p - 1)→En (fun o:List GFact=>o.length≤15) (mH n p out):=by
    intro k
    induction k with
    | zero =>
      intro p out hk h1 h2 ho
      rw [tn]
      refine En.ifd (fun h=>by omega) fun _=>?_
      repeat' first
        | refine jU hn fun _=>?_
        | refine lh (by decide) fun _ _ _=>?_
        | refine En.gd (by simp only [List.length_append,List.length_singleton]; omega) ?_
        | refine En.gd (by omega) ?_
        | exact En.some (by simp only [List.length_append,List.length_singleton]; omega)
    | succ k ih =>
      intro p out hk h1 h2 ho
      rw [tn]
      refine En.ifd (fun h=>?_) fun _=>?_
      · repeat' first
          | exact ih _ _ (by rw [ah (by omega) (by omega)]; omega) (by rw [ah (by omega) (by omega)]; omega) (by rw [ah (by omega) (by omega)]; omega) (by rw [ah (n:=p+1) (by omega) (by omega)]; simp only [List.length_append,List.length_singleton]; omega)
          | refine jU hn fun _=>?_
          | refine lh (by decide) fun _ _ _=>?_
          | refine En.gd (by simp only [List.length_append,List.length_singleton]; omega) ?_
          | refine En.gd (by omega) ?_
      · repeat' first
          | refine jU hn fun _=>?_
          | refine lh (by decide) fun _ _ _=>?_
          | refine En.gd (by simp only [List.length_append,List.length_singleton]; omega) ?_
          | refine En.gd (by omega) ?_
          | exact En.some (by simp only [List.length_append,List.length_singleton]; omega)
  rw [K8]
  exact key 2 1 [] (by omega) (by omega) (by omega) (by simp)
end Go.Ax
