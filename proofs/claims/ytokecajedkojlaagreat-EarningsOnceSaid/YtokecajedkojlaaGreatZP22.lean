import Derived.Test.YtokecajedkojlaaGreatZP12
import Derived.Test.YtokecajedkojlaaGreatZP13
import Derived.Test.YtokecajedkojlaaGreatZP20
set_option linter.all false
/- The days on which facts earn something. -/
set_option maxRecDepth 100000
namespace Go.Ax
def BF (st rk:Int) (x:GCounted):Bool:=af x.State st&&(af rk 0||af x.Rank rk)
def oo (c:List GCounted) (st rk:Int):List GSpan:=(c.filter (BF st rk)).map GCounted.Span
theorem yx (c:List GCounted) (st rk:Int):(oo c st rk).length≤c.length:=by
  unfold oo
  rw [List.length_map]
  exact List.length_filter_le _ _
theorem G6 (c:List GCounted) (st rk:Int) (hl:c.length≤100000):zl c st rk = some (bE (oo c st rk)):=by
  have:=yx c st rk
  rw [Ll]
  refine (xC c (fun i out=>eh st rk c (c.length:Int) i out) (BF st rk) GCounted.Span fun i out hi ho=>?_).trans ?_
  · show eh _ _ _ _ _ _ = eh _ _ _ _ _ _
    rw [s7]
    simp only [aP hi,bj,cond_true,ay,Bool.or_true,bd hi,aW hi (by omega)]
    rw [jO (by omega) (by omega),bB,cW]
    show (bif BF st rk c[i] then _ else _) = _
    cases BF st rk c[i] <;> rfl
  · show eh _ _ _ _ _ (oo c st rk) = _
    rw [s7,aX,cond_false,mr _ (by omega)]; rfl
theorem K4 (c:List GCounted) (st rk:Int) (hl:c.length≤100000):pL c st rk = some (bE (oo c st rk)):=by
  have:=yx c st rk
  rw [Bt]
  refine (xC c (fun i out=>cc c st rk i out) (BF st rk) GCounted.Span fun i out hi ho=>?_).trans ?_
  · show cc _ _ _ _ _ = cc _ _ _ _ _
    rw [nH]
    simp only [aP hi,bj,cond_true,ay,Bool.or_true,bd hi,aW hi (by omega)]
    rw [jO (by omega) (by omega),bB,cW]
    show (bif BF st rk c[i] then _ else _) = _
    cases BF st rk c[i] <;> rfl
  · show cc _ _ _ _ (oo c st rk) = _
    rw [nH,aX,cond_false,fI _ (by omega)]; rfl
def jR (f:GFact) (st:Int):Int:=bif (af f.Kind 1||af f.Kind 2||af f.Kind 3) then 1 else bif (af f.Kind 6&&af f.State st) then 2 else 0
theorem TH (f:GFact) (st:Int):sJ f st = some (jR f st):=by
  rw [Ek]
  simp only [cW,bB]
  unfold jR
  cases (af f.Kind 1||af f.Kind 2||af f.Kind 3) <;> cases (af f.Kind 6&&af f.State st) <;> rfl
noncomputable def gG (l:List GFact) (c:List GCounted) (st:Int) (f:GFact):List GSpan:=aU (aU (bE (oo c st (jR f st))) f.Span) (im l)
theorem vT (l:List GFact) (c:List GCounted) (st:Int) (f:GFact):bP (-1) (gG l c st f):=(bL _ _).1
theorem Ft (l:List GFact) (c:List GCounted) (st:Int) (f:GFact):(gG l c st f).length≤73050:=pm (vT l c st f)
noncomputable def xt (l:List GFact) (c:List GCounted) (st:Int) (f:GFact):Bool:=!(af (jR f st) 0)&&aa ((0:Int) < ((gG l c st f).length:Int))
noncomputable def Mh (l:List GFact) (c:List GCounted) (st:Int) (f:GFact):GEarnings_income:=⟨f,gG l c st f⟩
noncomputable def mZ (l:List GFact) (c:List GCounted) (st:Int):List GFact:=(l.filter bp).filter (xt l c st)
theorem TJ (l:List GFact) (c:List GCounted) (st:Int):(mZ l c st).length≤l.length:=Nat.le_trans (List.length_filter_le _ _) (List.length_filter_le _ _)
theorem OE (l:List GFact) (c:List GCounted) (st:Int) (hl:l.length≤1000) (hc:c.length≤100000):oe c st l = some (l,(mZ l c st).map (Mh l c st)):=by
  rw [AP,B3 l (by omega),Option.bind_some]
  have hf:=List.length_filter_le bp l
  unfold mZ
  generalize l.filter bp = d at hf ⊢
  refine (xC d (fun i out=>bC c st (d.length:Int) i l out d) (xt l c st) (Mh l c st) fun i out hi ho=>?_).trans ?_
  · show bC _ _ _ _ _ _ _ = bC _ _ _ _ _ _ _
    rw [mS]
    simp only [aP hi,bj,cond_true,ay,Bool.or_true,bd hi,aW hi (by omega)]
    rw [TH,Option.bind_some]
    unfold xt
    cases h:af (jR d[i] st) 0 with
    | true=>rfl
    | false =>
      have hm:=(cV (oo c st (jR d[i] st))).2.2
      have:=yx c st (jR d[i] st)
      rw [cond_false,G6 c st _ hc,Option.bind_some,qG _ _ (by omega),Option.bind_some,Fh l (by omega),Option.bind_some,qG _ _ (by have:=gI (bE (oo c st (jR d[i] st))) d[i].Span; omega),Option.bind_some]
      show (bif aa ((0:Int) < ((gG l c st d[i]).length:Int)) then _ else _) = _
      rw [jO (by omega) (by omega)]
      cases aa ((0:Int) < ((gG l c st d[i]).length:Int)) <;> rfl
  · show bC _ _ _ _ _ _ _ = _
    rw [mS,aX,cond_false]
noncomputable def aY (l:List GFact) (c:List GCounted) (st:Int) (f:GFact):List GSpan:=bif bp f&&!(af (jR f st) 0) then gG l c st f else []
theorem MT (l:List GFact) (c:List GCounted) (st rk:Int) (f:GFact) (hl:l.length≤1000) (hc:c.length≤100000) (hr:rk = jR f st):dH l c st rk f = some (bif !(af (jR f st) 0) then gG l c st f else []):=by
  subst hr
  rw [pz]
  cases h:af (jR f st) 0 with
  | true=>rfl
  | false =>
    have hm:=(cV (oo c st (jR f st))).2.2
    have:=yx c st (jR f st)
    have hs:=gI [f.Span] (im l)
    rw [cond_false,gN l (by omega),Option.bind_some,gc _ _ (by simp),Option.bind_some,K4 c st _ hc,Option.bind_some,C9]
    obtain ⟨r,h1,h2,h3⟩:=m5 (aU [f.Span] (im l)) (bE (oo c st (jR f st))) 1 (by omega) (by omega) rfl
    have e:r = gG l c st f:=oM h2 (vT l c st f) fun d=>by
      rw [h3]
      unfold Bu gG
      rw [(bL _ _).2,(bL _ _).2]
      have k:kj 1 (dG (aU [f.Span] (im l)) d) (dG (bE (oo c st (jR f st))) d) = true↔cP (aU [f.Span] (im l)) d∧cP (bE (oo c st (jR f st))) d:=by
        rw [← d8, ← d8]
        cases dG (aU [f.Span] (im l)) d <;> cases dG (bE (oo c st (jR f st))) d <;> simp [kj]
      rw [k,(bL _ _).2]
      have o:cP [f.Span] d↔f.Span.From≤d∧d < f.Span.To:=by simp [cP]
      rw [o]
      constructor
      · rintro ⟨⟨⟨⟨a,b⟩,h⟩,c⟩,h'⟩; exact ⟨⟨⟨⟨c,a⟩,h⟩,b⟩,h⟩
      · rintro ⟨⟨⟨⟨c,a⟩,h⟩,b⟩,_⟩; exact ⟨⟨⟨⟨a,b⟩,h⟩,c⟩,h⟩
    rw [h1,Option.bind_some,Option.bind_some,e]
    rfl
theorem OL (l:List GFact) (c:List GCounted) (st:Int) (f:GFact) (hl:l.length≤1000) (hc:c.length≤100000):sP l f c st = some (aY l c st f):=by
  rw [Et,eF,Option.bind_some]
  have z:∀ st,dH l c st 0 f = some []:=fun st=>by rw [pz,j9,cond_true]
  unfold aY bp
  simp only [cW,bB]
  cases hv:cI f with
  | false=>exact z st
  | true =>
    cases hw:f.Withdrawn with
    | true=>exact z st
    | false =>
      show (bif (af f.Kind 1||af f.Kind 2||af f.Kind 3) then _ else _) = _
      cases h1:(af f.Kind 1||af f.Kind 2||af f.Kind 3) with
      | true=>exact MT l c st 1 f hl hc (by unfold jR; rw [h1]; rfl)
      | false =>
        show (bif (af f.Kind 6&&af f.State st) then _ else _) = _
        cases h2:(af f.Kind 6&&af f.State st) with
        | true=>exact MT l c st 2 f hl hc (by unfold jR; rw [h1,h2]; rfl)
        | false=>exact MT l c st 0 f hl hc (by unfold jR; rw [h1,h2]; rfl)
def yQ (l:List GSpan):Int:=l.foldl (fun s x=>s+(x.To - x.From)) 0
theorem Gb {l:List GSpan} (h:bP (-1) l):bE l = l:=oM (cV l).1 h fun d=>by
  rw [(cV l).2.1]
  exact ⟨fun h=>h.1,fun hc=>⟨hc,by have:=gf h hc; omega⟩⟩
theorem Ml {l:List GSpan} (h:bP (-1) l):tC l = some (yQ l)∧wm l = some (yQ l):=by
  have hs:=pm h
  have hr:=ot h (Int.le_refl _)
  have inv:∀ (i:Nat) (s:Int) (hi:i < l.length),(0≤s∧s≤(i:Int)*73049)→(0≤s+(l[i].To - l[i].From)∧s+(l[i].To - l[i].From)≤((i+1:Nat):Int)*73049):=by
    intro i s hi hh
    have:=hr _ (List.getElem_mem hi)
    rw [show ((i+1:Nat):Int) = (i:Int)+1 by omega,Int.add_mul]
    omega
  constructor
  · rw [La,Gp,mr l (by omega),Option.bind_some,Gb h]
    have:=(qX l (fun i s=>cC 73049 s (l.length:Int) i l) (fun s x=>s+(x.To - x.From)) (fun i s=>0≤s∧s≤(i:Int)*73049) (fun i s hi hh=>⟨?_,inv i s hi hh⟩) 0 (by omega)).1
    · show (cC 73049 0 (l.length:Int) 0 l).bind _ = _
      rw [this]
      show (cC 73049 (yQ l) (l.length:Int) (l.length:Int) l).bind _ = _
      rw [qi,aX]; rfl
    · have hx:=hr _ (List.getElem_mem hi)
      have hb:=inv i s hi hh
      show cC _ _ _ _ _ = cC _ _ _ _ _
      rw [qi]
      simp only [aP hi,bj,cond_true,ay,Bool.or_true,bd hi,aW hi (by omega)]
      have hi2:((i+1:Nat):Int)*73049≤73051*73049:=Int.mul_le_mul_of_nonneg_right (by omega) (by omega)
      rw [aB (by omega),cond_true,aE (by omega),cond_false,ah (n:=l[i].To - l[i].From) (by omega) (by omega),ah (by omega) (by omega)]
  · rw [Mn,fI l (by omega),Option.bind_some,Gb h]
    have:=(qX l (fun i s=>ef s i l) (fun s x=>s+(x.To - x.From)) (fun i s=>0≤s∧s≤(i:Int)*73049) (fun i s hi hh=>⟨?_,inv i s hi hh⟩) 0 (by omega)).1
    · show ef 0 0 l = _
      rw [this]
      show ef (yQ l) (l.length:Int) l = _
      rw [sZ,aX]; rfl
    · have hx:=hr _ (List.getElem_mem hi)
      have hb:=inv i s hi hh
      show ef _ _ _ = ef _ _ _
      rw [sZ]
      simp only [aP hi,bj,cond_true,ay,Bool.or_true,bd hi,aW hi (by omega)]
      have hi2:((i+1:Nat):Int)*73049≤73051*73049:=Int.mul_le_mul_of_nonneg_right (by omega) (by omega)
      rw [ah (n:=l[i].To - l[i].From) (by omega) (by omega),ah (by omega) (by omega)]
def cY (f:GFact) (n:Int):Int:=if cI f = true∧0≤n∧n≤f.Span.To - f.Span.From then f.Amount*n / (f.Span.To - f.Span.From) else 0
theorem uO (f:GFact) (n:Int):0≤cY f n∧cY f n≤1000000000:=by
  unfold cY
  split
  · next h =>
    obtain ⟨h1,h2,h3⟩:=h
    obtain ⟨a1,a2,a3,a4,a5⟩:=o5 h1
    have e:0≤f.Amount*n:=Int.mul_nonneg a1 h2
    refine ⟨Int.ediv_nonneg e (by omega), ?_⟩
    have:f.Amount*n≤1000000000*(f.Span.To - f.Span.From):=Int.mul_le_mul a2 h3 h2 (by omega)
    exact Int.ediv_le_of_le_mul (by omega) this
  · omega
theorem D7 (f:GFact) (n:Int):nZ f n = some (cY f n)∧yE f n = some (cY f n):=by
  rw [E8,Lh,x8,eF,Option.bind_some]
  refine ⟨?_, ?_⟩ <;>
  · simp only [cW]
    unfold cY
    cases hv:cI f with
    | false=>simp
    | true =>
      obtain ⟨a1,a2,a3,a4,a5⟩:=o5 hv
      rw [ah (n:=f.Span.To - f.Span.From) (by omega) (by omega)]
      by_cases h1:n < 0
      · rw [aB h1,if_neg (by omega)]; rfl
      · by_cases h2:f.Span.To - f.Span.From < n
        · rw [aB h2,Bool.or_true,cond_true,if_neg (by omega)]
        · rw [aE h1,aE h2,if_pos ⟨rfl,by omega,by omega⟩]
          have e:0≤f.Amount*n:=Int.mul_nonneg a1 (by omega)
          have e2:f.Amount*n≤1000000000*73049:=Int.mul_le_mul a2 (by omega) (by omega) (by omega)
          have e3:0≤f.Amount*n / (f.Span.To - f.Span.From):=Int.ediv_nonneg e (by omega)
          have e4:f.Amount*n / (f.Span.To - f.Span.From)≤f.Amount*n:=Int.ediv_le_self _ e
          show gb _ _ = _
          rw [aT (by omega),ah (n:=f.Amount*n) (by omega) (by omega),uj e,ah (by omega) (by omega)]
end Go.Ax
set_option linter.all false
/- The earnings of years: a map of ints, sums. -/
set_option maxRecDepth 100000
namespace Go.Ax
abbrev tI:Ty:=.i .i64
def GK (k v:List Int) (z:Int):Int:=mX tI k v z 0
theorem EO (k:List Int) (y:Int):pN tI k y = true↔y∈k:=by
  unfold pN
  rw [Nat.blt_eq]
  rcases mO (q:=.i64) k y with ⟨h,hn⟩ | ⟨h1,h2⟩
  · exact ⟨fun h'=>by have h'':cZ tI k y < k.length:=h'; have h3:cZ tI k y = k.length:=h; omega,fun h'=>absurd h' hn⟩
  · exact ⟨fun _=>List.mem_of_getElem? h2,fun _=>h1⟩
theorem UM {k v:List Int} {y:Int} (h:y∈k) (hl:k.length = v.length) (a:Int):lJ tI k y = k∧(lu tI k v y a).length = v.length∧∀ z∈k,GK k (lu tI k v y a) z = if z = y then a else GK k v z:=by
  have hm:=(EO k y).2 h
  have ey:cZ tI k y < k.length∧k[cZ tI k y]? = some y:=by
    rcases mO (q:=.i64) k y with ⟨_,hn⟩ | h
    · exact absurd h hn
    · exact h
  have e:lu tI k v y a = v.set (cZ tI k y) a:=by unfold lu; rw [hm]; rfl
  refine ⟨by unfold lJ; rw [hm]; rfl,by rw [e,List.length_set],fun z hz=>?_⟩
  have ez:cZ tI k z < k.length∧k[cZ tI k z]? = some z:=by
    rcases mO (q:=.i64) k z with ⟨_,hn⟩ | h
    · exact absurd hz hn
    · exact h
  unfold GK mX
  rw [e,List.getD_eq_getElem?_getD,List.getD_eq_getElem?_getD,List.getElem?_set]
  by_cases hzy:z = y
  · subst hzy
    rw [if_pos rfl,if_pos (by omega),if_pos rfl]; rfl
  · rw [if_neg hzy,if_neg]
    intro he
    rw [he] at ey
    rw [ey.2] at ez
    cases ez.2
    exact hzy rfl
structure Zm (k v:List Int) (S:Int→Prop):Prop where
  len:k.length = v.length
  zero:∀ x∈v,x = 0
  nd:k.Nodup
  mem:∀ z,z∈k↔S z
theorem Zm.get {k v:List Int} {S:Int→Prop} (h:Zm k v S) (z:Int):GK k v z = 0:=by
  unfold GK mX
  rw [List.getD_eq_getElem?_getD]
  cases hx:v[cZ tI k z]? with
  | none=>rfl
  | some x=>exact h.zero x (List.mem_of_getElem? hx)
theorem Zm.put {k v:List Int} {S:Int→Prop} (h:Zm k v S) (y:Int):Zm (lJ tI k y) (lu tI k v y 0) (fun z=>S z∨z = y):=by
  unfold lJ lu
  cases hm:pN tI k y with
  | true =>
    have hy:=(EO k y).1 hm
    refine ⟨by rw [cond_true,cond_true,List.length_set]; exact h.len,fun x hx=>?_,h.nd,fun z=>?_⟩
    · rcases List.mem_or_eq_of_mem_set hx with hx | rfl
      · exact h.zero x hx
      · rfl
    · rw [cond_true,h.mem]
      exact ⟨.inl,fun h'=>h'.elim id fun e=>e ▸ (h.mem y).1 hy⟩
  | false =>
    have hy:y ∉ k:=fun hy=>by rw [(EO k y).2 hy] at hm; cases hm
    refine ⟨by rw [cond_false,cond_false,List.length_append,List.length_append,h.len]; rfl,fun x hx=>?_, ?_,fun z=>?_⟩
    · rw [cond_false] at hx
      rcases List.mem_append.1 hx with hx | hx
      · exact h.zero x hx
      · exact List.mem_singleton.1 hx
    · rw [cond_false]
      exact List.nodup_append.2 ⟨h.nd,by simp,fun a ha b hb e=>by rw [List.mem_singleton.1 hb] at e; exact hy (e ▸ ha)⟩
    · rw [cond_false,List.mem_append,List.mem_singleton,h.mem]
theorem Zm.cong {k v:List Int} {S T:Int→Prop} (h:Zm k v S) (e:∀ z,S z↔T z):Zm k v T:=⟨h.len,h.zero,h.nd,fun z=>(h.mem z).trans (e z)⟩
def tW (s:GSpan) (z:Int):Prop:=1900+yr s.From≤z∧z≤1900+yr (s.To - 1)
section
variable (cur:Int) (rates:List GRate) (all:List GEarnings_income) (l:List GFact)
theorem WQ (t61 t62:Int) (days:List GSpan) (t68 t69:Int):∀ (n:Nat) (y last:Int) (k v:List Int) (S:Int→Prop),last+1 - y≤n→0≤y→y≤3000→last≤2500→Zm k v S →
    ∃ k' v',Zm k' v' (fun z=>S z∨(y≤z∧z≤last))∧eA cur rates last y t61 t62 days t68 t69 all k v l = eu cur rates t61 t62 days t68 (ab (t69+1)) all k' v' l:=by
  intro n
  induction n with
  | zero =>
    intro y last k v S hn h0 h1 h2 hz
    refine ⟨k,v,hz.cong fun z=>⟨.inl,fun h=>h.elim id fun h=>absurd h (by omega)⟩, ?_⟩
    rw [fN,aE (by omega),cond_false]
  | succ n ih =>
    intro y last k v S hn h0 h1 h2 hz
    by_cases hy:y≤last
    · obtain ⟨k',v',hz',he⟩:=ih (y+1) last _ _ _ (by omega) (by omega) (by omega) h2 (hz.put y)
      refine ⟨k',v',hz'.cong fun z=>?_, ?_⟩
      · constructor
        · rintro ((h | h) | h)
          · exact .inl h
          · exact .inr (by omega)
          · exact .inr (by omega)
        · rintro (h | h)
          · exact .inl (.inl h)
          · by_cases e:z = y
            · exact .inl (.inr e)
            · exact .inr (by omega)
      · rw [fN,aB hy,cond_true,ah (n:=y+1) (by omega) (by omega)]
        exact he
    · refine ⟨k,v,hz.cong fun z=>⟨.inl,fun h=>h.elim id fun h=>absurd h (by omega)⟩, ?_⟩
      rw [fN,aE hy,cond_false]
theorem WZ (t61 t62:Int) (days:List GSpan) (hd:Fj days) (hl:days.length≤1000000):∀ (n i:Nat) (k v:List Int) (S:Int→Prop),i+n = days.length→Zm k v S →
    ∃ k' v',Zm k' v' (fun z=>S z∨∃ s∈days.drop i,tW s z)∧eu cur rates t61 t62 days (days.length:Int) (i:Int) all k v l = dR cur rates t61 (ab (t62+1)) all k' v' l:=by
  intro n
  induction n with
  | zero =>
    intro i k v S hi hz
    refine ⟨k,v,hz.cong fun z=>?_, ?_⟩
    · rw [List.drop_of_length_le (by omega)]; simp
    · rw [show i = days.length by omega,mi,aX,cond_false]
  | succ n ih =>
    intro i k v S hi hz
    have hlt:i < days.length:=by omega
    have hr:=hd _ (List.getElem_mem hlt)
    obtain ⟨a,ha,ha1,_⟩:=NT (d:=days[i].From) (by omega) (by omega)
    obtain ⟨b,hb,hb1,_⟩:=NT (d:=days[i].To - 1) (by omega) (by omega)
    have ra:=ug (d:=days[i].From) (by omega) (by omega)
    have rb:=ug (d:=days[i].To - 1) (by omega) (by omega)
    obtain ⟨k1,v1,hz1,he1⟩:=WQ cur rates all l t61 t62 days (days.length:Int) (i:Int) 1000 a.1 b.1 k v S (by omega) (by omega) (by omega) (by omega) hz
    obtain ⟨k2,v2,hz2,he2⟩:=ih (i+1) k1 v1 _ (by omega) hz1
    refine ⟨k2,v2,hz2.cong fun z=>?_, ?_⟩
    · rw [List.drop_eq_getElem_cons hlt,ha1,hb1]
      unfold tW
      simp only [List.mem_cons,exists_eq_or_imp,or_assoc]
    · rw [mi]
      simp only [aP hlt,bj,cond_true,ay,bd hlt]
      rw [ha,Option.bind_some,ah (n:=days[i].To - 1) (by omega) (by omega),hb,Option.bind_some,he1,aW hlt (by omega),he2]
theorem WL (hd:∀ x∈all,Fj x.days∧x.days.length≤1000000) (hl:all.length≤1000000):∀ (n i:Nat) (k v:List Int) (S:Int→Prop),i+n = all.length→Zm k v S →
    ∃ k' v',Zm k' v' (fun z=>S z∨∃ x∈all.drop i, ∃ s∈x.days,tW s z)∧dR cur rates (all.length:Int) (i:Int) all k v l = dR cur rates (all.length:Int) (all.length:Int) all k' v' l:=by
  intro n
  induction n with
  | zero =>
    intro i k v S hi hz
    refine ⟨k,v,hz.cong fun z=>?_, ?_⟩
    · rw [List.drop_of_length_le (by omega)]; simp
    · rw [show i = all.length by omega]
  | succ n ih =>
    intro i k v S hi hz
    have hlt:i < all.length:=by omega
    obtain ⟨h1,h2⟩:=hd _ (List.getElem_mem hlt)
    obtain ⟨k1,v1,hz1,he1⟩:=WZ cur rates all l (all.length:Int) (i:Int) all[i].days h1 h2 all[i].days.length 0 k v S (by omega) hz
    obtain ⟨k2,v2,hz2,he2⟩:=ih (i+1) k1 v1 _ (by omega) hz1
    refine ⟨k2,v2,hz2.cong fun z=>?_, ?_⟩
    · rw [List.drop_eq_getElem_cons hlt,List.drop_zero]
      simp only [List.mem_cons,exists_eq_or_imp,or_assoc]
    · rw [nM]
      simp only [aP hlt,bj,cond_true,ay,bd hlt]
      rw [show ((0:Nat):Int) = 0 from rfl] at he1
      rw [he1,aW hlt (by omega),he2]
end
def jh (y:Int):GSpan:=⟨yS y,yS (y+1)⟩
noncomputable def en (d:List GSpan) (y:Int):Int:=yQ (aU d (jh y))
noncomputable def qk (t:List GRate) (to m x c:Int):Int × Int:=(kK x c to m t ⟨1,1⟩).getD (0,0)
theorem LM {x c to m:Int} {t:List GRate} (ht:pn t) (hx:0≤x∧x≤1000000000) (hto:1≤to∧to≤999) (hm:0≤m∧m≤2399) :
    kK x c to m t ⟨1,1⟩ = some (qk t to m x c)∧ph x c to m t ⟨1,1⟩ = some (qk t to m x c)∧(0≤(qk t to m x c).1∧(qk t to m x c).1≤27000000000)∧(c = to→qk t to m x c = (x,0)):=by
  obtain ⟨r,h1,h2,h3,h4⟩:=OU (c:=c) ht hx.1 hx.2 hto.1 hto.2 hm.1 hm.2
  have e:qk t to m x c = r:=by unfold qk; rw [h1]; rfl
  rw [e]
  exact ⟨h1,h2,h3,h4⟩
noncomputable def bt (t:List GRate) (to y:Int) (D:GFact→List GSpan):List GFact→Int→Int × Int
  | [],s=>(s,0)
  | f :: r,s=>bif af (en (D f) y) 0 then bt t to y D r s else
    bif aK (qk t to (12*y+11) (cY f (en (D f) y)) f.Currency).2 0 then (0,(qk t to (12*y+11) (cY f (en (D f) y)) f.Currency).2) else
      bt t to y D r (s+(qk t to (12*y+11) (cY f (en (D f) y)) f.Currency).1)
theorem JY (t:List GRate) (to y:Int) (D:GFact→List GSpan) (p:GFact→Bool):∀ (l:List GFact) (s:Int),(∀ f∈l,p f = false→en (D f) y = 0)→bt t to y D (l.filter p) s = bt t to y D l s
  | [],s,_=>rfl
  | f :: r,s,h=>by
    have ih:=fun s=>JY t to y D p r s fun g hg=>h g (by simp [hg])
    rw [List.filter_cons]
    by_cases hp:p f = true
    · rw [if_pos hp]
      unfold bt
      simp only [ih]
    · rw [if_neg hp,ih]
      conv=>rhs; unfold bt
      rw [h f (by simp) (by simpa using hp),j9,cond_true]
theorem KA (t:List GRate) (to y:Int) (D D':GFact→List GSpan):∀ (l:List GFact) (s:Int),(∀ f∈l,D f = D' f)→bt t to y D l s = bt t to y D' l s
  | [],s,_=>rfl
  | f :: r,s,h=>by
    have ih:=fun s=>KA t to y D D' r s fun g hg=>h g (by simp [hg])
    unfold bt
    rw [h f (by simp)]
    simp only [ih]
section
variable {t:List GRate} (ht:pn t) {to:Int} (hto:1≤to∧to≤999) {l:List GFact} {D:GFact→List GSpan} (hD:∀ f,(D f).length≤100000)
include ht hto hD
theorem QY (F:List GFact) (hF:F.length≤1000) {y:Int} (hy:0≤y∧y≤199) (t103 t104:Int) (k:List Int) (hk:1900+y∈k) (out:List GEarning) (K:List Int):∀ (rest pre:List GFact) (v:List Int),F = pre++rest→k.length = v.length →
    (0≤GK k v (1900+y)∧GK k v (1900+y)≤(pre.length:Int)*27000000000) →
    (((bt t to y D rest (GK k v (1900+y))).2≠0∧bh to t (1900+y) (12*y+11) t103 t104 (F.length:Int) (pre.length:Int) (F.map fun f=>⟨f,D f⟩) k v out K l = some ([],(bt t to y D rest (GK k v (1900+y))).2,l)) ∨
     ((bt t to y D rest (GK k v (1900+y))).2 = 0∧∃ v',k.length = v'.length∧GK k v' (1900+y) = (bt t to y D rest (GK k v (1900+y))).1∧(∀ z∈k,z≠1900+y→GK k v' z = GK k v z) ∧
      (0≤GK k v' (1900+y)∧GK k v' (1900+y)≤(F.length:Int)*27000000000) ∧
      bh to t (1900+y) (12*y+11) t103 t104 (F.length:Int) (pre.length:Int) (F.map fun f=>⟨f,D f⟩) k v out K l = bh to t (1900+y) (12*y+11) t103 t104 (F.length:Int) (F.length:Int) (F.map fun f=>⟨f,D f⟩) k v' out K l)):=by
  intro rest
  induction rest with
  | nil =>
    intro pre v hF' hl hs
    rw [List.append_nil] at hF'
    subst hF'
    exact .inr ⟨rfl,v,hl,rfl,fun _ _ _=>rfl,hs,rfl⟩
  | cons f rest ih =>
    intro pre v hF' hl hs
    have hlen:pre.length < F.length:=by rw [hF']; simp
    have hlt:pre.length < (F.map fun f=>(⟨f,D f⟩:GEarnings_income)).length:=by rw [List.length_map]; exact hlen
    have hget:(F.map fun f=>(⟨f,D f⟩:GEarnings_income))[pre.length] = ⟨f,D f⟩:=by
      rw [List.getElem_map]
      have:F[pre.length] = f:=by subst hF'; simp
      rw [this]
    have hpre:F = (pre++[f])++rest:=by rw [hF']; simp
    have hn:tC (aU (D f) (jh y)) = some (en (D f) y):=(Ml (bL _ _).1).1
    have hm:0≤12*y+11∧12*y+11≤2399:=by omega
    have key:∀ v',bh to t (1900+y) (12*y+11) t103 t104 (F.length:Int) (((pre++[f]).length:Nat):Int) (F.map fun f=>⟨f,D f⟩) k v' out K l = bh to t (1900+y) (12*y+11) t103 t104 (F.length:Int) ((pre.length+1:Nat):Int) (F.map fun f=>⟨f,D f⟩) k v' out K l:=fun v'=>by
      rw [List.length_append]; rfl
    have e:=kS to t (1900+y) (12*y+11) t103 t104 (F.length:Int) (pre.length:Int) (F.map fun f=>⟨f,D f⟩) k v out K l
    simp only [aP hlen,aP hlt,bj,cond_true,ay,bd hlt,hget] at e
    rw [S4 hy.1 hy.2,Option.bind_some,qG _ _ (by have:=hD f; omega),Option.bind_some] at e
    rw [show aU (D f) (⟨yS y,yS (y+1)⟩:GSpan) = aU (D f) (jh y) from rfl,hn,Option.bind_some,aW hlen (by omega)] at e
    by_cases hz:en (D f) y = 0
    · rw [hz,j9,cond_true] at e
      have es:bt t to y D (f :: rest) (GK k v (1900+y)) = bt t to y D rest (GK k v (1900+y)):=by
        conv=>lhs; unfold bt
        rw [hz,j9,cond_true]
      rw [e,es, ← key]
      exact ih (pre++[f]) v hpre hl (by rw [List.length_append]; simp only [List.length_cons,List.length_nil]; omega)
    · obtain ⟨c1,c2,c3,c4⟩:=LM (c:=f.Currency) ht (uO f (en (D f) y)) hto hm
      rw [fx.2 hz,cond_false,(D7 f _).1,Option.bind_some,c1,Option.bind_some] at e
      have es:bt t to y D (f :: rest) (GK k v (1900+y)) = bif aK (qk t to (12*y+11) (cY f (en (D f) y)) f.Currency).2 0 then (0,(qk t to (12*y+11) (cY f (en (D f) y)) f.Currency).2) else
          bt t to y D rest (GK k v (1900+y)+(qk t to (12*y+11) (cY f (en (D f) y)) f.Currency).1):=by
        conv=>lhs; unfold bt
        rw [fx.2 hz,cond_false]
      rw [e,es]
      generalize qk t to (12*y+11) (cY f (en (D f) y)) f.Currency = r at c3 ⊢
      by_cases hr:r.2 = 0
      · rw [hr,lE.2 rfl,cond_false,cond_false]
        have hp:=UM hk hl (ab (GK k v (1900+y)+r.1))
        have hp3:=hp.2.2 _ hk
        rw [if_pos rfl] at hp3
        have hb:(F.length:Int)≤1000:=by omega
        have hw:ab (GK k v (1900+y)+r.1) = GK k v (1900+y)+r.1:=ah (by omega) (by
          have:(pre.length:Int)*27000000000≤1000*27000000000:=Int.mul_le_mul_of_nonneg_right (by omega) (by omega)
          omega)
        have hp4:=hp3.trans hw
        rw [show lJ (.i .i64) k (1900+y) = k from hp.1]
        show _∨_
        have:=ih (pre++[f]) (lu tI k v (1900+y) (ab (GK k v (1900+y)+r.1))) hpre (hl.trans hp.2.1.symm) (by
          rw [hp4,List.length_append]
          simp only [List.length_cons,List.length_nil]
          rw [show ((pre.length+(0+1):Nat):Int) = (pre.length:Int)+1 by omega,Int.add_mul]
          omega)
        rw [hp4,key] at this
        rcases this with h | ⟨h1,v',g1,g2,g3,g4,g5⟩
        · exact .inl h
        · exact .inr ⟨h1,v',g1,g2,fun z hz hne=>(g3 z hz hne).trans (by rw [hp.2.2 z hz,if_neg hne]),g4,g5⟩
      · rw [mE.2 hr,cond_true,cond_true]
        exact .inl ⟨hr,rfl⟩
end
noncomputable def jf (t:List GRate) (to:Int) (D:GFact→List GSpan) (F:List GFact):List Int→List GEarning→List GEarning × Int
  | [],out=>(out,0)
  | y :: r,out=>bif aK (bt t to y D F 0).2 0 then ([],(bt t to y D F 0).2) else bif aa (1000000000000 < (bt t to y D F 0).1) then ([],2) else jf t to D F r (out++[⟨1900+y,(bt t to y D F 0).1⟩])
theorem Kr {t:List GRate} {to:Int} {D D':GFact→List GSpan} {F F':List GFact} (h:∀ y,bt t to y D F 0 = bt t to y D' F' 0):∀ (ys:List Int) (out:List GEarning),jf t to D F ys out = jf t to D' F' ys out
  | [],out=>rfl
  | y :: r,out=>by
    unfold jf
    rw [h y]
    simp only [Kr h r]
section
variable {t:List GRate} (ht:pn t) {to:Int} (hto:1≤to∧to≤999) {l:List GFact} {D:GFact→List GSpan} (hD:∀ f,(D f).length≤100000)
include ht hto hD
theorem QB (F:List GFact) (hF:F.length≤1000) (k:List Int) (ys:List Int) (hys:∀ y∈ys,(0≤y∧y≤199)∧1900+y∈k) (hnd:ys.Nodup) (hyl:ys.length≤1000):∀ (rest pre:List Int) (v:List Int) (out:List GEarning),ys = pre++rest→k.length = v.length →
    (∀ y∈rest,GK k v (1900+y) = 0)→out.length≤pre.length →
    gp to t ((ys.map fun y=>1900+y).length:Int) (pre.length:Int) (F.map fun f=>⟨f,D f⟩) k v out (ys.map fun y=>1900+y) l = some ((jf t to D F rest out).1,(jf t to D F rest out).2,l):=by
  intro rest
  induction rest with
  | nil =>
    intro pre v out he hl hz ho
    rw [List.append_nil] at he
    subst he
    rw [mU,List.length_map,aX,cond_false]
    rfl
  | cons y rest ih =>
    intro pre v out he hl hz ho
    have hlen:pre.length < ys.length:=by rw [he]; simp
    have hlt:pre.length < (ys.map fun y=>1900+y).length:=by rw [List.length_map]; exact hlen
    have hget:(ys.map fun y=>1900+y)[pre.length] = 1900+y:=by
      rw [List.getElem_map]
      have:ys[pre.length] = y:=by subst he; simp
      rw [this]
    have hym:y∈ys:=by rw [he]; simp
    obtain ⟨hy,hk⟩:=hys y hym
    have e:=mU to t ((ys.map fun y=>1900+y).length:Int) (pre.length:Int) (F.map fun f=>⟨f,D f⟩) k v out (ys.map fun y=>1900+y) l
    simp only [aP hlt,bj,cond_true,ay,bd hlt,hget] at e
    rw [show 1900+y - 1900 = y by omega,ah (n:=y) (by omega) (by omega),ah (n:=12*y) (by omega) (by omega),ah (n:=12*y+11) (by omega) (by omega)] at e
    rw [e]
    have h0:GK k v (1900+y) = 0:=hz y (by simp)
    have hin:=QY ht hto hD (l:=l) F hF hy ((ys.map fun y=>1900+y).length:Int) (pre.length:Int) k hk out (ys.map fun y=>1900+y) F [] v rfl hl (by rw [h0]; simp)
    rw [h0] at hin
    rw [show (((F.map fun f=>(⟨f,D f⟩:GEarnings_income)).length:Nat):Int) = (F.length:Int) by rw [List.length_map]]
    have er:jf t to D F (y :: rest) out = bif aK (bt t to y D F 0).2 0 then ([],(bt t to y D F 0).2) else bif aa (1000000000000 < (bt t to y D F 0).1) then ([],2) else jf t to D F rest (out++[⟨1900+y,(bt t to y D F 0).1⟩]):=by
      conv=>lhs; unfold jf
    rw [er]
    rcases hin with ⟨h1,h2⟩ | ⟨h1,v',g1,g2,g3,g4,g5⟩
    · rw [mE.2 h1,cond_true]
      exact h2
    · rw [h1,lE.2 rfl,cond_false]
      refine g5.trans ?_
      rw [kS,aX,cond_false]
      show (bif aa (1000000000000 < GK k v' (1900+y)) then _ else _) = _
      rw [g2]
      by_cases hbig:1000000000000 < (bt t to y D F 0).1
      · rw [aB hbig,cond_true,cond_true]
      · rw [aE hbig,cond_false,cond_false,jO (by omega) (by omega),aW hlt (by rw [List.length_map]; omega)]
        have hnd2:=hnd
        rw [he,List.nodup_append] at hnd2
        have hny:y ∉ rest:=(List.nodup_cons.1 hnd2.2.1).1
        have:=ih (pre++[y]) v' (out++[⟨1900+y,GK k v' (1900+y)⟩]) (by rw [he]; simp) g1 (fun z hz'=>by
          have hne:(1900+z:Int)≠1900+y:=fun h=>by
            have:z = y:=by omega
            exact hny (this ▸ hz')
          rw [g3 _ (hys z (by rw [he]; simp [hz'])).2 hne]
          exact hz z (by simp [hz'])) (by rw [List.length_append,List.length_append]; simp; omega)
        rw [List.length_append] at this
        rw [g2] at this
        rw [show mX tI k v' (1900+y) 0 = (bt t to y D F 0).1 from g2]
        exact this
end
end Go.Ax
