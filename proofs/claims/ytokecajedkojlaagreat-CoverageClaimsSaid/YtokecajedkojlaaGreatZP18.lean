import Derived.Test.YtokecajedkojlaaGreatZP17
set_option linter.all false
/- The laws of chapter 16: the claims of a career. -/
set_option maxRecDepth 100000
namespace Go.Ax
theorem Jf (l:List GPensionhand_Fact) (n:List Int) (hn:n.length≤100000000):En (fun a:List GFact=>a.length≤30) (qA l n):=by
  rw [BE]
  have fin:∀ out:List GFact,out.length≤12→En (fun a:List GFact=>a.length≤30) (bif aa ((0:Int) < (n.length:Int)) then (pY n).bind fun r1=>(ux r1 1).bind fun r2=>gb (aa (((out.length+r2.length)*112)≤140737488355328))<|gb (aa ((out.length+r2.length)≤140737488355328))<|(ju (out++r2) []).bind fun r3=>some r3
      else (ju out []).bind fun r4=>some r4):=by
    intro out ho
    refine En.bif (fun _=>.bind (NH n hn) fun r1 h1=>?_) fun _=>.bind (Gv out [] (by simp; omega)) fun r h=>.some (by simp at h; omega)
    rw [Iq r1 1 (by omega),Option.bind_some]
    have hf:=List.length_filter_le (Oo 1) r1
    exact En.gd (by omega) (En.gd (by omega) (.bind (Gv _ [] (by simp; omega)) fun r h=>.some (by simp at h; omega)))
  have key:∀ (k:Nat) (i:Int) (out:List GFact),12 - i≤k→0≤i→i≤12→(out.length:Int)≤i→En (fun a:List GFact=>a.length≤30) (iG l n i out):=by
    intro k
    induction k with
    | zero=>intro i out hk h0 hi ho; rw [ny]; exact En.and (fun _ e=>by have:=aD e; omega) fun _=>fin out (by omega)
    | succ k ih =>
      intro i out hk h0 hi ho
      rw [ny]
      refine En.and (fun a b=>?_) fun _=>fin out (by omega)
      have a:=aD a
      have b:=aD b
      have nx:∀ r,En (fun a:List GFact=>a.length≤30) (gx l n i out r):=by
        intro r
        rw [tC,ak (n:=i+1) (by omega) (by omega)]
        exact .bind (Oy r) fun f _=>En.gd (by omega) (En.gd (by omega) (ih _ _ (by omega) (by omega) (by omega) (by simp; omega)))
      exact En.gd h0 (En.gd a (En.bif (fun _=>oE (by decide) fun y _ _=>nx _) fun _=>nx _))
  exact key 12 0 [] (by omega) (by omega) (by omega) (by simp)
def Gm (s:List GScheme):Prop:=s.length≤4∧∀ x∈s,lE x
theorem PR {v:GVersion} (h:nI v) (i:Int):lE ⟨i,v⟩:=⟨by show v.Credits.length≤1000; have:=h.1; omega,fun c hc=>by have:=h.2 c hc; omega⟩
theorem LA (v:List GPensionmade_Version) (order:Int):En Gm (pm v order):=by
  rw [A9]
  have fin:∀ out:List GScheme,Gm out→En Gm (gb ((!(aa (1 < (out.length:Int))&&true))||true)<|bif (bif aa (1 < (out.length:Int)) then (ah (Int.tmod order 11) 0) else false) then gb (aa (0 < (out.length:Int)))<|some (List.set out 0 (⟨(Int.tmod order 8),(gD out 0 (zS .GScheme)).Version⟩:GScheme)) else some out):=by
    intro out ho
    refine En.gb (by simp) (En.and (fun a _=>?_) fun _=>.some ho)
    have a:=aD a
    refine En.gd (by omega) (.some ⟨by rw [List.length_set]; exact ho.1,fun x hx=>?_⟩)
    rcases List.mem_or_eq_of_mem_set hx with hx | rfl
    · exact ho.2 x hx
    · exact ho.2 (gD out 0 (zS .GScheme)) (AY (i:=0) (by omega))
  have key:∀ (k:Nat) (i:Int) (out:List GScheme),4 - i≤k→0≤i→i≤4→(out.length:Int)≤i→(∀ x∈out,lE x)→En Gm (gH v order i out):=by
    intro k
    induction k with
    | zero=>intro i out hk h0 hi ho hx; rw [mF]; exact En.and (fun _ e=>by have:=aD e; omega) fun _=>fin out ⟨by omega,hx⟩
    | succ k ih =>
      intro i out hk h0 hi ho hx
      rw [mF,ak (n:=i+1) (by omega) (by omega)]
      refine En.and (fun a b=>?_) fun _=>fin out ⟨by omega,hx⟩
      have a:=aD a
      have b:=aD b
      refine En.gd h0 (En.gd a (.bind (P4 _) fun x hv=>En.gd (by omega) (En.gd (by omega) (ih _ _ (by omega) (by omega) (by omega) (by simp; omega) fun y hy=>?_))))
      rcases List.mem_append.1 hy with hy | hy
      · exact hx y hy
      · rw [List.mem_singleton.1 hy]; exact PR hv i
  exact key 4 0 [] (by omega) (by omega) (by omega) (by simp) fun x hx=>by simp at hx
theorem uc (l:List GSpan) (h:l.length < 2):fw l = l:=by
  unfold fw gW
  rw [if_pos h]
theorem EU:aV [] = []:=by
  unfold aV
  rw [show gC [] = [] from rfl,uc _ (by simp)]
  rfl
theorem xr {s:GSpan} (h0:0≤s.From) (h1:s.From < s.To) (h2:s.To≤73049):aV [s] = [s]:=by
  have e:aK s = s:=by
    unfold aK
    rw [if_neg (by omega),if_neg (by omega)]
  have ec:gC [s] = [s]:=by
    unfold gC
    rw [List.map_cons,List.map_nil,e,List.filter_cons,if_pos (by unfold oc; exact decide_eq_true h1),List.filter_nil]
  unfold aV
  rw [ec,uc _ (by simp)]
  rfl
def sq:GFact:=⟨0,1,1,false,1,8,2,(⟨100,130⟩:GSpan),0,0,0,0,0⟩
def o7:GScheme:=⟨2,(⟨0,(⟨0,0⟩:GRounding),[(⟨8,10⟩:GCredit)],[],[],[],[]⟩:GVersion)⟩
theorem Hy {a b c d:Int} (h0:0≤a) (h1:a < b) (h2:b≤73049) (g0:0≤c) (g2:d≤73049) (hc:c≤a) (hd:b≤d):bp [⟨a,b⟩] ⟨c,d⟩ = [⟨a,b⟩]:=by
  unfold bp
  rw [xr h0 h1 h2,xr (s:=⟨c,d⟩) g0 (by show c < d; omega) g2,jt]
  have e:n8 ⟨a,b⟩ ⟨c,d⟩ = [⟨a,b⟩]:=by
    have m:iQ ⟨a,b⟩ ⟨c,d⟩ = ⟨a,b⟩:=by
      unfold iQ
      rw [if_neg (by show ¬ a < c; omega),if_neg (by show ¬ d < b; omega)]
    unfold n8
    rw [m,if_pos h1]
  rw [e]
  split <;> simp [iI,jo]
theorem Pl:jB [sq] 8 2 ⟨0,1000⟩ 10 = [⟨100,110⟩]:=by
  unfold jB
  have es:df [sq] 8 2 = [⟨100,130⟩]:=by unfold df; rfl
  have el:dw [sq] = ⟨0,73049⟩:=by
    unfold dw
    rw [show gm [sq] 12 = (0,false) from rfl,show gm [sq] 11 = (0,false) from rfl]
    show (if (73048:Int) < 0 then (⟨0,0⟩:GSpan) else ⟨0,ac (73048+1)⟩) = _
    rw [if_neg (by omega),ak (by omega) (by omega)]
    rfl
  rw [if_neg (by omega),es,el,Hy (by omega) (by omega) (by omega) (by omega) (by omega) (by omega) (by omega),Hy (by omega) (by omega) (by omega) (by omega) (by omega) (by omega) (by omega)]
  unfold nC
  rw [if_neg (by omega),xr (by show (0:Int)≤100; omega) (by show (100:Int) < 130; omega) (by show (130:Int)≤73049; omega)]
  rfl
theorem NW:kP [sq] [] [o7] ⟨0,1000⟩ = [⟨2,5,⟨100,110⟩⟩]:=by
  have e1:qv [] o7 ⟨0,1000⟩ = []:=by
    unfold qv bp
    rw [show gz [] o7.State 3 = [] from rfl,EU,EU,iI]
    rfl
  have e2:mN [sq] o7 ⟨0,1000⟩ (8,5) = [⟨2,5,⟨100,110⟩⟩]:=by
    have:=Pl
    unfold mN
    rw [if_pos (by rfl)]
    show tM 2 5 (jB [sq] 8 2 ⟨0,1000⟩ 10) = _
    rw [this]; rfl
  have e3:∀ p:Int × Int,p.1≠8→mN [sq] o7 ⟨0,1000⟩ p = []:=by
    intro p hp
    unfold mN
    have:dx p.1 o7.Version.Credits = (0,false):=by
      show (if (8:Int) = p.1 then _ else _) = _
      rw [if_neg (fun h=>hp h.symm)]; rfl
    rw [this,if_neg (by simp)]
  unfold kP tw
  rw [List.flatMap_cons,List.flatMap_nil,List.append_nil,e1,List.nil_append]
  unfold kr
  simp only [List.flatMap_cons,List.flatMap_nil]
  rw [e3 (6,2) (by decide),e3 (9,3) (by decide),e3 (7,4) (by decide),e2,e3 (10,6) (by decide),e3 (5,7) (by decide)]
  rfl
theorem Ph:∀ x∈[o7],lE x:=by
  intro x hx
  rw [List.mem_singleton.1 hx]
  refine ⟨by decide,fun c hc=>?_⟩
  have:c = ⟨8,10⟩:=List.mem_singleton.1 hc
  rw [this]
  exact ⟨by decide,by decide⟩
theorem OM:sW = some true:=by
  have e:eT [sq] [] [o7] 1000 = some ([⟨2,5,⟨100,110⟩⟩],0):=by
    rw [oT,dB (p:=(1000:Int) < 0) (by omega),dB (p:=(73049:Int) < 1000) (by omega),cond_false,cond_false]
    refine Eq.trans (b:=ct [sq] [] [o7] 1000 [o7] (([o7].length:Nat):Int) (([o7].length:Nat):Int)) ?_ ?_
    · rw [eu [sq] [] [o7] 1000 [o7] (([o7].length:Nat):Int) 0]; kernel_rfl
    · rw [eu,bm,cond_false]
      refine (HB [sq] (by simp) [] (by simp) [o7] (by simp) Ph ⟨0,1000⟩).trans ?_
      rw [NW]
  rw [D5]
  show (eT [sq] [] [o7] 1000).bind _ = _
  rw [e]
  kernel_rfl
theorem yn (l:List GPensionhand_Fact) (n:List Int) (v:List GPensionmade_Version) (order before:Int):mU l n v order before = some true:=by
  rw [rK]
  cases hc:(bif aa (60 < (n.length:Int)) then true else aa (5 < (v.length:Int))) with
  | true=>rfl
  | false =>
    have hn:n.length≤60:=by
      rw [gf] at hc
      have:=qj (Bool.or_eq_false_iff.1 hc).1
      omega
    rw [cond_false]
    obtain ⟨a,ha,h1⟩:=Jf l n (by omega)
    obtain ⟨y,hy,h2⟩:=OT n (by omega)
    obtain ⟨m1,m2⟩:=Nx h2
    obtain ⟨w,hw,h3⟩:=Pw a h1 y.2.1 m1 m2
    have p63:∀ b,dE v order b a w = some true:=by
      intro b
      obtain ⟨s,hs,h4,h5⟩:=LA v order
      obtain ⟨z,z1,z2,z3⟩:=I7 a (by omega) w h3 s (by omega) h5 b
      have hl:z.1.length≤1000000000:=by
        rcases z3 with rfl | rfl
        · simp
        · have:=Jv a w s (by omega) ⟨0,b⟩; simp only []; omega
      rw [pe,hs,Option.bind_some,z1,Option.bind_some,z2,Option.bind_some,OM,Option.bind_some,cond_true,Ab,cond_true,AF z.1 hl]
      rfl
    rw [ha,Option.bind_some,hy,Option.bind_some,hw,Option.bind_some,p63]
    rw [wl before 30000 (by omega),Option.bind_some,p63]
    cases bn (Int.tmod before 9) 0 <;> rfl
end Go.Ax
