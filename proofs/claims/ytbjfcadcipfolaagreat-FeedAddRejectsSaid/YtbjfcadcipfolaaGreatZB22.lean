import Derived.Test.YtbjfcadcipfolaaGreatZB13
import Derived.SizedLaws
set_option linter.all false
/- What a row asks of a call, where the size of its slices is needed. -/
namespace Go.Ax
open Go.RowKit Go.ChangeShapes Go.WideShapes Go.ChangeAt
section
variable {H:Type} {enc:TypeId × Value→H} {P:Program} {w:World}
theorem Fl {base:Nat} {spare:Nat→Bool} {held:Bool} {fuel:Nat} {t e:TypeId} {a:Option Addr} {n c:Nat} {x:DataW H × List MemPlace} (hu:P.underlying t = some (.slice e)) (h:DataW.trod enc P w base spare held fuel t [.slice a n c] = some x) :
  n = 0∨∃ elems sp,x.1 = .slice elems sp∧elems.length = n:=by
 cases fuel with
 | zero=>simp [DataW.trod] at h
 | succ fuel =>
  unfold DataW.trod at h
  rw [hu] at h
  simp only at h
  cases a with
  | none =>
   by_cases hn:n = 0
   ·exact .inl hn
   ·exfalso
    split at h <;> simp_all
  | some a =>
   right
   have h:(if base≤a.block∧n≤c∧c≤maxLen then _ else none) = some x:=h
   by_cases hc:base≤a.block∧n≤c∧c≤maxLen
   ·rw [if_pos hc] at h
    obtain ⟨elems,hm,h⟩:=Option.bind_eq_some_iff.1 h
    have hl:=(xP hm).1
    rw [List.length_range] at hl
    obtain ⟨rest,_,rfl⟩:=Option.map_eq_some_iff.1 h
    exact ⟨_,_,rfl,by rw [List.length_map];exact hl⟩
   ·rw [if_neg hc] at h
    cases h
theorem Bx {ok:Nat→Prop} {base:Nat} {spare:Nat→Bool} {held:Bool}:∀ (ts:List TypeId) (vs:List Value) (xs:List (DataW H)) (ps:List MemPlace) (us:List V),DataW.TrodAll enc P w base spare held ts vs xs ps→aJ (dc ok) w vs us →
  ∀ (j:Nat) (t e:TypeId) (τ:Ty) (l:List τ.T),ts[j]? = some t→P.underlying t = some (.slice e)→us[j]? = some (.c (.sl τ l))→l.length = 0∨∃ elems sp,xs[j]? = some (.slice elems sp)∧elems.length = l.length
 | [],vs,xs,ps,us,h,hr,j,t,e,τ,l,h1,_,_=>by simp at h1
 | t0 :: ts,vs,xs,ps,us,h,hr,j,t,e,τ,l,h1,h2,h3=>by
  obtain ⟨v,vs1,x,xs1,p,q,rfl,rfl,rfl,g1,g2⟩:=trodAll_cons h
  cases us with
  | nil=>simp at h3
  | cons u us =>
   cases j with
   | zero =>
    simp only [List.getElem?_cons_zero,Option.some.injEq] at h1 h3
    subst h1 h3
    have hv:=hr.2 0 v _ rfl rfl
    cases hv with
    | c _ _ hv =>
     cases hv with
     | sl =>
      obtain ⟨fuel,hf⟩:=g1
      rcases Fl h2 hf with e0 | ⟨elems,sp,ex,el'⟩
      ·exact .inl (by omega)
      ·exact .inr ⟨elems,sp,by rw [List.getElem?_cons_zero];exact congrArg some ex,by omega⟩
   | succ j =>
    simp only [List.getElem?_cons_succ] at h1 h3 ⊢
    exact Bx ts vs1 xs1 q us g2 ⟨by have:=hr.1;simpa using this,fun i v d hv hd=>hr.2 (i+1) v d (by simpa using hv) (by simpa using hd)⟩ j t e τ l h1 h2 h3
theorem Dh {P:Program} {f:FuncId} {fn:Func} (us0:List Ty) (hm:∀ (w:World) (xs:List Value) (a:HP us0),(∀ n,nD (kO n) us0 a)→(∀ (j:Nat) (t e:TypeId) (τ:Ty) (l:List τ.T),fn.params.toList[j]? = some t→P.underlying t = some (.slice e)→((dZ us0 a).map TV.v)[j]? = some (.c (.sl τ l))→l.length*P.bytesOf e≤reachBytes)→aJ (dc fun b=>b < w.heap.size) w xs ((dZ us0 a).map TV.v)→fy P f xs.toArray w fun v w'=>Below w.heap.size w w'∧v = .bool true)
  {s:ChangeSpec} {apart fresh handsOn again:Bool} (hbody:∃ c,fn.body = some c) (hfn:P.funcs[f]? = some fn)
  (hname:(fn.name == "runtime.NumGoroutine") = false) (hl:laidOutB P = true) (d:Nat)
  (hpl:tE P d fn.params.toList us0 = true) (hrd:fn.params.toList.all (fun t=>P.readableRec t&&decide (t < P.types.size)) = true) (hvr:ra P s.vars = true)
  {tb:TypeId} (hres:fn.resultTypes = #[tb]) (hbool:P.underlying tb = some .bool)
  (hspec:∀ (ds gs:List (DataW H)),ds.length = fn.params.toList.length→gs.length = s.vars.length→(s.fn H (ds++gs)).results = [.lit (.bool true)]∧(s.fn H (ds++gs)).args = ds∧(s.fn H (ds++gs)).vars = gs)
  (W:World) (base:Nat) (args:Array Value) (ds gs:List (DataW H)) (before:List MemPlace)
  (hval:∀ (j:Nat) t v,fn.params[j]? = some t→args[j]? = some v→Value.okWide P W .any base t v)
  (hW:DataW.Whole enc P fn.params.toList s.vars apart W args.toList ds gs before)
  (hsz:(DataW.weightsEach P (fn.params.toList++s.plain.varTypes P) (ds++gs)).all (·≤reachBytes) = true) :
  Calls P f args W fun e W'=>∃ v,e = .returned v∧s.post enc P fn apart fresh handsOn again W args v W':=by
 have hW':=hW
 obtain ⟨p,q,hA,hV,rfl,hfz,hnd⟩:=hW
 obtain ⟨a,hwf,hrep⟩:=xz (enc:=enc) (ok:=fun b=>b < W.heap.size) (fun _ h=>h) (d:=d) fn.params.toList us0 args.toList ds p hpl (fun j t v ht hv=>hval j t v (by simpa using ht) (by simpa using hv)) hA
 have hdo:=hm W args.toList a hwf (fun j t e τ l h1 h2 h3=>by
  rcases Bx _ _ _ _ _ hA hrep j t e τ l h1 h2 h3 with h4 | ⟨elems,sp,h4,h5⟩
  ·rw [h4,Nat.zero_mul];exact Nat.zero_le _
  ·have hj:j < fn.params.toList.length:=(List.getElem?_eq_some_iff.1 h1).1
   have hj2:j < ds.length:=(List.getElem?_eq_some_iff.1 h4).1
   have:=sized_slice hsz (j:=j) (t:=t) (e:=e) (by rw [List.getElem?_append_left hj];exact h1) (by rw [List.getElem?_append_left hj2];exact h4) h2
   have h6:elems.length*P.bytesOf e≤(elems.length+sp.length)*P.bytesOf e:=Nat.mul_le_mul_right _ (by omega)
   rw [← h5]
   omega) hrep
 have hent:(callFunc f args).run P W = .ok (.enter f args) W:=by
  obtain ⟨c,hb⟩:=hbody
  exact jx hfn hb hname args W
 have hlen:∀ {ts:List TypeId} {vs:List Value} {xs:List (DataW H)} {ps:List MemPlace},DataW.TrodAll enc P W 0 (fun _=>true) true ts vs xs ps→xs.length = ts.length:=by
  intro ts
  induction ts with
  | nil=>intro vs xs ps h;obtain ⟨rfl,rfl,rfl⟩:=trodAll_nil h;rfl
  | cons t ts ih =>
   intro vs xs ps h
   obtain ⟨v,vs1,x,xs1,p,q,rfl,rfl,rfl,h1,h2⟩:=trodAll_cons h
   simp [ih h2]
 have hlenV:∀ {ns:List String} {xs:List (DataW H)} {ps:List MemPlace},DataW.TrodVars enc P W (fun _=>true) ns xs ps→xs.length = ns.length:=by
  intro ns
  induction ns with
  | nil=>intro xs ps h;cases xs with | nil=>rfl | cons x xs=>exact h.elim
  | cons n ns ih =>
   intro xs ps h
   cases xs with
   | nil=>exact h.elim
   | cons x xs =>
    obtain ⟨g,t,cs,fuel,p,q,h1,h2,h3,h4,hs,e⟩:=h
    simp [ih hs]
 obtain ⟨s1,s2,s3⟩:=hspec ds gs (hlen hA) (hlenV hV)
 rcases hdo with ⟨_,hcalls⟩ | ⟨v,w',hrun,_⟩
 ·rw [Array.toArray_toList] at hcalls
  refine hcalls.mono ?_
  rintro e W' ⟨v,rfl,hb,rfl⟩
  refine ⟨_,rfl, ?_⟩
  have hlt:∀ x∈p++q,x.block < W.heap.size:=fun x hx=>hW'.lt x hx
  refine yM (pa:=p) (pv:=q) hW' (fun b sp hd=>?_) (fun sp hsp=>?_) (fun sp hsp=>?_) rfl hb ?_
  ·rw [s1,hres]
   exact trodAll_mk1 (shut_bool hbool true)
  ·rw [s2]
   exact Below.trodAll hl hb hrd hA (fun x hx=>hlt x (by simp [hx])) (fun x hx=>hsp x (by simp [hx]))
  ·rw [s3]
   exact Below.trodVars' hl hb hvr hV (fun x hx=>hsp x (by simp [hx]))
  ·exact ok_one hres rfl (okWide_bool_mk hbool true)
 ·have:(callFunc f args.toList.toArray).run P W = .ok (.enter f args) W:=by simpa using hent
  rw [this] at hrun
  cases hrun
end
end Go.Ax
