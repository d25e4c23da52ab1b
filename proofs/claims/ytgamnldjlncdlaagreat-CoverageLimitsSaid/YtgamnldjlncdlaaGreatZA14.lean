import Derived.Test.YtgamnldjlncdlaaGreatZA13
set_option linter.all false
/- Functions that call themselves: contracts as far as a number of calls goes, and for good. -/
namespace Go.Ax
open Go.RowKit
open Classical in
noncomputable def t7 {α:Type} (g:Nat→Option α):Option α:=if h:∃ n,(g n).isSome = true then g h.choose else none
theorem Mi {α:Type} {g:Nat→Option α} {y:α} (h:t7 g = some y):∃ n,g n = some y:=by
  unfold t7 at h
  split at h
  · next he=>exact ⟨_,h⟩
  · cases h
theorem WC {α:Type} {g:Nat→Option α} {n:Nat} {x:α} (h:g n = some x):∃ m y,g m = some y∧t7 g = some y:=by
  have he:∃ n,(g n).isSome = true:=⟨n,by rw [h]; rfl⟩
  obtain ⟨y,hy⟩:=Option.isSome_iff_exists.1 he.choose_spec
  exact ⟨_,y,hy,by unfold t7; rw [dif_pos he]; exact hy⟩
def pL {A R:Type} (D:List V→Option (A × List Prop)) (out:R→bK) (z:R) (F:A→Option R):bU:=fun vs=>match D vs with
  | some (a,ps)=>some (ps++[(F a).isSome = true],out ((F a).getD z))
  | none=>none
def lN {A R:Type} (D:List V→List Ob→Option (A × List Prop)) (val:R→V) (obs:List Ob→R→List Ob) (ks:List Bool) (z:R) (F:A→Option R):List V→List Ob→Option Gb:=fun vs os=>match D vs os with
  | some (a,ps)=>some ⟨ps++[(F a).isSome = true],val ((F a).getD z),obs os ((F a).getD z),ks⟩
  | none=>none
def K6:List Ob→Nat→Ob
  | [],_=>.box []
  | b :: _,0=>b
  | _ :: r,i+1=>K6 r i
theorem Hf {T:Type} {enc:T→List D} {dec:List D→T} {z:T} {t k0 k n:Nat} {el:Nat→List D} (h:aJ enc dec k0 k n el) (hf:∀ x,(enc x).all D.isLit = true):pD (.row t k0 (lst dec n el).length (aV enc z (lst dec n el))) (.row t k0 n el):=by
  refine ⟨rfl,rfl,dO,fun i hi=>.of_eq ?_⟩
  have hi':i < n:=by rw [dO] at hi; exact hi
  rw [aV,qW hi']
  exact (h.eq hf i hi').symm
section
variable {P:Program} {f:FuncId} {A R:Type}
theorem re {ps:List Prop} {q:Prop} (h:∀ p∈ps++[q],p):(∀ p∈ps,p)∧q:=⟨fun p hp=>h p (by simp [hp]),h q (by simp)⟩
theorem Pq {ps:List Prop} {q:Prop} (h:∀ p∈ps,p) (hq:q):∀ p∈ps++[q],p:=fun p hp=>by
  rw [List.mem_append,List.mem_singleton] at hp
  rcases hp with hp | rfl
  · exact h p hp
  · exact hq
theorem Od {D:List V→Option (A × List Prop)} {out:R→bK} {z:R} {F:A→Option R} {fn:Func} {c:Code} (hf:P.funcs[f]? = some fn) (hb:fn.body = some c) (hn:(fn.name == "runtime.NumGoroutine") = false) {rs:List ResultVar} (hr:fn.results.toList = rs) {nt:Nat} (ht:fn.ntmps = nt)
    (h:∀ vs a ps,D vs = some (a,ps)→(∀ q∈ps,q)→∀ y,F a = some y→∃ vs',VLes vs vs'∧(Nat.ble vs'.length nt&&Nat.ble nt 1000000) = true∧ar P nt (aA c) (eC P rs (dN (out y))) { tm:=gk vs' 0,hp:=[],nx:=0 }):bc P f (pL D out z F):=by
  refine nT hf hb hn hr ht fun vs p o h1 h2=>?_
  unfold pL at h1
  split at h1
  · next a ps hd =>
    cases h1
    obtain ⟨h3,h4⟩:=re h2
    obtain ⟨y,hy⟩:=Option.isSome_iff_exists.1 h4
    rw [hy]
    exact h vs a ps hd h3 y hy
  · cases h1
theorem AU {D:List V→Option (A × List Prop)} {out:R→bK} {z:R}:bc P f (pL D out z fun _=>none):=by
  intro ok w xs vs p o _ _ h1 h2
  unfold pL at h1
  split at h1
  · next a ps hd =>
    cases h1
    have:=(re h2).2
    cases this
  · cases h1
theorem DR {D:List V→Option (A × List Prop)} {out:R→bK} {z:R} {F:Nat→A→Option R} (h:∀ n,bc P f (pL D out z (F n))):bc P f (pL D out z fun a=>t7 fun n=>F n a):=by
  intro ok w xs vs p o hx hok h1 h2
  unfold pL at h1
  split at h1
  · next a ps hd =>
    cases h1
    obtain ⟨h3,h4⟩:=re h2
    obtain ⟨y,hy⟩:=Option.isSome_iff_exists.1 h4
    obtain ⟨n,hn⟩:=Mi hy
    rw [hy]
    refine h n ok w xs vs _ _ hx hok (show pL D out z (F n) vs = some (ps++[(F n a).isSome = true],out y) by unfold pL; rw [hd]; simp only [hn]; rfl) (Pq h3 (by rw [hn]; rfl))
  · cases h1
theorem mo {nr:Bool} {fl:List Bool} {D:List V→List Ob→Option (A × List Prop)} {val:R→V} {obs:List Ob→R→List Ob} {ks:List Bool} {z:R} {F:A→Option R} {fn:Func} {c:Code} (hf:P.funcs[f]? = some fn) (hb:fn.body = some c) (hn:(fn.name == "runtime.NumGoroutine") = false) {rs:List ResultVar} (hr:fn.results.toList = rs) {nt:Nat} (ht:fn.ntmps = nt)
    (h:∀ vs os a ps,D vs os = some (a,ps)→(∀ q∈ps,q)→∀ y,F a = some y→∀ qs, ∃ vs',VLes vs vs'∧(Nat.ble vs'.length nt&&Nat.ble nt 1000000) = true ∧
      ar P nt (aA c) (eo P rs fun σ v=>∃ qs',ql nr os ⟨qs,val y,obs os y,ks⟩ qs' σ v) { tm:=gk vs' 0++pQ (zB 0 os),hp:=zB 0 os,nx:=os.length }):bR P f (.mut (lF nr fl (lN D val obs ks z F))):=by
  refine akc hf hb hn hr ht fun vs os g h1 h2=>?_
  unfold lN at h1
  split at h1
  · next a ps hd =>
    cases h1
    obtain ⟨h3,h4⟩:=re h2
    obtain ⟨y,hy⟩:=Option.isSome_iff_exists.1 h4
    simp only [hy,Option.getD_some]
    exact h vs os a ps hd h3 y hy _
  · cases h1
theorem Ut {nr:Bool} {fl:List Bool} {mc:List V→List Ob→Option Gb} {H:am} {nid:Nat} {args:List V} {r:cM} (h:lF nr fl mc H nid args = some r) :
    ∃ vs os g,mc vs os = some g∧r.pre = g.pre∧∀ (mc':List V→List Ob→Option Gb) (g':Gb),mc' vs os = some g'→g'.val = g.val→g'.obs = g.obs→g'.kls = g.kls→lF nr fl mc' H nid args = some { r with pre:=g'.pre }:=by
  unfold lF at h ⊢
  cases hg:(hY (oD fl H args)&&zO (oD fl H args) H&&dY (oD fl H args) H nr fl args) with
  | false=>rw [hg] at h; cases h
  | true =>
    rw [hg,cond_true] at h
    split at h
    · next g hh =>
      cases hg2:(Nat.beq g.obs.length (oD fl H args).length&&Nat.beq g.kls.length (oD fl H args).length) with
      | false=>rw [hg2] at h; cases h
      | true =>
        rw [hg2,cond_true] at h
        cases h
        refine ⟨_,_,g,hh,rfl,fun mc' g' k1 k2 k3 k4=>?_⟩
        rw [cond_true,k1]
        simp only [k2,k3,k4,hg2,cond_true]
    · cases h
theorem Ic {nr:Bool} {fl:List Bool} {D:List V→List Ob→Option (A × List Prop)} {val:R→V} {obs:List Ob→R→List Ob} {ks:List Bool} {z:R}:bR P f (.mut (lF nr fl (lN D val obs ks z fun _=>none))):=by
  intro E w H nid xs args r _ _ _ h1 h2
  obtain ⟨vs,os,g,hg,e,_⟩:=Ut h1
  rw [e] at h2
  unfold lN at hg
  split at hg
  · next a ps hd =>
    cases hg
    have:=(re h2).2
    cases this
  · cases hg
theorem Kb {nr:Bool} {fl:List Bool} {D:List V→List Ob→Option (A × List Prop)} {val:R→V} {obs:List Ob→R→List Ob} {ks:List Bool} {z:R} {F:Nat→A→Option R} (h:∀ n,bR P f (.mut (lF nr fl (lN D val obs ks z (F n))))) :
    bR P f (.mut (lF nr fl (lN D val obs ks z fun a=>t7 fun n=>F n a))):=by
  intro E w H nid xs args r hH hf hx h1 h2
  obtain ⟨vs,os,g,hg,e,hk⟩:=Ut h1
  rw [e] at h2
  unfold lN at hg
  split at hg
  · next a ps hd =>
    cases hg
    obtain ⟨h3,h4⟩:=re h2
    obtain ⟨y,hy⟩:=Option.isSome_iff_exists.1 h4
    obtain ⟨n,hn⟩:=Mi hy
    have e2:(t7 fun n=>F n a) = some y:=hy
    have:=hk (lN D val obs ks z (F n)) ⟨ps++[(F n a).isSome = true],val y,obs os y,ks⟩ (by unfold lN; rw [hd]; simp only [hn]; rfl) (by simp only [e2]; rfl) (by simp only [e2]; rfl) rfl
    have h5:=h n E w H nid xs args _ hH hf hx this (Pq h3 (by rw [hn]; rfl))
    exact wx.mono h5 fun v w' ⟨E',hP⟩=>⟨E',⟨hP.st,hP.heap,hP.val,hP.live⟩⟩
  · cases hg
end
end Go.Ax
