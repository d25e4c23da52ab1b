import Derived.Test.YtgamnldjlncdlaaGreatZA11
set_option linter.all false
/- Contracts over a box that holds an own row, or nil. -/
namespace Go.Ax
open Go.RowKit
section
variable {P:Program} {σ:St} {H:am} {nid:Nat} {nr:Bool}
theorem OF (o k i n:Nat) (r:List Nat):V.ren (o :: r) (.ptr o k i n) = .ptr 0 k i n:=by
  rw [V.ren]
  simp [pk]
theorem ajK {qb qr k n t:Nat} {cs:List V} {el:Nat→List D} (hb:am.get σ.hp qb = some (.box cs)) (hr:am.get σ.hp qr = some (.row t k n el)):qb≠qr:=fun e=>by
  subst e; rw [hb] at hr; cases hr
theorem On {ob oc qb qr k n t:Nat} {os kl:List Nat} {cs0:List V} {el el':Nat→List D} {p:List Prop} {v rv:V} (hne:ob≠oc) (h0:am.get H ob = some (.box cs0)) (hl:cs0.length = 1)
    (hb:am.get σ.hp qb = some (.box [.row qr k 0 n])) (hr:am.get σ.hp qr = some (.row t k n el)) (hgh:bv σ.tm 1000000 = some ⟨[], .ptr qb 1 0 0⟩) (he:∀ i,i < n→el i = el' i)
    (hv:v.refs = []) (hvle:VLe v rv) (hs:nr = true∨(v.sclr = true∧∀ i,i < n→∀ d∈el i,d.scal = true)) (hos:os = [ob,oc]∧kl = [oc]∨os = [ob]∧kl = []∧oc = nid) :
    Left os nid H nr { pre:=p,val:=rv,eff:=[(ob,some (.box [.row oc k 0 n])),(oc,some (.row t k n el'))],kill:=kl } [(qb,ob),(qr,oc)] σ v:=by
  have hq:qb≠qr:=ajK hb hr
  have hk1:jW [(qb,ob),(qr,oc)] qr = oc:=by
    rw [jW,sQ hq,cond_false,jW,IG,cond_true]
  refine ⟨fun a b c h1 h2=>?_,fun a b c h1 h2=>?_,fun a b h=>?_,by rw [mp_norefs _ v hv]; exact hvle,fun a h=>by rw [hv] at h; simp at h,by rw [MW hv]; rfl,hs.imp id (·.1),fun a b h=>?_,fun a b h=>?_,fun a h=>?_,fun a h=>?_,fun i a h=>?_⟩
  · simp at h1 h2
    rcases h1 with ⟨rfl,rfl⟩ | ⟨rfl,rfl⟩ <;> rcases h2 with ⟨rfl,h2⟩ | ⟨rfl,h2⟩ <;> first | rfl | exact absurd h2 hne | exact absurd h2.symm hne
  · simp at h1 h2
    rcases h1 with ⟨rfl,rfl⟩ | ⟨rfl,rfl⟩ <;> rcases h2 with ⟨h2,rfl⟩ | ⟨h2,rfl⟩ <;> first | rfl | exact absurd h2 hq | exact absurd h2.symm hq
  · simp at h
    rcases h with ⟨rfl,rfl⟩ | ⟨rfl,rfl⟩ <;> rcases hos with ⟨rfl,_⟩ | ⟨rfl,_,rfl⟩ <;> simp
  · simp at h
    rcases h with ⟨rfl,rfl⟩ | ⟨rfl,rfl⟩
    · exact ⟨_,hb⟩
    · exact ⟨_,hr⟩
  · rw [am.get_cons] at h
    split at h
    · next e =>
      subst e; cases h
      refine ⟨qb,_,by simp,hb, ?_,fun p hp=>?_, ?_, .inr rfl⟩
      · show VLes _ _
        rw [V.mps,V.mps,V.mp,hk1]
        exact VLes.rfl' _
      · simp [nL,V.refss,V.refs] at hp; subst hp; simp
      · simp [tx,V.rrefss,V.rrefs,hr,qq]
    · rw [am.get_cons] at h
      split at h
      · next e =>
        subst e; cases h
        exact ⟨qr,_,by simp,hr,⟨rfl,rfl,rfl,fun i hi=>.of_eq (he i hi)⟩,fun p hp=>absurd hp (by simp [nL]),rfl,hs.imp id (·.2)⟩
      · simp [am.get] at h
  · rcases hos with ⟨rfl,_⟩ | ⟨rfl,_,_⟩ <;> simp [hT] at h ⊢ <;> simp [h]
  · rcases hos with ⟨rfl,rfl⟩ | ⟨rfl,rfl,_⟩ <;> simp at h ⊢
    exact .inr h
  · have keep0:a = ob→i = 0→a∈kl∨∃ q ob1 ob',(q,a)∈[(qb,ob),(qr,oc)]∧am.get H a = some ob1∧am.get σ.hp q = some ob'∧xI ob1 ob'∧bv σ.tm (1000000+i) = some ⟨[],dg q ob1⟩:=by
      rintro rfl rfl
      exact .inr ⟨qb,_,_,by simp,h0,hb,trivial,by rw [dg,hl]; exact hgh⟩
    rcases hos with ⟨rfl,rfl⟩ | ⟨rfl,rfl,_⟩
    · match i with
      | 0=>exact keep0 (by simpa using h.symm) rfl
      | 1=>left; simp at h; simp [h]
      | _+2=>simp at h
    · match i with
      | 0=>exact keep0 (by simpa using h.symm) rfl
      | _+1=>simp at h
theorem TR {f:FuncId} {fn:Func} {c:Code} (hf:P.funcs[f]? = some fn) (hb:fn.body = some c) (hn:(fn.name == "runtime.NumGoroutine") = false) {mc:am→Nat→List V→Option cM} {rs:List ResultVar} (hr:fn.results.toList = rs) {nt:Nat} (ht:fn.ntmps = nt)
    (h:∀ H nid args r,mc H nid args = some r→(∀ p∈r.pre,p) →
      (∃ (nr:Bool) (fl:List Bool) (ob oc t k n:Nat) (el:Nat→List D) (vs':List V),ob≠oc∧am.get H ob = some (.box [.row oc k 0 n])∧am.get H oc = some (.row t k n el)∧dY [ob,oc] H nr fl args = true∧VLes (pB [ob,oc] fl (oJ H fl args)) vs'∧(Nat.ble vs'.length nt&&Nat.ble nt 1000000) = true ∧
        ar P nt (aA c) (eo P rs fun σ v=>∃ m,Left [ob,oc] nid H nr r m σ v) { tm:=gk vs' 0++[(1000000,⟨[], .ptr 0 1 0 0⟩),(1000001,⟨[], .row 1 k 0 n⟩)],hp:=[(0,some (.box [.row 1 k 0 n])),(1,some (.row t k n el))],nx:=2 }) ∨
      (∃ (nr:Bool) (fl:List Bool) (ob:Nat) (vs':List V),am.get H ob = some (.box [.c .nil])∧dY [ob] H nr fl args = true∧VLes (pB [ob] fl (oJ H fl args)) vs'∧(Nat.ble vs'.length nt&&Nat.ble nt 1000000) = true ∧
        ar P nt (aA c) (eo P rs fun σ v=>∃ m,Left [ob] nid H nr r m σ v) { tm:=gk vs' 0++[(1000000,⟨[], .ptr 0 1 0 0⟩)],hp:=[(0,some (.box [.c .nil]))],nx:=1 })):bR P f (.mut mc):=by
  refine FL hf hb hn hr ht fun H nid args r h1 h2=>?_
  rcases h H nid args r h1 h2 with ⟨nr,fl,ob,oc,t,k,n,el,vs',hne,g1,g1',g2,g3,g4,g5⟩ | ⟨nr,fl,ob,vs',g1,g2,g3,g4,g5⟩
  · have hq:Nat.beq ob oc = false:=sQ hne
    refine ⟨nr,[ob,oc],fl,vs',by simp [hY,jq,sQ (fun e=>hne e.symm:oc≠ob)],by simp [zO,g1,g1',FX,V.refss,V.refs,jq],g2,by rw [qL]; exact g3,g4, ?_⟩
    have e:i6 H [ob,oc] 0 [ob,oc] = [(0,some (.box [.row 1 k 0 n])),(1,some (.row t k n el))]:=by
      simp [i6,g1,g1',Ob.ren,V.rens,V.ren,pk,hq]
    rw [e]
    exact g5
  · refine ⟨nr,[ob],fl,vs',rfl,by simp [zO,g1,FX,V.refss,V.refs],g2,by rw [qL]; exact g3,g4, ?_⟩
    rw [Zx g1]
    exact g5
end
end Go.Ax
