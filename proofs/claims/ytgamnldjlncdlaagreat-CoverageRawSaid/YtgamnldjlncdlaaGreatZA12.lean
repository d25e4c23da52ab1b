import Derived.Test.YtgamnldjlncdlaaGreatZA11
set_option linter.all false
/- Contracts over a box that holds an own row, or nil. -/
namespace Go.Ax
open Go.RowKit
section
variable {P:Program} {σ:St} {H:ap} {nid:Nat} {nr:Bool}
theorem QO (o k i n:Nat) (r:List Nat):V.ren (o :: r) (.ptr o k i n) = .ptr 0 k i n:=by
  rw [V.ren]
  simp [py]
theorem akz {qb qr k n t:Nat} {cs:List V} {el:Nat→List D} (hb:ap.get σ.hp qb = some (.box cs)) (hr:ap.get σ.hp qr = some (.row t k n el)):qb≠qr:=fun e=>by
  subst e; rw [hb] at hr; cases hr
theorem Rt {ob oc qb qr k n t:Nat} {os kl:List Nat} {cs0:List V} {el el':Nat→List D} {p:List Prop} {v rv:V} (hne:ob≠oc) (h0:ap.get H ob = some (.box cs0)) (hl:cs0.length = 1)
    (hb:ap.get σ.hp qb = some (.box [.row qr k 0 n])) (hr:ap.get σ.hp qr = some (.row t k n el)) (hgh:bv σ.tm 1000000 = some ⟨[], .ptr qb 1 0 0⟩) (he:∀ i,i < n→el i = el' i)
    (hv:v.refs = []) (hvle:VLe v rv) (hs:nr = true∨(v.sclr = true∧∀ i,i < n→∀ d∈el i,d.scal = true)) (hos:os = [ob,oc]∧kl = [oc]∨os = [ob]∧kl = []∧oc = nid) :
    Left os nid H nr { pre:=p,val:=rv,eff:=[(ob,some (.box [.row oc k 0 n])),(oc,some (.row t k n el'))],kill:=kl } [(qb,ob),(qr,oc)] σ v:=by
  have hq:qb≠qr:=akz hb hr
  have hk1:jO [(qb,ob),(qr,oc)] qr = oc:=by
    rw [jO,rW hq,cond_false,jO,J7,cond_true]
  refine ⟨fun a b c h1 h2=>?_,fun a b c h1 h2=>?_,fun a b h=>?_,by rw [mp_norefs _ v hv]; exact hvle,fun a h=>by rw [hv] at h; simp at h,by rw [On hv]; rfl,hs.imp id (·.1),fun a b h=>?_,fun a b h=>?_,fun a h=>?_,fun a h=>?_,fun i a h=>?_⟩
  · simp at h1 h2
    rcases h1 with ⟨rfl,rfl⟩ | ⟨rfl,rfl⟩ <;> rcases h2 with ⟨rfl,h2⟩ | ⟨rfl,h2⟩ <;> first | rfl | exact absurd h2 hne | exact absurd h2.symm hne
  · simp at h1 h2
    rcases h1 with ⟨rfl,rfl⟩ | ⟨rfl,rfl⟩ <;> rcases h2 with ⟨h2,rfl⟩ | ⟨h2,rfl⟩ <;> first | rfl | exact absurd h2 hq | exact absurd h2.symm hq
  · simp at h
    rcases h with ⟨rfl,rfl⟩ | ⟨rfl,rfl⟩ <;> rcases hos with ⟨rfl,_⟩ | ⟨rfl,_,rfl⟩ <;> simp
  · simp at h
    rcases h with ⟨rfl,rfl⟩ | ⟨rfl,rfl⟩
    · exact ⟨_,hb⟩
    · exact ⟨_,hr⟩
  · rw [ap.get_cons] at h
    split at h
    · next e =>
      subst e; cases h
      refine ⟨qb,_,by simp,hb, ?_,fun p hp=>?_, ?_, .inr rfl⟩
      · show VLes _ _
        rw [V.mps,V.mps,V.mp,hk1]
        exact VLes.rfl' _
      · simp [od,V.refss,V.refs] at hp; subst hp; simp
      · simp [uk,V.rrefss,V.rrefs,hr,qM]
    · rw [ap.get_cons] at h
      split at h
      · next e =>
        subst e; cases h
        exact ⟨qr,_,by simp,hr,⟨rfl,rfl,rfl,fun i hi=>.of_eq (he i hi)⟩,fun p hp=>absurd hp (by simp [od]),rfl,hs.imp id (·.2)⟩
      · simp [ap.get] at h
  · rcases hos with ⟨rfl,_⟩ | ⟨rfl,_,_⟩ <;> simp [gV] at h ⊢ <;> simp [h]
  · rcases hos with ⟨rfl,rfl⟩ | ⟨rfl,rfl,_⟩ <;> simp at h ⊢
    exact .inr h
  · have keep0:a = ob→i = 0→a∈kl∨∃ q ob1 ob',(q,a)∈[(qb,ob),(qr,oc)]∧ap.get H a = some ob1∧ap.get σ.hp q = some ob'∧yf ob1 ob'∧bv σ.tm (1000000+i) = some ⟨[],dl q ob1⟩:=by
      rintro rfl rfl
      exact .inr ⟨qb,_,_,by simp,h0,hb,trivial,by rw [dl,hl]; exact hgh⟩
    rcases hos with ⟨rfl,rfl⟩ | ⟨rfl,rfl,_⟩
    · match i with
      | 0=>exact keep0 (by simpa using h.symm) rfl
      | 1=>left; simp at h; simp [h]
      | _+2=>simp at h
    · match i with
      | 0=>exact keep0 (by simpa using h.symm) rfl
      | _+1=>simp at h
theorem Uq {f:FuncId} {fn:Func} {c:Code} (hf:P.funcs[f]? = some fn) (hb:fn.body = some c) (hn:(fn.name == "runtime.NumGoroutine") = false) {mc:ap→Nat→List V→Option cR} {rs:List ResultVar} (hr:fn.results.toList = rs) {nt:Nat} (ht:fn.ntmps = nt)
    (h:∀ H nid args r,mc H nid args = some r→(∀ p∈r.pre,p) →
      (∃ (nr:Bool) (fl:List Bool) (ob oc t k n:Nat) (el:Nat→List D) (vs':List V),ob≠oc∧ap.get H ob = some (.box [.row oc k 0 n])∧ap.get H oc = some (.row t k n el)∧dY [ob,oc] H nr fl args = true∧VLes (pP [ob,oc] fl (oV H fl args)) vs'∧(Nat.ble vs'.length nt&&Nat.ble nt 1000000) = true ∧
        au P nt (aA c) (ep P rs fun σ v=>∃ m,Left [ob,oc] nid H nr r m σ v) { tm:=fX vs' 0++[(1000000,⟨[], .ptr 0 1 0 0⟩),(1000001,⟨[], .row 1 k 0 n⟩)],hp:=[(0,some (.box [.row 1 k 0 n])),(1,some (.row t k n el))],nx:=2 }) ∨
      (∃ (nr:Bool) (fl:List Bool) (ob:Nat) (vs':List V),ap.get H ob = some (.box [.c .nil])∧dY [ob] H nr fl args = true∧VLes (pP [ob] fl (oV H fl args)) vs'∧(Nat.ble vs'.length nt&&Nat.ble nt 1000000) = true ∧
        au P nt (aA c) (ep P rs fun σ v=>∃ m,Left [ob] nid H nr r m σ v) { tm:=fX vs' 0++[(1000000,⟨[], .ptr 0 1 0 0⟩)],hp:=[(0,some (.box [.c .nil]))],nx:=1 })):bV P f (.mut mc):=by
  refine HX hf hb hn hr ht fun H nid args r h1 h2=>?_
  rcases h H nid args r h1 h2 with ⟨nr,fl,ob,oc,t,k,n,el,vs',hne,g1,g1',g2,g3,g4,g5⟩ | ⟨nr,fl,ob,vs',g1,g2,g3,g4,g5⟩
  · have hq:Nat.beq ob oc = false:=rW hne
    refine ⟨nr,[ob,oc],fl,vs',by simp [gT,jm,rW (fun e=>hne e.symm:oc≠ob)],by simp [Ad,g1,g1',Ia,V.refss,V.refs,jm],g2,by rw [rr]; exact g3,g4, ?_⟩
    have e:iX H [ob,oc] 0 [ob,oc] = [(0,some (.box [.row 1 k 0 n])),(1,some (.row t k n el))]:=by
      simp [iX,g1,g1',Ob.ren,V.rens,V.ren,py,hq]
    rw [e]
    exact g5
  · refine ⟨nr,[ob],fl,vs',rfl,by simp [Ad,g1,Ia,V.refss,V.refs],g2,by rw [rr]; exact g3,g4, ?_⟩
    rw [aaX g1]
    exact g5
end
end Go.Ax
