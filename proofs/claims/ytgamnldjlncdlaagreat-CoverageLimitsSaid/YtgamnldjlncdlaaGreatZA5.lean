import Derived.Test.YtgamnldjlncdlaaGreatZA4
import Derived.ProofKit
import Derived.JoinedOf
set_option linter.all false
/- The arguments of a claim, as abstract values; from a contract to a row. -/
namespace Go.Ax
open Go.RowKit Go.ChangeShapes Go.WideShapes
def K3 (P:Program):List Field→Nat→Nat→Bool
  | [],off,total=>Nat.beq off total
  | f :: r,off,total=>Nat.beq f.offset off&&K3 P r (off+P.cellsOf f.type) total
def kq (P:Program):Nat→TypeId→Bool
  | 0,_=>false
  | d+1,t =>
    match P.underlying t with
    | some .bool=>Nat.beq (P.cellsOf t) 1
    | some (.int _)=>Nat.beq (P.cellsOf t) 1
    | some .string=>Nat.beq (P.cellsOf t) 1
    | some (.slice e)=>Nat.beq (P.cellsOf t) 1&&Nat.blt 0 (P.cellsOf e)&&kq P d e
    | some (.struct fs)=>K3 P fs.toList 0 (P.cellsOf t)&&fs.toList.all fun f=>kq P d f.type
    | some (.array n e)=>Nat.beq (n*P.cellsOf e) (P.cellsOf t)&&kq P d e
    | _=>false
def ZR (P:Program) (e:TypeId):List D:=match um P e with | some z=>z | none=>[]
def ro (S:TypeId→List D→Prop):List Field→List D→Prop
  | [],ds=>ds = []
  | f :: r,ds=>∃ a b,ds = a++b∧S f.type a∧ro S r b
def Dk (S:List D→Prop):Nat→List D→Prop
  | 0,ds=>ds = []
  | n+1,ds=>∃ a b,ds = a++b∧S a∧Dk S n b
def cR (P:Program):Nat→TypeId→List D→Prop
  | 0,_,_=>False
  | d+1,t,ds =>
    match P.underlying t with
    | some .bool=>∃ b,ds = [db b]
    | some (.int k)=>∃ n,ds = [.lit (.int k n)]∧k.min≤n∧n≤k.max
    | some .string=>∃ s:ByteArray,ds = [.lit (.string s)]∧s.size≤maxLen
    | some (.slice e)=>∃ n el,ds = [.sl (P.cellsOf e) n el]∧n≤maxLen∧(∀ i,i < n→cR P d e (el i))∧∀ i,n≤i→el i = ZR P e
    | some (.struct fs)=>ro (cR P d) fs.toList ds
    | some (.array n e)=>Dk (cR P d e) n ds
    | _=>False
structure ko (ok:Nat→Prop) (w:World) (cs:List Value) (ds:List D):Prop where
  len:ds.length = cs.length
  one:∀ v∈cs,v.oneCell' = true
  rep:∀ (i:Nat) (v:Value) (x:D),cs[i]? = some v→ds[i]? = some x→cx ok w v x
section
variable {P:Program} {w:World} {ok:Nat→Prop} {H:Type} {enc:TypeId × Value→H}
theorem ko.single {v:Value} {x:D} (h1:v.oneCell' = true) (h:cx ok w v x):ko ok w [v] [x]:=by
  refine ⟨rfl,fun u hu=>by simp at hu; subst hu; exact h1,fun i u y hu hy=>?_⟩
  match i with
  | 0=>simp at hu hy; subst hu; subst hy; exact h
  | i+1=>simp at hu
theorem ko.append {cs cs':List Value} {ds ds':List D} (h:ko ok w cs ds) (h':ko ok w cs' ds'):ko ok w (cs++cs') (ds++ds'):=by
  refine ⟨by simp [h.len,h'.len],fun u hu=>?_,fun i v x hv hx=>?_⟩
  · rcases List.mem_append.1 hu with hu | hu
    · exact h.one u hu
    · exact h'.one u hu
  · rw [List.getElem?_append] at hv hx
    rw [h.len] at hx
    split at hv
    · next hlt=>rw [if_pos hlt] at hx; exact h.rep i v x hv hx
    · next hge=>rw [if_neg hge] at hx; exact h'.rep _ v x hv hx
theorem ko.nil:ko ok w [] []:=⟨rfl,fun u hu=>by simp at hu,fun i v x hv=>by simp at hv⟩
theorem tH {α β:Type} {f:α→Option β} {a:α} {l:List α} {ys:List β} (h:(a :: l).mapM f = some ys):∃ y r,f a = some y∧l.mapM f = some r∧ys = y :: r:=by
  rw [List.mapM_cons] at h
  cases hy:f a with
  | none=>rw [hy] at h; cases h
  | some y =>
    rw [hy] at h
    cases hr:l.mapM f with
    | none=>simp [hr] at h
    | some r=>simp [hr] at h; exact ⟨y,r,rfl,rfl,h.symm⟩
theorem Jq {α β:Type} {f:α→Option β}:∀ {l:List α} {ys:List β},l.mapM f = some ys→ys.length = l.length∧∀ (i:Nat) (a:α),l[i]? = some a→∃ y,ys[i]? = some y∧f a = some y
  | [],ys,h=>by simp at h; subst h; exact ⟨rfl,fun i a ha=>by simp at ha⟩
  | a :: l,ys,h=>by
    obtain ⟨y,r,h1,h2,rfl⟩:=tH h
    obtain ⟨h3,h4⟩:=Jq h2
    refine ⟨by simp [h3],fun i b hb=>?_⟩
    match i with
    | 0=>simp at hb; subst hb; exact ⟨y,rfl,h1⟩
    | i+1=>simp at hb; obtain ⟨z,hz,hf⟩:=h4 i b hb; exact ⟨z,by simpa using hz,hf⟩
theorem GG {S:TypeId→List D→Prop} {X:Type} {g:TypeId→List Value→Option X} {cs:List Value} {ok':TypeId→Bool}
    (ih:∀ t cs' x,ok' t = true→g t cs' = some x→cs'.length = P.cellsOf t∧∃ ds,ko ok w cs' ds∧S t ds) :
    ∀ (fs:List Field) (off total:Nat) (xs:List X),K3 P fs off total = true→fs.all (fun f=>ok' f.type) = true→cs.length = total→fs.mapM (fun f=>g f.type ((cs.drop f.offset).take (P.cellsOf f.type))) = some xs →
      ∃ ds,ko ok w (cs.drop off) ds∧ro S fs ds
  | [],off,total,xs,ht,_,hl,_=>by
    unfold K3 at ht
    have:off = total:=Nat.eq_of_beq_eq_true ht
    subst this
    refine ⟨[], ?_,rfl⟩
    rw [List.drop_of_length_le (by omega)]
    exact .nil
  | f :: r,off,total,xs,ht,hp,hl,h=>by
    unfold K3 at ht
    simp only [Bool.and_eq_true] at ht
    have ho:f.offset = off:=Nat.eq_of_beq_eq_true ht.1
    simp only [List.all_cons,Bool.and_eq_true] at hp
    obtain ⟨y,ys,h1,h2,rfl⟩:=tH h
    obtain ⟨g1,a,g2,g3⟩:=ih f.type _ y hp.1 h1
    obtain ⟨b,g4,g5⟩:=GG ih r (off+P.cellsOf f.type) total ys ht.2 hp.2 hl h2
    refine ⟨a++b, ?_,a,b,rfl,g3,g5⟩
    rw [ho] at g2
    have e:cs.drop off = (cs.drop off).take (P.cellsOf f.type)++cs.drop (off+P.cellsOf f.type):=by
      rw [← List.drop_drop]; exact (List.take_append_drop _ _).symm
    rw [e]
    exact g2.append g4
theorem It {S:List D→Prop} {X:Type} {g:List Value→Option X} {cs:List Value} {k:Nat}
    (ih:∀ cs' x,g cs' = some x→cs'.length = k∧∃ ds,ko ok w cs' ds∧S ds) :
    ∀ (n i0:Nat) (xs:List X),cs.length = (i0+n)*k→((List.range n).map (i0+·)).mapM (fun i=>g ((cs.drop (i*k)).take k)) = some xs →
      ∃ ds,ko ok w (cs.drop (i0*k)) ds∧Dk S n ds
  | 0,i0,xs,hl,_=>by
    refine ⟨[], ?_,rfl⟩
    rw [List.drop_of_length_le (by rw [hl]; simp)]
    exact .nil
  | n+1,i0,xs,hl,h=>by
    have hr:(List.range (n+1)).map (i0+·) = i0 :: (List.range n).map ((i0+1)+·):=by
      rw [List.range_succ_eq_map,List.map_cons,List.map_map]
      congr 1
      exact List.map_congr_left fun a _=>by simp; omega
    rw [hr] at h
    obtain ⟨y,ys,h1,h2,rfl⟩:=tH h
    obtain ⟨g1,a,g2,g3⟩:=ih _ y h1
    obtain ⟨b,g4,g5⟩:=It ih n (i0+1) ys (by rw [hl]; congr 1; omega) h2
    refine ⟨a++b, ?_,a,b,rfl,g3,g5⟩
    have e:cs.drop (i0*k) = (cs.drop (i0*k)).take k++cs.drop ((i0+1)*k):=by
      rw [show (i0+1)*k = i0*k+k by rw [Nat.add_mul,Nat.one_mul], ← List.drop_drop]; exact (List.take_append_drop _ _).symm
    rw [e]
    exact g2.append g4
theorem TI (hok:∀ b,b < w.heap.size→ok b) {base:Nat} {spare:Nat→Bool} {held:Bool}:∀ (fuel d:Nat) (t:TypeId) (cs:List Value) (x:DataW H × List MemPlace),
    kq P d t = true→DataW.trod enc P w base spare held fuel t cs = some x→cs.length = P.cellsOf t∧∃ ds,ko ok w cs ds∧cR P d t ds:=by
  intro fuel
  induction fuel with
  | zero=>intro d t cs x _ h; simp [DataW.trod] at h
  | succ fuel ih =>
    intro d t cs x hpl h
    cases d with
    | zero=>simp [kq] at hpl
    | succ d =>
      unfold kq at hpl
      unfold DataW.trod at h
      unfold cR
      split at hpl
      · next hu =>
        rw [hu] at h
        simp only at h
        split at h <;> try (simp_all; done)
        next b _=>exact ⟨(Nat.eq_of_beq_eq_true hpl).symm,_, .single rfl (.lit _),b,rfl⟩
      · next k hu =>
        rw [hu] at h
        simp only at h
        split at h <;> try (simp_all; done)
        next k' k'' n he =>
          cases he
          split at h
          · next hc =>
            obtain ⟨rfl,hwf⟩:=hc
            simp only [Lit.wf,Bool.and_eq_true,decide_eq_true_eq] at hwf
            exact ⟨(Nat.eq_of_beq_eq_true hpl).symm,_, .single rfl (.lit _),n,rfl,hwf.1,hwf.2⟩
          · cases h
      · next hu =>
        rw [hu] at h
        simp only at h
        split at h <;> try (simp_all; done)
        next s _ =>
          split at h
          · next hc=>exact ⟨(Nat.eq_of_beq_eq_true hpl).symm,_, .single rfl (.lit _),s,rfl,hc⟩
          · cases h
      · next e hu =>
        rw [hu] at h
        simp only at h
        simp only [Bool.and_eq_true] at hpl
        split at h <;> try (simp_all; done)
        · exact ⟨(Nat.eq_of_beq_eq_true hpl.1.1).symm,_, .single rfl (.sl none 0 0 (P.cellsOf e) (fun _=>ZR P e) (fun _ _=>undef) (Nat.le_refl _) (by simp [maxLen]) (fun h=>by omega) (fun i j h=>by omega) (fun i h=>by omega) (fun i j d h=>by omega)),0,_,rfl,by simp [maxLen],fun i h=>by omega,fun i _=>rfl⟩
        · next _ e' a len cap he =>
          cases he
          split at h
          · next hc =>
            obtain ⟨hbase,hlen,hcap⟩:=hc
            cases hm:(List.range len).mapM (fun i=>(w.cells? base (a.add (i*P.cellsOf e)) (P.cellsOf e)).bind (DataW.trod enc P w base spare held fuel e)) with
            | none=>rw [hm] at h; cases h
            | some elems =>
              obtain ⟨hl,hg⟩:=Jq hm
              have hel:∀ i,i < len→∃ us:List Value,w.cells? base (a.add (i*P.cellsOf e)) (P.cellsOf e) = some us∧us.length = P.cellsOf e∧∃ ds,ko ok w us ds∧cR P d e ds:=by
                intro i hi
                obtain ⟨y,_,hy⟩:=hg i i (by rw [List.getElem?_range hi])
                cases hcs:w.cells? base (a.add (i*P.cellsOf e)) (P.cellsOf e) with
                | none=>rw [hcs] at hy; cases hy
                | some us =>
                  rw [hcs] at hy
                  obtain ⟨h1,h2⟩:=ih d e us y hpl.2 hy
                  exact ⟨us,rfl,h1,h2⟩
              have hcell:∀ i us,w.cells? base (a.add (i*P.cellsOf e)) (P.cellsOf e) = some us→∀ j,j < P.cellsOf e→w.cell? (a.add (i*P.cellsOf e+j)) = us[j]?:=by
                intro i us hus j hj
                unfold World.cells? at hus
                split at hus
                · obtain ⟨_,hq⟩:=Jq hus
                  obtain ⟨y,hy,hw⟩:=hq j j (by rw [List.getElem?_range hj])
                  rw [hy, ← hw,tC]
                · cases hus
              have hch:∀ i, ∃ us ds,i < len→(w.cells? base (a.add (i*P.cellsOf e)) (P.cellsOf e) = some us∧us.length = P.cellsOf e∧ko ok w us ds∧cR P d e ds):=by
                intro i
                by_cases hi:i < len
                · obtain ⟨us,h1,h2,ds,h3,h4⟩:=hel i hi
                  exact ⟨us,ds,fun _=>⟨h1,h2,h3,h4⟩⟩
                · exact ⟨[],[],fun h=>(hi h).elim⟩
              let us:Nat→List Value:=fun i=>(hch i).choose
              let ds:Nat→List D:=fun i=>if i < len then (hch i).choose_spec.choose else ZR P e
              have hs:∀ i,i < len→w.cells? base (a.add (i*P.cellsOf e)) (P.cellsOf e) = some (us i)∧(us i).length = P.cellsOf e∧ko ok w (us i) (ds i)∧cR P d e (ds i):=by
                intro i hi
                have:=(hch i).choose_spec.choose_spec hi
                have e2:ds i = (hch i).choose_spec.choose:=if_pos hi
                rw [e2]; exact this
              refine ⟨(Nat.eq_of_beq_eq_true hpl.1.1).symm,[.sl (P.cellsOf e) len ds], .single rfl ?_,len,ds,rfl,Nat.le_trans hlen hcap,fun i hi=>(hs i hi).2.2.2,fun i hi=>if_neg (by omega)⟩
              by_cases h0:0 < len∧0 < P.cellsOf e
              · have hblk:a.block < w.heap.size:=by
                  have:=hcell 0 (us 0) (hs 0 h0.1).1 0 h0.2
                  have hsome:(us 0)[0]?.isSome = true:=by
                    rw [List.getElem?_eq_getElem (by rw [(hs 0 h0.1).2.1]; exact h0.2)]; rfl
                  rw [← this] at hsome
                  simp only [Nat.zero_mul,Nat.zero_add] at hsome
                  unfold World.cell? at hsome
                  cases hh:w.heap[(a.add 0).block]? with
                  | none=>rw [hh] at hsome; simp at hsome
                  | some o =>
                    rw [oA] at hh
                    exact lu hh
                refine .sl (some a) len cap (P.cellsOf e) ds (fun i j=>(us i).getD j undef) hlen hcap (fun _=>⟨a,rfl,hok _ hblk,fun i j hi hj=>?_⟩) (fun i j hi hj=>?_) (fun i hi=>?_) (fun i j dd hi hd=>?_)
                · rw [hcell i (us i) (hs i hi).1 j hj]
                  rw [List.getD_eq_getElem?_getD,List.getElem?_eq_getElem (by rw [(hs i hi).2.1]; exact hj)]; rfl
                · refine (hs i hi).2.2.1.one _ ?_
                  rw [List.getD_eq_getElem?_getD,List.getElem?_eq_getElem (by rw [(hs i hi).2.1]; exact hj)]
                  exact List.getElem_mem _
                · rw [(hs i hi).2.2.1.len,(hs i hi).2.1]
                · have hj:j < (us i).length:=by
                    rw [← (hs i hi).2.2.1.len]; exact (List.getElem?_eq_some_iff.1 hd).1
                  refine (hs i hi).2.2.1.rep j _ dd ?_ hd
                  rw [List.getD_eq_getElem?_getD,List.getElem?_eq_getElem hj]; rfl
              ·
                by_cases hl0:len = 0
                · subst hl0
                  exact .sl (some a) 0 cap (P.cellsOf e) ds (fun _ _=>undef) hlen hcap (fun h=>by omega) (fun i j h=>by omega) (fun i h=>by omega) (fun i j d h=>by omega)
                · have:=hpl.1.2
                  rw [Nat.blt_eq] at this
                  omega
          · cases h
      · next fs hu =>
        rw [hu] at h
        simp only at h
        simp only [Bool.and_eq_true] at hpl
        split at h
        · next hlen =>
          cases hm:fs.toList.mapM (fun f=>DataW.trod enc P w base spare held fuel f.type ((cs.drop f.offset).take (P.cellsOf f.type))) with
          | none=>rw [hm] at h; cases h
          | some xs =>
            refine ⟨hlen, ?_⟩
            have:=GG (P:=P) (w:=w) (ok:=ok) (S:=cR P d) (g:=fun t cs=>DataW.trod enc P w base spare held fuel t cs) (cs:=cs) (ok':=kq P d) (fun t cs' x h1 h2=>ih d t cs' x h1 h2) fs.toList 0 (P.cellsOf t) xs hpl.1 hpl.2 hlen hm
            simpa using this
        · cases h
      · next n e hu =>
        rw [hu] at h
        simp only at h
        simp only [Bool.and_eq_true] at hpl
        split at h
        · next hlen =>
          cases hm:(List.range n).mapM (fun i=>DataW.trod enc P w base spare held fuel e ((cs.drop (i*P.cellsOf e)).take (P.cellsOf e))) with
          | none=>rw [hm] at h; cases h
          | some xs =>
            refine ⟨hlen, ?_⟩
            have hn:n*P.cellsOf e = P.cellsOf t:=Nat.eq_of_beq_eq_true hpl.1
            have:=It (w:=w) (ok:=ok) (S:=cR P d e) (g:=fun cs=>DataW.trod enc P w base spare held fuel e cs) (cs:=cs) (k:=P.cellsOf e) (fun cs' x h2=>ih d e cs' x hpl.2 h2) n 0 xs (by rw [hlen,Nat.zero_add,hn]) (by
              rw [show (List.range n).map (0+·) = List.range n from by simp]
              exact hm)
            simpa using this
        · cases h
      · cases hpl
def xi (P:Program) (t:TypeId):Bool:=match P.underlying t with | some (.struct _)=>true | some (.array _ _)=>true | _=>false
def AI (P:Program) (d:Nat) (t:TypeId) (v:V):Prop:=∃ ds,cR P d t ds∧v = (bif xi P t then .agg (ds.map .c) else .c (ds.headD .unk))∧(xi P t = false→∃ x,ds = [x])
def pp (P:Program) (d:Nat):List TypeId→List V→Prop
  | [],[]=>True
  | t :: ts,v :: vs=>AI P d t v∧pp P d ts vs
  | _,_=>False
theorem VD {E:br} {cs:Array Value} {ds:List D} (h:ko E.ok w cs.toList ds):aK E w (.agg cs) (.agg (ds.map .c)):=by
  have:=aK.agg (E:=E) (w:=w) cs.toList (ds.map .c) (by simp [h.len]) fun i v d hv hd=>by
    rw [List.getElem?_map] at hd
    cases hx:ds[i]? with
    | none=>rw [hx] at hd; cases hd
    | some x=>rw [hx] at hd; cases hd; exact .c _ _ (h.rep i v x hv hx)
  simpa using this
theorem QY {d:Nat} {t:TypeId} (hp:kq P d t = true) (ha:xi P t = false):P.cellsOf t = 1:=by
  cases d with
  | zero=>simp [kq] at hp
  | succ d =>
    unfold kq at hp
    unfold xi at ha
    split at hp
    · exact Nat.eq_of_beq_eq_true hp
    · exact Nat.eq_of_beq_eq_true hp
    · exact Nat.eq_of_beq_eq_true hp
    · simp only [Bool.and_eq_true] at hp; exact Nat.eq_of_beq_eq_true hp.1.1
    · next fs hu=>rw [hu] at ha; cases ha
    · next n e hu=>rw [hu] at ha; cases ha
    · cases hp
theorem JF {ok:Nat→Prop} (hok:∀ b,b < w.heap.size→ok b) {d:Nat} {base:Nat} {spare:Nat→Bool} {held:Bool} {wb:Nat}:∀ (ts:List TypeId) (vs:List Value) (xs:List (DataW H)) (ps:List MemPlace),
    ts.all (kq P d) = true→(∀ (j:Nat) t v,ts[j]? = some t→vs[j]? = some v→Value.okWide P w .any wb t v)→DataW.TrodAll enc P w base spare held ts vs xs ps→∃ us,cq (m6 ok) w vs us∧pp P d ts us
  | [],vs,xs,ps,_,_,h=>by
    cases vs with
    | nil=>exact ⟨[],⟨rfl,fun i v d hv=>by simp at hv⟩,trivial⟩
    | cons v vs=>cases xs <;> simp [DataW.TrodAll] at h
  | t :: ts,vs,xs,ps,hp,hv,h=>by
    obtain ⟨v,vs1,x,xs1,p,q,rfl,rfl,rfl,h1,h2⟩:=trodAll_cons h
    simp only [List.all_cons,Bool.and_eq_true] at hp
    obtain ⟨us,g1,g2⟩:=JF hok ts vs1 xs1 q hp.2 (fun j t v ht hv'=>hv (j+1) t v (by simpa using ht) (by simpa using hv')) h2
    obtain ⟨fuel,hf⟩:=h1
    obtain ⟨hl,ds,hr,hs⟩:=TI (ok:=ok) hok fuel d t v.cells.toList (x,p) hp.1 hf
    have hw:=hv 0 t v rfl rfl
    have key:∃ u,aK (m6 ok) w v u∧AI P d t u:=by
      cases ha:xi P t with
      | true =>
        unfold Value.okWide at hw
        have:∃ cs,v = .agg cs:=by
          unfold xi at ha
          split at ha
          · next hu=>rw [hu] at hw; obtain ⟨cs,hcs,_⟩:=hw; exact ⟨cs,hcs⟩
          · next hu=>rw [hu] at hw; obtain ⟨cs,hcs,_⟩:=hw; exact ⟨cs,hcs⟩
          · cases ha
        obtain ⟨cs,rfl⟩:=this
        exact ⟨.agg (ds.map .c),VD (E:=m6 ok) hr,ds,hs,by rw [ha]; rfl,fun h=>by rw [ha] at h; cases h⟩
      | false =>
        have h1:=QY hp.1 ha
        rw [h1] at hl
        obtain ⟨y,rfl⟩:∃ y,ds = [y]:=by
          have:=hr.len; rw [hl] at this
          match ds,this with
          | [y],_=>exact ⟨y,rfl⟩
        have hcell:v.cells.toList = [v]:=by
          cases v with
          | agg cs =>
            exfalso
            have hlen:cs.toList.length = 1:=hl
            obtain ⟨c,hc⟩:∃ c,cs.toList = [c]:=by
              match hcs:cs.toList,hlen with
              | [c],_=>exact ⟨c,rfl⟩
            have hp1:=hp.1
            cases d with
            | zero=>simp [kq] at hp1
            | succ d =>
              unfold kq at hp1
              cases hu:P.underlying t with
              | none=>rw [hu] at hp1; cases hp1
              | some u =>
                rw [hu] at hp1
                unfold xi at ha
                rw [hu] at ha
                cases u <;> simp_all [Value.okWide,Cell.okWide,Cell.ok]
          | _=>rfl
        rw [hcell] at hr
        exact ⟨.c y, .c _ _ (hr.rep 0 v y rfl rfl),[y],hs,by rw [ha]; rfl,fun _=>⟨y,rfl⟩⟩
    obtain ⟨u,k1,k2⟩:=key
    refine ⟨u :: us,⟨by simp [g1.1],fun i v' d' hv' hd'=>?_⟩,k2,g2⟩
    match i with
    | 0=>simp at hv' hd'; subst hv'; subst hd'; exact k1
    | i+1=>exact g1.2 i v' d' (by simpa using hv') (by simpa using hd')
theorem NH {f:Func} {s:ChangeSpec} {apart fresh handsOn again:Bool} {W W':World} {args:Array Value} {v:Value} {ds gs:List (DataW H)} {before pa pv:List MemPlace}
    (hW:DataW.Whole enc P f.params.toList s.vars apart W args.toList ds gs before)
    (hres:∀ (b:Nat) (sp:Nat→Bool) (hd:Bool),DataW.TrodAll enc P W' b sp hd f.resultTypes.toList (v.resultList f.resultTypes.size) (s.fn H (ds++gs)).results [])
    (hargs:∀ sp:Nat→Bool,(∀ p∈before,sp p.block = true)→DataW.TrodAll enc P W' 0 sp true f.params.toList args.toList (s.fn H (ds++gs)).args pa)
    (hvars:∀ sp:Nat→Bool,(∀ p∈before,sp p.block = true)→DataW.TrodVars enc P W' sp s.vars (s.fn H (ds++gs)).vars pv)
    (hps:before = pa++pv) (hb:Below W.heap.size W W')
    (hok:∀ (j:Nat) (t:TypeId) (r:Value),f.resultTypes[j]? = some t→(v.resultList f.resultTypes.size)[j]? = some r→Value.okWide P W' .any 0 t r) :
    s.post enc P f apart fresh handsOn again W args v W':=by
  have hlt:∀ p∈before,p.block < W.heap.size:=fun p hp=>hW.lt p hp
  have hold:∀ p∈before,(fun b=>decide (b < W.heap.size)) p.block = true:=fun p hp=>by simpa using hlt p hp
  refine ⟨ds,gs,before,[],pa,pv,hW,hres _ _ _,hargs _ hold,hvars _ hold,World.keptBut_mono (fun p hp=>⟨hp, ?_⟩) (hb.frame (·∈before)),fun _=>?_⟩
  · rw [hps,List.mem_append] at hp
    exact Or.inr hp
  · obtain ⟨_,_,_,_,_,hz,hn⟩:=hW
    refine ⟨hok,_,_,([]++pa)++pv,⟨[]++pa,pv,trodAll_append (hargs _ (fun _ _=>rfl)) (hres _ _ _),hvars _ (fun _ _=>rfl),rfl, ?_, ?_⟩, ?_⟩
    · intro b off hp
      have hin:MemPlace.cell b off∈before:=by rw [hps]; simpa using hp
      rw [hb.frozen (hlt _ hin)]
      exact hz b off hin
    · intro ha
      have:=hn ha
      rw [hps] at this
      simpa using this
    · intro p hp _
      rw [hps]
      simpa using hp
end
end Go.Ax
namespace Go.Ax
open Go.RowKit Go.ChangeShapes Go.WideShapes Go.ChangeAt Go.WideElems
def zm (P:Program) (ns:List String):Bool:=ns.all fun n=>match (P.globalNamed n).bind (P.globals[·]?) with | some gl=>P.readableRec gl.type&&decide (gl.type < P.types.size) | none=>true
section
variable {H:Type} {enc:TypeId × Value→H}
theorem Below.trodAll {P:Program} (hl:laidOutB P = true) {W W':World} (hb:Below W.heap.size W W') {sp:Nat→Bool}:∀ {ts:List TypeId} {vs:List Value} {xs:List (DataW H)} {ps:List MemPlace},
    ts.all (fun t=>P.readableRec t&&decide (t < P.types.size)) = true→DataW.TrodAll enc P W 0 (fun _=>true) true ts vs xs ps→(∀ p∈ps,p.block < W.heap.size)→(∀ p∈ps,sp p.block = true)→DataW.TrodAll enc P W' 0 sp true ts vs xs ps
  | [],vs,xs,ps,_,h,_,_=>by
    obtain ⟨rfl,rfl,rfl⟩:=trodAll_nil h
    trivial
  | t :: ts,vs,xs,ps,hr,h,hlt,hsp=>by
    obtain ⟨v,vs1,x,xs1,p,q,rfl,rfl,rfl,h1,h2⟩:=trodAll_cons h
    simp only [List.all_cons,Bool.and_eq_true,decide_eq_true_eq] at hr
    have a1:=WideElems.Trod_stays hl hr.1.1 hr.1.2 h1 (fun x hx=>hb.same (hlt x (by simp [hx]))) (fun x hx=>hsp x (by simp [hx]))
    have a2:=Below.trodAll (sp:=sp) hl hb hr.2 h2 (fun x hx=>hlt x (by simp [hx])) (fun x hx=>hsp x (by simp [hx]))
    exact ⟨p,q,a1,a2,rfl⟩
theorem Below.trodVars' {P:Program} (hl:laidOutB P = true) {W W':World} (hb:Below W.heap.size W W') {sp:Nat→Bool} :
    ∀ {ns:List String} {gs:List (DataW H)} {ps:List MemPlace},zm P ns = true→DataW.TrodVars enc P W (fun _=>true) ns gs ps→(∀ p∈ps,sp p.block = true)→DataW.TrodVars enc P W' sp ns gs ps
  | [],[],_,_,h,_=>h
  | [],_ :: _,_,_,h,_=>h.elim
  | _ :: _,[],_,_,h,_=>h.elim
  | n :: ns,d :: ds,ps,hv,h,hsp=>by
    have hlt:=h.lt
    obtain ⟨g,t,cs,fuel,p,q,h1,h2,h3,h4,hs,e⟩:=h
    simp only [zm,List.all_cons,Bool.and_eq_true] at hv
    have ht:P.readableRec t = true∧t < P.types.size:=by
      have:=hv.1
      rw [h1] at this
      cases hg:P.globals[g]? with
      | none=>rw [hg] at h2; cases h2
      | some gl =>
        rw [hg] at h2
        obtain rfl:gl.type = t:=Option.some.inj h2
        simpa [hg,Bool.and_eq_true] using this
    have hp:∀ x∈p,x.block < W.heap.size:=fun x hx=>hlt x (by rw [e]; simp [hx])
    have h3':W'.var? P n = some cs:=by
      unfold World.var? at h3 ⊢
      rw [h1] at h3 ⊢
      simp only [Option.bind_some] at h3 ⊢
      have hg:g < W.heap.size:=by
        cases hh:W.heap[g]? with
        | none=>rw [hh] at h3; cases h3
        | some o=>exact (Array.getElem?_eq_some_iff.1 hh).1
      rw [hb.block g hg]; exact h3
    exact ⟨g,t,cs,fuel,p,q,h1,h2,h3',DataW.trod_stays (kids_book hl ht.1) (book_sized ht.1) (fun h=>by cases h) ⟨ht.2,book_self t⟩ h4 (fun x hx=>hb.same (hp x hx)) (fun x hx=>hsp x (by rw [e]; simp [hx])),
      Below.trodVars' hl hb (by simpa [zm] using hv.2) hs (fun x hx=>hsp x (by rw [e]; simp [hx])),e⟩
theorem Uj {P:Program} {f:FuncId} {fn:Func} {con:bU} (hm:bc P f con) {s:ChangeSpec} {apart fresh handsOn again:Bool} (hbody:∃ c,fn.body = some c) (hfn:P.funcs[f]? = some fn)
    (hname:(fn.name == "runtime.NumGoroutine") = false) (hl:laidOutB P = true) (d:Nat)
    (hpl:fn.params.toList.all (kq P d) = true) (hrd:fn.params.toList.all (fun t=>P.readableRec t&&decide (t < P.types.size)) = true) (hvr:zm P s.vars = true)
    {tb:TypeId} (hres:fn.resultTypes = #[tb]) (hbool:P.underlying tb = some .bool)
    (hspec:∀ (ds gs:List (DataW H)),ds.length = fn.params.toList.length→gs.length = s.vars.length→(s.fn H (ds++gs)).results = [.lit (.bool true)]∧(s.fn H (ds++gs)).args = ds∧(s.fn H (ds++gs)).vars = gs)
    (hcon:∀ us,pp P d fn.params.toList us→∃ p,con us = some (p, .data (bl true))∧∀ q∈p,q)
    (W:World) (base:Nat) (args:Array Value) (ds gs:List (DataW H)) (before:List MemPlace)
    (hval:∀ (j:Nat) t v,fn.params[j]? = some t→args[j]? = some v→Value.okWide P W .any base t v)
    (hW:DataW.Whole enc P fn.params.toList s.vars apart W args.toList ds gs before) :
    Calls P f args W fun e W'=>∃ v,e = .returned v∧s.post enc P fn apart fresh handsOn again W args v W':=by
  have hW':=hW
  obtain ⟨p,q,hA,hV,rfl,hfz,hnd⟩:=hW
  obtain ⟨us,hrep,hshp⟩:=JF (enc:=enc) (ok:=fun b=>b < W.heap.size) (fun _ h=>h) (d:=d) fn.params.toList args.toList ds p hpl (fun j t v ht hv=>hval j t v (by simpa using ht) (by simpa using hv)) hA
  obtain ⟨pre,hc,hp⟩:=hcon us hshp
  have hdo:=hm (fun b=>b < W.heap.size) W args.toList us pre _ hrep (fun _ h=>h) hc hp
  have hent:(callFunc f args).run P W = .ok (.enter f args) W:=by
    obtain ⟨c,hb⟩:=hbody
    exact vz hfn hb hname args W
  have hlen:∀ {ts:List TypeId} {vs:List Value} {xs:List (DataW H)} {ps:List MemPlace},DataW.TrodAll enc P W 0 (fun _=>true) true ts vs xs ps→xs.length = ts.length:=by
    intro ts
    induction ts with
    | nil=>intro vs xs ps h; obtain ⟨rfl,rfl,rfl⟩:=trodAll_nil h; rfl
    | cons t ts ih =>
      intro vs xs ps h
      obtain ⟨v,vs1,x,xs1,p,q,rfl,rfl,rfl,h1,h2⟩:=trodAll_cons h
      simp [ih h2]
  have hlenV:∀ {ns:List String} {xs:List (DataW H)} {ps:List MemPlace},DataW.TrodVars enc P W (fun _=>true) ns xs ps→xs.length = ns.length:=by
    intro ns
    induction ns with
    | nil=>intro xs ps h; cases xs with | nil=>rfl | cons x xs=>exact h.elim
    | cons n ns ih =>
      intro xs ps h
      cases xs with
      | nil=>exact h.elim
      | cons x xs =>
        obtain ⟨g,t,cs,fuel,p,q,h1,h2,h3,h4,hs,e⟩:=h
        simp [ih hs]
  obtain ⟨s1,s2,s3⟩:=hspec ds gs (hlen hA) (hlenV hV)
  rcases hdo with ⟨_,hcalls⟩ | ⟨v,w',hrun,_⟩
  · refine (show Calls P f args W _ by simpa using hcalls).mono ?_
    rintro e W' ⟨v,rfl,hb,hout⟩
    refine ⟨v,rfl, ?_⟩
    have hv:v = .bool true:=by
      have:aK _ W' v (bl true):=hout
      exact this.lit_inv
    subst hv
    have hlt:∀ x∈p++q,x.block < W.heap.size:=fun x hx=>hW'.lt x hx
    refine NH (pa:=p) (pv:=q) hW' (fun b sp hd=>?_) (fun sp hsp=>?_) (fun sp hsp=>?_) rfl hb ?_
    · rw [s1,hres]
      exact trodAll_mk1 (shut_bool hbool true)
    · rw [s2]
      exact Below.trodAll hl hb hrd hA (fun x hx=>hlt x (by simp [hx])) (fun x hx=>hsp x (by simp [hx]))
    · rw [s3]
      exact Below.trodVars' hl hb hvr hV (fun x hx=>hsp x (by simp [hx]))
    · exact ok_one hres rfl (okWide_bool_mk hbool true)
  · have:(callFunc f args.toList.toArray).run P W = .ok (.enter f args) W:=by simpa using hent
    rw [this] at hrun
    cases hrun
end
section
variable {P:Program} {d:Nat} {t e:TypeId} {v:V} {ds:List D}
theorem cR.int {k:IntKind} (hu:P.underlying t = some (.int k)) (h:cR P (d+1) t ds):∃ n,ds = [.lit (.int k n)]∧k.min≤n∧n≤k.max:=by
  unfold cR at h; rw [hu] at h; exact h
theorem cR.bool (hu:P.underlying t = some .bool) (h:cR P (d+1) t ds):∃ b,ds = [db b]:=by
  unfold cR at h; rw [hu] at h; exact h
theorem cR.string (hu:P.underlying t = some .string) (h:cR P (d+1) t ds):∃ s:ByteArray,ds = [.lit (.string s)]∧s.size≤maxLen:=by
  unfold cR at h; rw [hu] at h; exact h
theorem cR.slice (hu:P.underlying t = some (.slice e)) (h:cR P (d+1) t ds):∃ n el,ds = [.sl (P.cellsOf e) n el]∧n≤maxLen∧(∀ i,i < n→cR P d e (el i))∧∀ i,n≤i→el i = ZR P e:=by
  unfold cR at h; rw [hu] at h; exact h
theorem cR.struct {fs:Array Field} (hu:P.underlying t = some (.struct fs)) (h:cR P (d+1) t ds):ro (cR P d) fs.toList ds:=by
  unfold cR at h; rw [hu] at h; exact h
theorem cR.array {n:Nat} (hu:P.underlying t = some (.array n e)) (h:cR P (d+1) t ds):Dk (cR P d e) n ds:=by
  unfold cR at h; rw [hu] at h; exact h
theorem AI.cell (ha:xi P t = false) (h:AI P d t v):∃ x,cR P d t [x]∧v = .c x:=by
  obtain ⟨ds,h1,h2,h3⟩:=h
  obtain ⟨x,rfl⟩:=h3 ha
  rw [ha] at h2
  exact ⟨x,h1,h2⟩
theorem AI.agg (ha:xi P t = true) (h:AI P d t v):∃ ds,cR P d t ds∧v = .agg (ds.map .c):=by
  obtain ⟨ds,h1,h2,h3⟩:=h
  rw [ha] at h2
  exact ⟨ds,h1,h2⟩
theorem Vj {T:Type} {enc:T→List D} {dec:List D→T} {R:T→Prop} (hd:ef enc dec) {k0 k n:Nat} {el:Nat→List D} (hk:k = k0) (h:∀ i,i < n→∃ x,el i = enc x∧R x) :
    aJ enc dec k0 k n el∧(lst dec n el).length = n∧∀ x∈lst dec n el,R x:=by
  refine ⟨⟨fun _=>hk,fun i hi=>?_⟩,dO,fun x hx=>?_⟩
  · obtain ⟨x,hx,_⟩:=h i hi
    rw [hx,hd.eq]; exact .refl _
  · unfold lst at hx
    obtain ⟨i,hi,e⟩:=List.mem_map.1 hx
    obtain ⟨y,hy,hr⟩:=h i (List.mem_range.1 hi)
    rw [hy,hd.eq] at e
    subst e; exact hr
end
def lT (n:Int):Prop:=-9223372036854775808≤n∧n≤9223372036854775807
theorem lT.of {n:Int} (h:IntKind.i64.min≤n∧n≤IntKind.i64.max):lT n:=by
  have h1:IntKind.i64.min = -9223372036854775808:=by decide
  have h2:IntKind.i64.max = 9223372036854775807:=by decide
  rw [h1,h2] at h; exact h
theorem pp.cons {P:Program} {d:Nat} {t:TypeId} {ts:List TypeId} {us:List V} (h:pp P d (t :: ts) us):∃ v vs,us = v :: vs∧AI P d t v∧pp P d ts vs:=by
  cases us with
  | nil=>exact h.elim
  | cons v vs=>exact ⟨v,vs,rfl,h.1,h.2⟩
theorem pp.nil {P:Program} {d:Nat} {us:List V} (h:pp P d [] us):us = []:=by
  cases us with
  | nil=>rfl
  | cons v vs=>exact h.elim
end Go.Ax
namespace Go.Ax
open Go.RowKit
theorem VP {P:Program} {f:FuncId} {fn:Func} {s:ChangeSpec} {c:OpenClaim}
    (a1:c.wf (OpenSpec.ofChange s) = true) (a2:laidOutB P = true) (a3:mapsRowed P = true) (a4:fn.params.all (P.readableRec ·) = true) (a5:namedTie P c.named s.vars = true)
    (a6:(c.stops == []) = true) (a7:(P.stops == []) = true) (a8:(c.knobs == []) = true) (a9:(P.stopKnobs == []) = true)
    (b1:(c.inPlace == P.inPlace f) = true) (b2:(c.unfollowed == P.unfollowed f) = true) (b3:(c.recurses == P.recurses f) = true) (b4:(c.named == P.varsNamed f) = true)
    (b5:(c.maps == (fn.params.toList++s.plain.varTypes P).any (P.mapsRec ·)) = true) (b6:(c.ifaces == (fn.params.toList++s.plain.varTypes P).any (P.ifacesRec ·)) = true) (b7:(c.mapsOut == P.mapsAmong fn.resultTypes.toList) = true)
    (b8:(c.loops == (fn.params.toList++s.plain.varTypes P).any (P.loopsFrom ·)) = true) (b9:(c.wideKeys == (fn.params.toList++s.plain.varTypes P++fn.resultTypes.toList).any (P.wideKeysFrom ·)) = true)
    (c1:s.vars.all (P.varReadable ·) = true) (c2:fn.resultTypes.all (fun t=>P.readableRec t&&decide (t < P.types.size)) = true) (c3:(c.ifacesOut == fn.resultTypes.toList.any (P.ifacesRec ·)) = true) (c4:(c.loopsOut == fn.resultTypes.toList.any (P.loopsFrom ·)) = true)
    (c5:(c.plainKeys == P.plainKeys) = true) (c6:c.shortTexts.isNone = true) (c7:P.stopsHeard = true) (c8:P.mayEnter = true) (c9:(c.lifted == P.liftsFinal) = true)
    (d1:(P.make == some c.make) = true) (d2:(c.kinds == (if c.domain.isEmpty then [] else fn.params.toList.map fun t=>match P.underlying t with | some (.int k)=>some k | _=>none)) = true) (d3:(c.pinned == c.pinnedBy) = true)
    (d4:(c.veiled == (fn.params.toList++s.plain.varTypes P++fn.resultTypes.toList).any (P.veiledRec ·)) = true) (d5:c.veiledFits P fn.params.toList (fn.params.toList++s.plain.varTypes P++fn.resultTypes.toList) = true):joinedFacts P f fn s c = true:=by
  unfold joinedFacts
  simp only [Bool.and_eq_true]
  exact ⟨⟨⟨⟨⟨⟨⟨⟨⟨⟨⟨⟨⟨⟨⟨⟨⟨⟨⟨⟨⟨⟨⟨⟨⟨⟨⟨⟨⟨⟨⟨a1,a2⟩,a3⟩,a4⟩,a5⟩,a6⟩,a7⟩,a8⟩,a9⟩,b1⟩,b2⟩,b3⟩,b4⟩,b5⟩,b6⟩,b7⟩,b8⟩,b9⟩,c1⟩,c2⟩,c3⟩,c4⟩,c5⟩,c6⟩,c7⟩,c8⟩,c9⟩,d1⟩,d2⟩,d3⟩,d4⟩,d5⟩
theorem Hc:∀ (a r:List Char),a.all (fun c=>c != Char.ofNat 32) = true→wordsSigns (a++Char.ofNat 32 :: r) = a :: wordsSigns r
  | [],r,_=>rfl
  | c :: a,r,h=>by
    simp only [List.all_cons,Bool.and_eq_true,bne_iff_ne,ne_eq] at h
    have ih:=Hc a r h.2
    rw [List.cons_append,wordsSigns.eq_3,ih]
    exact h.1
def pA:List Char:=List.map Char.ofNat [99,117,116]
section
variable {P:Program} {r:List (List Char)}
theorem M1 (r:List (List Char)):stripLifts liftWords (pA :: r) = ([],pA :: r):=by kernel_rfl
theorem adr (h:behindMainWord (wordsSigns P.initOrder.toList) = pA :: r):P.make = some .cut:=by
  unfold Program.make
  rw [h]
  have a:(pA == "gc".toList) = false:=by kernel_rfl
  have b:(pA == "spec".toList) = false:=by kernel_rfl
  have c:(pA == "cut".toList) = true:=by kernel_rfl
  simp only [a,b,c,Bool.or_self,Bool.false_eq_true,if_false,Bool.true_or,if_true]
theorem XO (h:behindMainWord (wordsSigns P.initOrder.toList) = pA :: r):P.liftsFinal = false:=by
  unfold Program.liftsFinal Program.headLifts
  rw [h,M1]
  have a:(some pA == some "carried".toList) = false:=by kernel_rfl
  have c:(some pA == some "cut".toList) = true:=by kernel_rfl
  simp only [List.head?_cons,a,c,Bool.false_and,Bool.false_or,if_true]
  rfl
theorem Yw (h:behindMainWord (wordsSigns P.initOrder.toList) = pA :: r) (h1:P.laysLater = false) (h2:P.bearsReflect = false) (h3:P.doorFits [] = true):P.mayEnter = true:=by
  unfold Program.mayEnter
  rw [h]
  have a:(pA == "gc".toList) = false:=by kernel_rfl
  have b:(pA == "spec".toList) = false:=by kernel_rfl
  have d:(pA == "carried".toList) = false:=by kernel_rfl
  have c:(some pA == some "cut".toList) = true:=by kernel_rfl
  simp only [M1,a,b,c,d,h1,h2,h3,List.head?_cons,Bool.or_self,Bool.false_and,Bool.false_or,Bool.true_and,Bool.not_false,Bool.or_true,Bool.and_true]
  rfl
end
end Go.Ax
