import Derived.Test.YtbjfcadcipfolaaGreatZB12
import Derived.ProofKit
import Derived.JoinedOf
set_option linter.all false
/- The arguments of a claim, as typed values;from a function to a row. -/
namespace Go.Ax
open Go.RowKit Go.ChangeShapes Go.WideShapes
def tC (P:Program):List Field→Nat→Nat→Bool
 | [],off,total=>Nat.beq off total
 | f :: r,off,total=>Nat.beq f.offset off&&tC P r (off+P.cellsOf f.type) total
def J4:(a b:List Ty)→HP a→HP b→HP (a++b)
 | [],_,_,q=>q
 | [_],[],p,_=>p
 | [_],_ :: _,p,q=>(p,q)
 | _ :: u :: r,b,p,q=>(p.1,J4 (u :: r) b p.2 q)
theorem Kk:∀ (a b:List Ty) (p:HP a) (q:HP b),eX (a++b) (J4 a b p q) = eX a p++eX b q
 | [],_,_,_=>rfl
 | [_],[],p,_=>rfl
 | [_],_ :: _,p,q=>rfl
 | t :: u :: r,b,p,q=>by
  show iQ t p.1 :: eX ((u :: r)++b) (J4 (u :: r) b p.2 q) = _
  rw [Kk (u :: r) b]
  rfl
def sh (W:(t:Ty)→t.T→Prop):(ts:List Ty)→HP ts→Prop
 | [],_=>True
 | [t],x=>W t x
 | t :: u :: r,x=>W t x.1∧sh W (u :: r) x.2
theorem LQ {W:(t:Ty)→t.T→Prop}:∀ (a b:List Ty) (p:HP a) (q:HP b),sh W a p→sh W b q→sh W (a++b) (J4 a b p q)
 | [],_,_,_,_,h=>h
 | [_],[],p,_,h,_=>h
 | [_],_ :: _,p,q,h,h'=>⟨h,h'⟩
 | t :: u :: r,b,p,q,h,h'=>⟨h.1,LQ (u :: r) b p.2 q h.2 h'⟩
def qA:Nat→(t:Ty)→t.T→Prop
 | 0,_,_=>True
 | _+1, .i k,x=>k.min≤x∧x≤k.max
 | _+1, .b,_=>True
 | _+1, .s,x=>x.size≤maxLen
 | n+1, .ls t,l=>l.length≤maxLen∧∀ x∈l,qA n t x
 | n+1, .st k,x=>sh (qA n) (lf k) (Cp k x)
 | _+1, .arr _ _,_=>True
def Ia {α:Type} (f:TypeId→Option (List α)):List Field→Option (List α)
 | []=>some []
 | x :: r=>match f x.type,Ia f r with
  | some a,some b=>some (a++b)
  | _,_=>none
def lt (P:Program):Nat→TypeId→Option (List Ty × Option Ty)
 | 0,_=>none
 | d+1,t=>match P.underlying t with
  | some .bool=>bif Nat.beq (P.cellsOf t) 1 then some ([.b],some .b) else none
  | some (.int k)=>bif Nat.beq (P.cellsOf t) 1 then some ([.i k],some (.i k)) else none
  | some .string=>bif Nat.beq (P.cellsOf t) 1 then some ([.s],some .s) else none
  | some (.slice e)=>(match lt P d e with
   | some (_,some te)=>bif Nat.beq (P.cellsOf t) 1&&(Nat.blt 0 (P.cellsOf e)&&Nat.beq te.k (P.cellsOf e)) then some ([.ls te],some (.ls te)) else none
   | _=>none)
  | some (.struct fs)=>(match Ia (fun t=>(lt P d t).map (·.1)) fs.toList with
   | some l=>bif tC P fs.toList 0 (P.cellsOf t) then some (l,match IE LO t with | some k=>if l = lf k then some (.st k) else none | none=>none) else none
   | none=>none)
  | _=>none
theorem GQ {P:Program}:∀ {d:Nat} {t:TypeId} {L:List Ty} {ty:Ty},lt P d t = some (L,some ty)→∀ p:HP L,(∀ n,sh (qA n) L p)→∃ y:ty.T,(∀ n,qA n ty y)∧ty.enc y = eX L p:=by
 intro d t L ty h p hp
 cases d with
 | zero=>cases h
 | succ d =>
  unfold lt at h
  split at h
  ·cases hc:Nat.beq (P.cellsOf t) 1 <;> rw [hc] at h <;> cases h
   exact ⟨p,hp,rfl⟩
  ·cases hc:Nat.beq (P.cellsOf t) 1 <;> rw [hc] at h <;> cases h
   exact ⟨p,hp,rfl⟩
  ·cases hc:Nat.beq (P.cellsOf t) 1 <;> rw [hc] at h <;> cases h
   exact ⟨p,hp,rfl⟩
  ·next e hu =>
   split at h
   ·next te _ =>
    cases hc:(Nat.beq (P.cellsOf t) 1&&(Nat.blt 0 (P.cellsOf e)&&Nat.beq te.k (P.cellsOf e))) <;> rw [hc] at h <;> cases h
    exact ⟨p,hp,rfl⟩
   ·cases h
  ·next fs hu =>
   split at h
   ·next l hl =>
    cases hc:tC P fs.toList 0 (P.cellsOf t) with
    | false=>rw [hc] at h;cases h
    | true =>
     rw [hc,cond_true] at h
     split at h
     ·next k hk =>
      by_cases e:l = lf k
      ·rw [if_pos e] at h
       cases h
       subst e
       refine ⟨Hl k p,fun n=>?_, ?_⟩
       ·cases n with
        | zero=>trivial
        | succ n=>show sh (qA n) (lf k) (Cp k (Hl k p));rw [IF];exact hp n
       ·show eX (lf k) (Cp k (Hl k p)) = _
        rw [IF]
      ·rw [if_neg e] at h;cases h
     ·cases h
   ·cases h
  ·cases h
structure gA (ok:Nat→Prop) (w:World) (cs:List Value) (ds:List D):Prop where
  len:ds.length = cs.length
  one:∀ v∈cs,v.oneCell' = true
  rep:∀ (i:Nat) (v:Value) (x:D),cs[i]? = some v→ds[i]? = some x→aG ok w v x
section
variable {P:Program} {w:World} {ok:Nat→Prop} {H:Type} {enc:TypeId × Value→H}
theorem gA.single {v:Value} {x:D} (h1:v.oneCell' = true) (h:aG ok w v x):gA ok w [v] [x]:=by
 refine ⟨rfl,fun u hu=>by simp at hu;subst hu;exact h1,fun i u y hu hy=>?_⟩
 match i with
 | 0=>simp at hu hy;subst hu;subst hy;exact h
 | i+1=>simp at hu
theorem gA.append {cs cs':List Value} {ds ds':List D} (h:gA ok w cs ds) (h':gA ok w cs' ds'):gA ok w (cs++cs') (ds++ds'):=by
 refine ⟨by simp [h.len,h'.len],fun u hu=>?_,fun i v x hv hx=>?_⟩
 ·rcases List.mem_append.1 hu with hu | hu
  ·exact h.one u hu
  ·exact h'.one u hu
 ·rw [List.getElem?_append] at hv hx
  rw [h.len] at hx
  split at hv
  ·next hlt=>rw [if_pos hlt] at hx;exact h.rep i v x hv hx
  ·next hge=>rw [if_neg hge] at hx;exact h'.rep _ v x hv hx
theorem gA.nil:gA ok w [] []:=⟨rfl,fun u hu=>by simp at hu,fun i v x hv=>by simp at hv⟩
theorem rV {α β:Type} {f:α→Option β} {a:α} {l:List α} {ys:List β} (h:(a :: l).mapM f = some ys):∃ y r,f a = some y∧l.mapM f = some r∧ys = y :: r:=by
 rw [List.mapM_cons] at h
 cases hy:f a with
 | none=>rw [hy] at h;cases h
 | some y =>
  rw [hy] at h
  cases hr:l.mapM f with
  | none=>simp [hr] at h
  | some r=>simp [hr] at h;exact ⟨y,r,rfl,rfl,h.symm⟩
theorem yi {α β:Type} {f:α→Option β}:∀ {l:List α} {ys:List β},l.mapM f = some ys→ys.length = l.length∧∀ (i:Nat) (a:α),l[i]? = some a→∃ y,ys[i]? = some y∧f a = some y
 | [],ys,h=>by simp at h;subst h;exact ⟨rfl,fun i a ha=>by simp at ha⟩
 | a :: l,ys,h=>by
  obtain ⟨y,r,h1,h2,rfl⟩:=rV h
  obtain ⟨h3,h4⟩:=yi h2
  refine ⟨by simp [h3],fun i b hb=>?_⟩
  match i with
  | 0=>simp at hb;subst hb;exact ⟨y,rfl,h1⟩
  | i+1=>simp at hb;obtain ⟨z,hz,hf⟩:=h4 i b hb;exact ⟨z,by simpa using hz,hf⟩
theorem vV {X:Type} {g:TypeId→List Value→Option X} {cs:List Value} {f:TypeId→Option (List Ty)}
  (ih:∀ t cs' x L,f t = some L→g t cs' = some x→cs'.length = P.cellsOf t∧∃ p:HP L,(∀ n,sh (qA n) L p)∧gA ok w cs' (eX L p)) :
  ∀ (fs:List Field) (off total:Nat) (xs:List X) (L:List Ty),tC P fs off total = true→Ia f fs = some L→cs.length = total→fs.mapM (fun f=>g f.type ((cs.drop f.offset).take (P.cellsOf f.type))) = some xs →
   ∃ p:HP L,(∀ n,sh (qA n) L p)∧gA ok w (cs.drop off) (eX L p)
 | [],off,total,xs,L,ht,hc,hl,_=>by
  unfold tC at ht
  have:off = total:=Nat.eq_of_beq_eq_true ht
  subst this
  cases hc
  refine ⟨(),fun _=>trivial, ?_⟩
  rw [List.drop_of_length_le (by omega)]
  exact .nil
 | x :: r,off,total,xs,L,ht,hc,hl,h=>by
  unfold tC at ht
  simp only [Bool.and_eq_true] at ht
  have ho:x.offset = off:=Nat.eq_of_beq_eq_true ht.1
  obtain ⟨y,ys,h1,h2,rfl⟩:=rV h
  unfold Ia at hc
  split at hc
  ·next a b ha hb =>
   cases hc
   obtain ⟨g1,p,g2,g3⟩:=ih x.type _ y a ha h1
   obtain ⟨q,g4,g5⟩:=vV ih r (off+P.cellsOf x.type) total ys b ht.2 hb hl h2
   refine ⟨J4 a b p q,fun n=>LQ a b p q (g2 n) (g4 n), ?_⟩
   rw [Kk]
   rw [ho] at g3
   have e:cs.drop off = (cs.drop off).take (P.cellsOf x.type)++cs.drop (off+P.cellsOf x.type):=by
    rw [← List.drop_drop];exact (List.take_append_drop _ _).symm
   rw [e]
   exact g3.append g5
  ·cases hc
theorem Il (hok:∀ b,b < w.heap.size→ok b) {base:Nat} {spare:Nat→Bool} {held:Bool}:∀ (fuel d:Nat) (t:TypeId) (cs:List Value) (x:DataW H × List MemPlace) (L:List Ty) (c:Option Ty),
  lt P d t = some (L,c)→DataW.trod enc P w base spare held fuel t cs = some x→cs.length = P.cellsOf t∧∃ p:HP L,(∀ n,sh (qA n) L p)∧gA ok w cs (eX L p):=by
 intro fuel
 induction fuel with
 | zero=>intro d t cs x L c _ h;simp [DataW.trod] at h
 | succ fuel ih =>
  intro d t cs x L c hpl h
  cases d with
  | zero=>simp [lt] at hpl
  | succ d =>
   unfold lt at hpl
   unfold DataW.trod at h
   split at hpl
   ·next hu =>
    cases hc:Nat.beq (P.cellsOf t) 1 <;> rw [hc] at hpl <;> cases hpl
    rw [hu] at h
    simp only at h
    split at h <;> try (simp_all;done)
    next b _=>exact ⟨(Nat.eq_of_beq_eq_true hc).symm,b,fun n=>by cases n <;> trivial, .single rfl (.lit _)⟩
   ·next k hu =>
    cases hc:Nat.beq (P.cellsOf t) 1 <;> rw [hc] at hpl <;> cases hpl
    rw [hu] at h
    simp only at h
    split at h <;> try (simp_all;done)
    next k' k'' n he =>
     cases he
     split at h
     ·next hcc =>
      obtain ⟨rfl,hwf⟩:=hcc
      simp only [Lit.wf,Bool.and_eq_true,decide_eq_true_eq] at hwf
      exact ⟨(Nat.eq_of_beq_eq_true hc).symm,n,fun m=>by cases m with | zero=>trivial | succ m=>exact ⟨hwf.1,hwf.2⟩, .single rfl (.lit _)⟩
     ·cases h
   ·next hu =>
    cases hc:Nat.beq (P.cellsOf t) 1 <;> rw [hc] at hpl <;> cases hpl
    rw [hu] at h
    simp only at h
    split at h <;> try (simp_all;done)
    next s _ =>
     split at h
     ·next hcc=>exact ⟨(Nat.eq_of_beq_eq_true hc).symm,s,fun m=>by cases m with | zero=>trivial | succ m=>exact hcc, .single rfl (.lit _)⟩
     ·cases h
   ·next e hu =>
    split at hpl
    ·next Le te hle =>
     cases hc:(Nat.beq (P.cellsOf t) 1&&(Nat.blt 0 (P.cellsOf e)&&Nat.beq te.k (P.cellsOf e))) <;> rw [hc] at hpl <;> cases hpl
     simp only [Bool.and_eq_true,Nat.beq_eq,Nat.blt_eq] at hc
     obtain ⟨hc1,hc2,hc3⟩:=hc
     rw [hu] at h
     simp only at h
     split at h <;> try (simp_all;done)
     ·refine ⟨hc1.symm,([]:List te.T),fun m=>by cases m with | zero=>trivial | succ m=>exact ⟨by simp [maxLen],fun x hx=>by simp at hx⟩, .single rfl ?_⟩
      exact .sl te [] none 0 0 te.k (els te []) (fun _ _=>undef) rfl rfl (fun i h=>by omega) (Nat.le_refl _) (by simp [maxLen]) (fun h=>by omega) (fun i j h=>by omega) (fun i h=>by omega) (fun i j d h=>by omega)
     ·next _ e' a len cap he =>
      cases he
      split at h
      ·next hcc =>
       obtain ⟨hbase,hlen,hcap⟩:=hcc
       cases hm:(List.range len).mapM (fun i=>(w.cells? base (a.add (i*P.cellsOf e)) (P.cellsOf e)).bind (DataW.trod enc P w base spare held fuel e)) with
       | none=>rw [hm] at h;cases h
       | some elems =>
        obtain ⟨hl,hg⟩:=yi hm
        have hel:∀ i,i < len→∃ us:List Value,w.cells? base (a.add (i*P.cellsOf e)) (P.cellsOf e) = some us∧us.length = P.cellsOf e∧∃ y:te.T,(∀ n,qA n te y)∧gA ok w us (te.enc y):=by
         intro i hi
         obtain ⟨y,_,hy⟩:=hg i i (by rw [List.getElem?_range hi])
         cases hcs:w.cells? base (a.add (i*P.cellsOf e)) (P.cellsOf e) with
         | none=>rw [hcs] at hy;cases hy
         | some us =>
          rw [hcs] at hy
          obtain ⟨h1,p,h2,h3⟩:=ih d e us y _ _ hle hy
          obtain ⟨z,g1,g2⟩:=GQ hle p h2
          exact ⟨us,rfl,h1,z,g1,by rw [g2];exact h3⟩
        have hcell:∀ i us,w.cells? base (a.add (i*P.cellsOf e)) (P.cellsOf e) = some us→∀ j,j < P.cellsOf e→w.cell? (a.add (i*P.cellsOf e+j)) = us[j]?:=by
         intro i us hus j hj
         unfold World.cells? at hus
         split at hus
         ·obtain ⟨_,hq⟩:=yi hus
          obtain ⟨y,hy,hw⟩:=hq j j (by rw [List.getElem?_range hj])
          rw [hy, ← hw,lG]
         ·cases hus
        have hch:∀ i, ∃ (us:List Value) (y:te.T),i < len→(w.cells? base (a.add (i*P.cellsOf e)) (P.cellsOf e) = some us∧us.length = P.cellsOf e∧(∀ n,qA n te y)∧gA ok w us (te.enc y)):=by
         intro i
         by_cases hi:i < len
         ·obtain ⟨us,h1,h2,y,h3,h4⟩:=hel i hi
          exact ⟨us,y,fun _=>⟨h1,h2,h3,h4⟩⟩
         ·exact ⟨[],te.z,fun h=>(hi h).elim⟩
        let us:Nat→List Value:=fun i=>(hch i).choose
        let ys:Nat→te.T:=fun i=>(hch i).choose_spec.choose
        have hs:∀ i,i < len→w.cells? base (a.add (i*P.cellsOf e)) (P.cellsOf e) = some (us i)∧(us i).length = P.cellsOf e∧(∀ n,qA n te (ys i))∧gA ok w (us i) (te.enc (ys i)):=fun i hi=>(hch i).choose_spec.choose_spec hi
        have hll:((List.range len).map ys).length = len:=by simp
        have hels:∀ i,i < len→els te ((List.range len).map ys) i = te.enc (ys i):=by
         intro i hi
         rw [d7,List.getD_eq_getElem?_getD,List.getElem?_map,List.getElem?_range hi];rfl
        refine ⟨hc1.symm,(List.range len).map ys,fun m=>?_, .single rfl ?_⟩
        ·cases m with
         | zero=>trivial
         | succ m =>
          refine ⟨by rw [hll];exact Nat.le_trans hlen hcap,fun x hx=>?_⟩
          obtain ⟨i,hi,rfl⟩:=List.mem_map.1 hx
          exact (hs i (List.mem_range.1 hi)).2.2.1 m
        ·by_cases h0:0 < len
         ·have hblk:a.block < w.heap.size:=by
           have:=hcell 0 (us 0) (hs 0 h0).1 0 hc2
           have hsome:(us 0)[0]?.isSome = true:=by
            rw [List.getElem?_eq_getElem (by rw [(hs 0 h0).2.1];exact hc2)];rfl
           rw [← this] at hsome
           simp only [Nat.zero_mul,Nat.zero_add] at hsome
           unfold World.cell? at hsome
           cases hh:w.heap[(a.add 0).block]? with
           | none=>rw [hh] at hsome;simp at hsome
           | some o =>
            rw [oe] at hh
            exact dP hh
          refine .sl te _ (some a) len cap te.k (els te ((List.range len).map ys)) (fun i j=>(us i).getD j undef) hll.symm rfl (fun _ _=>rfl) hlen hcap (fun _=>⟨a,rfl,hok _ hblk,fun i j hi hj=>?_⟩) (fun i j hi hj=>?_) (fun i hi=>?_) (fun i j dd hi hd=>?_)
          ·rw [hc3] at hj ⊢
           rw [hcell i (us i) (hs i hi).1 j hj]
           rw [List.getD_eq_getElem?_getD,List.getElem?_eq_getElem (by rw [(hs i hi).2.1];exact hj)];rfl
          ·rw [hc3] at hj
           refine (hs i hi).2.2.2.one _ ?_
           rw [List.getD_eq_getElem?_getD,List.getElem?_eq_getElem (by rw [(hs i hi).2.1];exact hj)]
           exact List.getElem_mem _
          ·exact dB _ _ _
          ·rw [hels i hi] at hd
           have hj:j < (us i).length:=by
            rw [← (hs i hi).2.2.2.len];exact (List.getElem?_eq_some_iff.1 hd).1
           refine (hs i hi).2.2.2.rep j _ dd ?_ hd
           rw [List.getD_eq_getElem?_getD,List.getElem?_eq_getElem hj];rfl
         ·have hl0:len = 0:=by omega
          subst hl0
          exact .sl te _ (some a) 0 cap te.k (els te ((List.range 0).map ys)) (fun _ _=>undef) hll.symm rfl (fun i h=>by omega) hlen hcap (fun h=>by omega) (fun i j h=>by omega) (fun i h=>by omega) (fun i j d h=>by omega)
      ·cases h
    ·cases hpl
   ·next fs hu =>
    split at hpl
    ·next l hcat =>
     cases hc:tC P fs.toList 0 (P.cellsOf t) with
     | false=>rw [hc] at hpl;cases hpl
     | true =>
      rw [hc,cond_true] at hpl
      cases hpl
      rw [hu] at h
      simp only at h
      split at h
      ·next hlen =>
       cases hm:fs.toList.mapM (fun f=>DataW.trod enc P w base spare held fuel f.type ((cs.drop f.offset).take (P.cellsOf f.type))) with
       | none=>rw [hm] at h;cases h
       | some xs =>
        refine ⟨hlen, ?_⟩
        have:=vV (P:=P) (w:=w) (ok:=ok) (g:=fun t cs=>DataW.trod enc P w base spare held fuel t cs) (cs:=cs) (f:=fun t=>(lt P d t).map (·.1)) (fun t cs' x L h1 h2=>by
         cases hlt:lt P d t with
         | none=>rw [hlt] at h1;cases h1
         | some q=>obtain ⟨L',c'⟩:=q;rw [hlt] at h1;cases h1;exact ih d t cs' x _ _ hlt h2) fs.toList 0 (P.cellsOf t) xs _ hc hcat hlen hm
        simpa using this
      ·cases h
    ·cases hpl
   ·cases hpl
def wV (P:Program) (t:TypeId):Bool:=match P.underlying t with | some (.struct _)=>true | some (.array _ _)=>true | _=>false
theorem J2 {E:ar} {cs:Array Value} {ds:List D} (h:gA E.ok w cs.toList ds):af E w (.agg cs) (.agg (ds.map .c)):=by
 have:=af.agg (E:=E) (w:=w) cs.toList (ds.map .c) (by simp [h.len]) fun i v d hv hd=>by
  rw [List.getElem?_map] at hd
  cases hx:ds[i]? with
  | none=>rw [hx] at hd;cases hd
  | some x=>rw [hx] at hd;cases hd;exact .c _ _ (h.rep i v x hv hx)
 simpa using this
def sF (P:Program) (d:Nat):List TypeId→List Ty→Bool
 | [],[]=>true
 | t :: ts,u :: us=>(match lt P d t with | some (_,some c)=>decide (c = u)&&(match u with | .st _=>wV P t | .arr _ _=>false | _=>!(wV P t)&&Nat.beq (P.cellsOf t) 1) | _=>false)&&sF P d ts us
 | _,_=>false
theorem zu {ok:Nat→Prop} (hok:∀ b,b < w.heap.size→ok b) {d:Nat} {base:Nat} {spare:Nat→Bool} {held:Bool} {wb:Nat}:∀ (ts:List TypeId) (us:List Ty) (vs:List Value) (xs:List (DataW H)) (ps:List MemPlace),
  sF P d ts us = true→(∀ (j:Nat) t v,ts[j]? = some t→vs[j]? = some v→Value.okWide P w .any wb t v)→DataW.TrodAll enc P w base spare held ts vs xs ps →
   ∃ a:HP us,(∀ n,sh (qA n) us a)∧aI (dw ok) w vs ((fE us a).map TV.v)
 | [],[],vs,xs,ps,_,_,h=>by
  cases vs with
  | nil=>exact ⟨(),fun _=>trivial,rfl,fun i v d hv=>by simp at hv⟩
  | cons v vs=>cases xs <;> simp [DataW.TrodAll] at h
 | [],_ :: _,_,_,_,h,_,_=>by simp [sF] at h
 | _ :: _,[],_,_,_,h,_,_=>by simp [sF] at h
 | t :: ts,u :: us,vs,xs,ps,hp,hv,h=>by
  obtain ⟨v,vs1,x,xs1,p,q,rfl,rfl,rfl,h1,h2⟩:=trodAll_cons h
  unfold sF at hp
  rw [Bool.and_eq_true] at hp
  obtain ⟨a,g1,g2⟩:=zu hok ts us vs1 xs1 q hp.2 (fun j t v ht hv'=>hv (j+1) t v (by simpa using ht) (by simpa using hv')) h2
  obtain ⟨fuel,hf⟩:=h1
  have hw:=hv 0 t v rfl rfl
  have hp1:=hp.1
  split at hp1
  ·next L c hlt =>
   rw [Bool.and_eq_true,decide_eq_true_eq] at hp1
   obtain ⟨hcu,hp2⟩:=hp1
   subst hcu
   obtain ⟨hl,pp,hwf,hr⟩:=Il (ok:=ok) hok fuel d t v.cells.toList (x,p) L _ hlt hf
   obtain ⟨y,gy,ey⟩:=GQ hlt pp hwf
   rw [← ey] at hr
   have key:af (dw ok) w v (encV c y):=by
    have one:∀ dd:D,wV P t = false→v.cells.toList.length = 1→gA ok w v.cells.toList [dd]→af (dw ok) w v (.c dd):=by
     intro dd ha hl hr
     have hcell:v.cells.toList = [v]:=by
      cases v with
      | agg cs =>
       exfalso
       cases hu:P.underlying t with
       | none =>
        cases d with
        | zero=>simp [lt] at hlt
        | succ d=>unfold lt at hlt;rw [hu] at hlt;cases hlt
       | some uu =>
        have hl1:cs.toList.length = 1:=hl
        obtain ⟨c0,hc0⟩:∃ c,cs.toList = [c]:=by
         match hcs:cs.toList,hl1 with
         | [c],_=>exact ⟨c,rfl⟩
        unfold wV at ha
        rw [hu] at ha
        cases uu <;> simp_all [Value.okWide,Cell.okWide,Cell.ok]
      | _=>rfl
     rw [hcell] at hr
     exact .c _ _ (hr.rep 0 v dd rfl rfl)
    cases c with
    | st k =>
     have ha:wV P t = true:=hp2
     unfold Value.okWide at hw
     have:∃ cs,v = .agg cs:=by
      unfold wV at ha
      split at ha
      ·next hu=>rw [hu] at hw;obtain ⟨cs,hcs,_⟩:=hw;exact ⟨cs,hcs⟩
      ·next hu=>rw [hu] at hw;obtain ⟨cs,hcs,_⟩:=hw;exact ⟨cs,hcs⟩
      ·cases ha
     obtain ⟨cs,rfl⟩:=this
     exact J2 (E:=dw ok) hr
    | arr n t=>cases hp2
    | i k=>simp only [Bool.and_eq_true,Bool.not_eq_true',Nat.beq_eq] at hp2;exact one _ hp2.1 (hl.trans hp2.2) hr
    | b=>simp only [Bool.and_eq_true,Bool.not_eq_true',Nat.beq_eq] at hp2;exact one _ hp2.1 (hl.trans hp2.2) hr
    | s=>simp only [Bool.and_eq_true,Bool.not_eq_true',Nat.beq_eq] at hp2;exact one _ hp2.1 (hl.trans hp2.2) hr
    | ls t=>simp only [Bool.and_eq_true,Bool.not_eq_true',Nat.beq_eq] at hp2;exact one _ hp2.1 (hl.trans hp2.2) hr
   match us,a,g1,g2 with
   | [],a,g1,g2 =>
    refine ⟨y,gy, ?_⟩
    have g2':=g2.1
    simp [fE] at g2'
    subst g2'
    refine ⟨rfl,fun i v' d' hv' hd'=>?_⟩
    match i with
    | 0=>simp [fE] at hv' hd'; subst hv' hd'; exact key
    | i+1=>simp at hv'
   | u2 :: r,a,g1,g2 =>
    refine ⟨(y,a),fun n=>⟨gy n,g1 n⟩, ?_⟩
    show aI (dw ok) w (v :: vs1) (encV c y :: (fE (u2 :: r) a).map TV.v)
    refine ⟨by simp [g2.1],fun i v' d' hv' hd'=>?_⟩
    match i with
    | 0=>simp at hv' hd'; subst hv' hd'; exact key
    | i+1=>exact g2.2 i v' d' (by simpa using hv') (by simpa using hd')
  ·cases hp1
theorem C6 {f:Func} {s:ChangeSpec} {apart fresh handsOn again:Bool} {W W':World} {args:Array Value} {v:Value} {ds gs:List (DataW H)} {before pa pv:List MemPlace}
  (hW:DataW.Whole enc P f.params.toList s.vars apart W args.toList ds gs before)
  (hres:∀ (b:Nat) (sp:Nat→Bool) (hd:Bool),DataW.TrodAll enc P W' b sp hd f.resultTypes.toList (v.resultList f.resultTypes.size) (s.fn H (ds++gs)).results [])
  (hargs:∀ sp:Nat→Bool,(∀ p∈before,sp p.block = true)→DataW.TrodAll enc P W' 0 sp true f.params.toList args.toList (s.fn H (ds++gs)).args pa)
  (hvars:∀ sp:Nat→Bool,(∀ p∈before,sp p.block = true)→DataW.TrodVars enc P W' sp s.vars (s.fn H (ds++gs)).vars pv)
  (hps:before = pa++pv) (hb:Below W.heap.size W W')
  (hok:∀ (j:Nat) (t:TypeId) (r:Value),f.resultTypes[j]? = some t→(v.resultList f.resultTypes.size)[j]? = some r→Value.okWide P W' .any 0 t r) :
  s.post enc P f apart fresh handsOn again W args v W':=by
 have hlt:∀ p∈before,p.block < W.heap.size:=fun p hp=>hW.lt p hp
 have hold:∀ p∈before,(fun b=>decide (b < W.heap.size)) p.block = true:=fun p hp=>by simpa using hlt p hp
 refine ⟨ds,gs,before,[],pa,pv,hW,hres _ _ _,hargs _ hold,hvars _ hold,World.keptBut_mono (fun p hp=>⟨hp, ?_⟩) (hb.frame (·∈before)),fun _=>?_⟩
 ·rw [hps,List.mem_append] at hp
  exact Or.inr hp
 ·obtain ⟨_,_,_,_,_,hz,hn⟩:=hW
  refine ⟨hok,_,_,([]++pa)++pv,⟨[]++pa,pv,trodAll_append (hargs _ (fun _ _=>rfl)) (hres _ _ _),hvars _ (fun _ _=>rfl),rfl, ?_, ?_⟩, ?_⟩
  ·intro b off hp
   have hin:MemPlace.cell b off∈before:=by rw [hps];simpa using hp
   rw [hb.frozen (hlt _ hin)]
   exact hz b off hin
  ·intro ha
   have:=hn ha
   rw [hps] at this
   simpa using this
  ·intro p hp _
   rw [hps]
   simpa using hp
end
end Go.Ax
namespace Go.Ax
open Go.RowKit Go.ChangeShapes Go.WideShapes Go.ChangeAt Go.WideElems
def rk (P:Program) (ns:List String):Bool:=ns.all fun n=>match (P.globalNamed n).bind (P.globals[·]?) with | some gl=>P.readableRec gl.type&&decide (gl.type < P.types.size) | none=>true
section
variable {H:Type} {enc:TypeId × Value→H}
theorem Below.trodAll {P:Program} (hl:laidOutB P = true) {W W':World} (hb:Below W.heap.size W W') {sp:Nat→Bool}:∀ {ts:List TypeId} {vs:List Value} {xs:List (DataW H)} {ps:List MemPlace},
  ts.all (fun t=>P.readableRec t&&decide (t < P.types.size)) = true→DataW.TrodAll enc P W 0 (fun _=>true) true ts vs xs ps→(∀ p∈ps,p.block < W.heap.size)→(∀ p∈ps,sp p.block = true)→DataW.TrodAll enc P W' 0 sp true ts vs xs ps
 | [],vs,xs,ps,_,h,_,_=>by
  obtain ⟨rfl,rfl,rfl⟩:=trodAll_nil h
  trivial
 | t :: ts,vs,xs,ps,hr,h,hlt,hsp=>by
  obtain ⟨v,vs1,x,xs1,p,q,rfl,rfl,rfl,h1,h2⟩:=trodAll_cons h
  simp only [List.all_cons,Bool.and_eq_true,decide_eq_true_eq] at hr
  have a1:=WideElems.Trod_stays hl hr.1.1 hr.1.2 h1 (fun x hx=>hb.same (hlt x (by simp [hx]))) (fun x hx=>hsp x (by simp [hx]))
  have a2:=Below.trodAll (sp:=sp) hl hb hr.2 h2 (fun x hx=>hlt x (by simp [hx])) (fun x hx=>hsp x (by simp [hx]))
  exact ⟨p,q,a1,a2,rfl⟩
theorem Below.trodVars' {P:Program} (hl:laidOutB P = true) {W W':World} (hb:Below W.heap.size W W') {sp:Nat→Bool} :
  ∀ {ns:List String} {gs:List (DataW H)} {ps:List MemPlace},rk P ns = true→DataW.TrodVars enc P W (fun _=>true) ns gs ps→(∀ p∈ps,sp p.block = true)→DataW.TrodVars enc P W' sp ns gs ps
 | [],[],_,_,h,_=>h
 | [],_ :: _,_,_,h,_=>h.elim
 | _ :: _,[],_,_,h,_=>h.elim
 | n :: ns,d :: ds,ps,hv,h,hsp=>by
  have hlt:=h.lt
  obtain ⟨g,t,cs,fuel,p,q,h1,h2,h3,h4,hs,e⟩:=h
  simp only [rk,List.all_cons,Bool.and_eq_true] at hv
  have ht:P.readableRec t = true∧t < P.types.size:=by
   have:=hv.1
   rw [h1] at this
   cases hg:P.globals[g]? with
   | none=>rw [hg] at h2;cases h2
   | some gl =>
    rw [hg] at h2
    obtain rfl:gl.type = t:=Option.some.inj h2
    simpa [hg,Bool.and_eq_true] using this
  have hp:∀ x∈p,x.block < W.heap.size:=fun x hx=>hlt x (by rw [e];simp [hx])
  have h3':W'.var? P n = some cs:=by
   unfold World.var? at h3 ⊢
   rw [h1] at h3 ⊢
   simp only [Option.bind_some] at h3 ⊢
   have hg:g < W.heap.size:=by
    cases hh:W.heap[g]? with
    | none=>rw [hh] at h3;cases h3
    | some o=>exact (Array.getElem?_eq_some_iff.1 hh).1
   rw [hb.block g hg];exact h3
  exact ⟨g,t,cs,fuel,p,q,h1,h2,h3',DataW.trod_stays (kids_book hl ht.1) (book_sized ht.1) (fun h=>by cases h) ⟨ht.2,book_self t⟩ h4 (fun x hx=>hb.same (hp x hx)) (fun x hx=>hsp x (by rw [e];simp [hx])),
   Below.trodVars' hl hb (by simpa [rk] using hv.2) hs (fun x hx=>hsp x (by rw [e];simp [hx])),e⟩
theorem Jq {P:Program} {f:FuncId} {fn:Func} (us0:List Ty) (hm:∀ (w:World) (xs:List Value) (a:HP us0),(∀ n,sh (qA n) us0 a)→aI (dw fun b=>b < w.heap.size) w xs ((fE us0 a).map TV.v)→ik P f xs.toArray w fun v w'=>Below w.heap.size w w'∧v = .bool true)
  {s:ChangeSpec} {apart fresh handsOn again:Bool} (hbody:∃ c,fn.body = some c) (hfn:P.funcs[f]? = some fn)
  (hname:(fn.name == "runtime.NumGoroutine") = false) (hl:laidOutB P = true) (d:Nat)
  (hpl:sF P d fn.params.toList us0 = true) (hrd:fn.params.toList.all (fun t=>P.readableRec t&&decide (t < P.types.size)) = true) (hvr:rk P s.vars = true)
  {tb:TypeId} (hres:fn.resultTypes = #[tb]) (hbool:P.underlying tb = some .bool)
  (hspec:∀ (ds gs:List (DataW H)),ds.length = fn.params.toList.length→gs.length = s.vars.length→(s.fn H (ds++gs)).results = [.lit (.bool true)]∧(s.fn H (ds++gs)).args = ds∧(s.fn H (ds++gs)).vars = gs)
  (W:World) (base:Nat) (args:Array Value) (ds gs:List (DataW H)) (before:List MemPlace)
  (hval:∀ (j:Nat) t v,fn.params[j]? = some t→args[j]? = some v→Value.okWide P W .any base t v)
  (hW:DataW.Whole enc P fn.params.toList s.vars apart W args.toList ds gs before) :
  Calls P f args W fun e W'=>∃ v,e = .returned v∧s.post enc P fn apart fresh handsOn again W args v W':=by
 have hW':=hW
 obtain ⟨p,q,hA,hV,rfl,hfz,hnd⟩:=hW
 obtain ⟨a,hwf,hrep⟩:=zu (enc:=enc) (ok:=fun b=>b < W.heap.size) (fun _ h=>h) (d:=d) fn.params.toList us0 args.toList ds p hpl (fun j t v ht hv=>hval j t v (by simpa using ht) (by simpa using hv)) hA
 have hdo:=hm W args.toList a hwf hrep
 have hent:(callFunc f args).run P W = .ok (.enter f args) W:=by
  obtain ⟨c,hb⟩:=hbody
  exact eZ hfn hb hname args W
 have hlen:∀ {ts:List TypeId} {vs:List Value} {xs:List (DataW H)} {ps:List MemPlace},DataW.TrodAll enc P W 0 (fun _=>true) true ts vs xs ps→xs.length = ts.length:=by
  intro ts
  induction ts with
  | nil=>intro vs xs ps h;obtain ⟨rfl,rfl,rfl⟩:=trodAll_nil h;rfl
  | cons t ts ih =>
   intro vs xs ps h
   obtain ⟨v,vs1,x,xs1,p,q,rfl,rfl,rfl,h1,h2⟩:=trodAll_cons h
   simp [ih h2]
 have hlenV:∀ {ns:List String} {xs:List (DataW H)} {ps:List MemPlace},DataW.TrodVars enc P W (fun _=>true) ns xs ps→xs.length = ns.length:=by
  intro ns
  induction ns with
  | nil=>intro xs ps h;cases xs with | nil=>rfl | cons x xs=>exact h.elim
  | cons n ns ih =>
   intro xs ps h
   cases xs with
   | nil=>exact h.elim
   | cons x xs =>
    obtain ⟨g,t,cs,fuel,p,q,h1,h2,h3,h4,hs,e⟩:=h
    simp [ih hs]
 obtain ⟨s1,s2,s3⟩:=hspec ds gs (hlen hA) (hlenV hV)
 rcases hdo with ⟨_,hcalls⟩ | ⟨v,w',hrun,_⟩
 ·rw [Array.toArray_toList] at hcalls
  refine hcalls.mono ?_
  rintro e W' ⟨v,rfl,hb,rfl⟩
  refine ⟨_,rfl, ?_⟩
  have hlt:∀ x∈p++q,x.block < W.heap.size:=fun x hx=>hW'.lt x hx
  refine C6 (pa:=p) (pv:=q) hW' (fun b sp hd=>?_) (fun sp hsp=>?_) (fun sp hsp=>?_) rfl hb ?_
  ·rw [s1,hres]
   exact trodAll_mk1 (shut_bool hbool true)
  ·rw [s2]
   exact Below.trodAll hl hb hrd hA (fun x hx=>hlt x (by simp [hx])) (fun x hx=>hsp x (by simp [hx]))
  ·rw [s3]
   exact Below.trodVars' hl hb hvr hV (fun x hx=>hsp x (by simp [hx]))
  ·exact ok_one hres rfl (okWide_bool_mk hbool true)
 ·have:(callFunc f args.toList.toArray).run P W = .ok (.enter f args) W:=by simpa using hent
  rw [this] at hrun
  cases hrun
end
end Go.Ax
namespace Go.Ax
open Go.RowKit
theorem J5 {P:Program} {f:FuncId} {fn:Func} {s:ChangeSpec} {c:OpenClaim}
  (a1:c.wf (OpenSpec.ofChange s) = true) (a2:laidOutB P = true) (a3:mapsRowed P = true) (a4:fn.params.all (P.readableRec ·) = true) (a5:namedTie P c.named s.vars = true)
  (a6:(c.stops == []) = true) (a7:(P.stops == []) = true) (a8:(c.knobs == []) = true) (a9:(P.stopKnobs == []) = true)
  (b1:(c.inPlace == P.inPlace f) = true) (b2:(c.unfollowed == P.unfollowed f) = true) (b3:(c.recurses == P.recurses f) = true) (b4:(c.named == P.varsNamed f) = true)
  (b5:(c.maps == (fn.params.toList++s.plain.varTypes P).any (P.mapsRec ·)) = true) (b6:(c.ifaces == (fn.params.toList++s.plain.varTypes P).any (P.ifacesRec ·)) = true) (b7:(c.mapsOut == P.mapsAmong fn.resultTypes.toList) = true)
  (b8:(c.loops == (fn.params.toList++s.plain.varTypes P).any (P.loopsFrom ·)) = true) (b9:(c.wideKeys == (fn.params.toList++s.plain.varTypes P++fn.resultTypes.toList).any (P.wideKeysFrom ·)) = true)
  (c1:s.vars.all (P.varReadable ·) = true) (c2:fn.resultTypes.all (fun t=>P.readableRec t&&decide (t < P.types.size)) = true) (c3:(c.ifacesOut == fn.resultTypes.toList.any (P.ifacesRec ·)) = true) (c4:(c.loopsOut == fn.resultTypes.toList.any (P.loopsFrom ·)) = true)
  (c5:(c.plainKeys == P.plainKeys) = true) (c6:c.shortTexts.isNone = true) (c7:P.stopsHeard = true) (c8:P.mayEnter = true) (c9:(c.lifted == P.liftsFinal) = true)
  (d1:(P.make == some c.make) = true) (d2:(c.kinds == (if c.domain.isEmpty then [] else fn.params.toList.map fun t=>match P.underlying t with | some (.int k)=>some k | _=>none)) = true) (d3:(c.pinned == c.pinnedBy) = true)
  (d4:(c.veiled == (fn.params.toList++s.plain.varTypes P++fn.resultTypes.toList).any (P.veiledRec ·)) = true) (d5:c.veiledFits P fn.params.toList (fn.params.toList++s.plain.varTypes P++fn.resultTypes.toList) = true):joinedFacts P f fn s c = true:=by
 unfold joinedFacts
 simp only [Bool.and_eq_true]
 exact ⟨⟨⟨⟨⟨⟨⟨⟨⟨⟨⟨⟨⟨⟨⟨⟨⟨⟨⟨⟨⟨⟨⟨⟨⟨⟨⟨⟨⟨⟨⟨a1,a2⟩,a3⟩,a4⟩,a5⟩,a6⟩,a7⟩,a8⟩,a9⟩,b1⟩,b2⟩,b3⟩,b4⟩,b5⟩,b6⟩,b7⟩,b8⟩,b9⟩,c1⟩,c2⟩,c3⟩,c4⟩,c5⟩,c6⟩,c7⟩,c8⟩,c9⟩,d1⟩,d2⟩,d3⟩,d4⟩,d5⟩
theorem wQ:∀ (a r:List Char),a.all (fun c=>c != Char.ofNat 32) = true→wordsSigns (a++Char.ofNat 32 :: r) = a :: wordsSigns r
 | [],r,_=>rfl
 | c :: a,r,h=>by
  simp only [List.all_cons,Bool.and_eq_true,bne_iff_ne,ne_eq] at h
  have ih:=wQ a r h.2
  rw [List.cons_append,wordsSigns.eq_3,ih]
  exact h.1
def ku:List Char:=List.map Char.ofNat [99,117,116]
section
variable {P:Program} {r:List (List Char)}
theorem C2 (r:List (List Char)):stripLifts liftWords (ku :: r) = ([],ku :: r):=by kernel_rfl
theorem L3 (h:behindMainWord (wordsSigns P.initOrder.toList) = ku :: r):P.make = some .cut:=by
 unfold Program.make
 rw [h]
 have a:(ku == "gc".toList) = false:=by kernel_rfl
 have b:(ku == "spec".toList) = false:=by kernel_rfl
 have c:(ku == "cut".toList) = true:=by kernel_rfl
 simp only [a,b,c,Bool.or_self,Bool.false_eq_true,if_false,Bool.true_or,if_true]
theorem Ly (h:behindMainWord (wordsSigns P.initOrder.toList) = ku :: r):P.liftsFinal = false:=by
 unfold Program.liftsFinal Program.headLifts
 rw [h,C2]
 have a:(some ku == some "carried".toList) = false:=by kernel_rfl
 have c:(some ku == some "cut".toList) = true:=by kernel_rfl
 simp only [List.head?_cons,a,c,Bool.false_and,Bool.false_or,if_true]
 rfl
theorem Kr (h:behindMainWord (wordsSigns P.initOrder.toList) = ku :: r) (h1:P.laysLater = false) (h2:P.bearsReflect = false) (h3:P.doorFits [] = true):P.mayEnter = true:=by
 unfold Program.mayEnter
 rw [h]
 have a:(ku == "gc".toList) = false:=by kernel_rfl
 have b:(ku == "spec".toList) = false:=by kernel_rfl
 have d:(ku == "carried".toList) = false:=by kernel_rfl
 have c:(some ku == some "cut".toList) = true:=by kernel_rfl
 simp only [C2,a,b,c,d,h1,h2,h3,List.head?_cons,Bool.or_self,Bool.false_and,Bool.false_or,Bool.true_and,Bool.not_false,Bool.or_true,Bool.and_true]
 rfl
end
end Go.Ax
