import Derived.Test.YtbjfcadcipfolaaGreatZB2
import Derived.WideKeyRuns
set_option linter.all false
/- Maps: looking up, storing. -/
namespace Go.Ax
open Go.RowKit Go.MapKept
theorem F0 {P:Program} {w:World} {kk:TypeId} {fs:Array Field} (hu:P.underlying kk = some (.struct fs)) (x:Value) (es:List MapEntry):(Instr.findKey kk x es).run P w = (Instr.findAsking kk x es).run P w:=run_findKey_eq w (by rw [hu]) x es
theorem v7:∀ {cs:List V} {ds:List D},cs.mapM V.toD = some ds→cs = ds.map .c
 | [],ds,h=>by simp at h;subst h;rfl
 | v :: cs,ds,h=>by
  rw [List.mapM_cons] at h
  simp only [Option.bind_eq_bind,Option.pure_def,Option.bind_eq_some_iff,Option.some.injEq] at h
  obtain ⟨d,hd,ds',hds,rfl⟩:=h
  rw [List.map_cons,v7 hds]
  congr 1
  unfold V.toD at hd
  split at hd <;> simp_all
section
variable {P:Program} {ρ:Operand→Value} {E:ar} {w w':World} {o:Oper} {r:aB} {H:ab} {nid:Nat}
theorem Ae {v:Value} {d:D} (h:af E w v (.c d)):aG E.ok w v d:=by cases h;assumption
theorem kN.rep {v:Value}:∀ {t:Ty} {x:t.T},kN E.ok w v t x→af E w v (encV t x)
 | .st k,x,h=>by
  obtain ⟨cs,rfl,h2,h3⟩:=h
  refine .agg cs _ (by rw [List.length_map];exact h2) fun i u d hu hd=>?_
  rw [List.getElem?_map] at hd
  cases hx:(Ty.enc (.st k) x)[i]? with
  | none=>rw [hx] at hd;cases hd
  | some y=>rw [hx] at hd;cases hd;exact .c _ _ (h3 i u y hu hx)
 | .arr n t,x,h=>by
  obtain ⟨cs,rfl,h2,h3⟩:=h
  refine .agg cs _ (by rw [List.length_map];exact h2) fun i u d hu hd=>?_
  rw [List.getElem?_map] at hd
  cases hx:(Ty.enc (.arr n t) x)[i]? with
  | none=>rw [hx] at hd;cases hd
  | some y=>rw [hx] at hd;cases hd;exact .c _ _ (h3 i u y hu hx)
 | .i _,_,h=>.c _ _ h
 | .b,_,h=>.c _ _ h
 | .s,_,h=>.c _ _ h
 | .ls _,_,h=>.c _ _ h
theorem Hb {v:Value} {cs:List V} {ds es:List D} (h:af E w v (.agg cs)) (hc:cs = ds.map .c) (hl:dF ds es):∃ us:List Value,v = .agg us.toArray∧us.length = es.length∧∀ (j:Nat) (u:Value) (d:D),us[j]? = some u→es[j]? = some d→aG E.ok w u d:=by
 subst hc
 cases h with
 | agg us _ h1 h2 =>
  refine ⟨us,rfl,by rw [h1,List.length_map];exact hl.1,fun j u d hu hd=>?_⟩
  obtain ⟨d0,hd0,hle⟩:=hl.at hd
  exact (Ae (h2 j u _ hu (by rw [List.getElem?_map,hd0];rfl))).le hle
theorem Bi {v:Value} {d:V} (h:af E w v d):∀ {t:Ty} {x:t.T},xE t d = some x→kN E.ok w v t x:=by
 intro t x hr
 unfold xE at hr
 split at hr
 ·next k cs =>
  split at hr
  ·next ds hds=>exact Hb h (v7 hds) (kA _ _ _ hr)
  ·cases hr
 ·next n t cs =>
  split at hr
  ·next ds hds=>exact Hb h (v7 hds) (kA _ _ _ hr)
  ·cases hr
 ·exact (Ae h).le (fZ hr)
 ·exact (Ae h).le (fZ hr)
 ·exact (Ae h).le (fZ hr)
 ·exact (Ae h).le (fZ hr)
 ·cases hr
theorem Hi {k:TypeId} {q:IntKind} (h:jc P k (.i q) = true):P.underlying k = some (.int q):=by
 unfold jc at h
 simp only at h
 split at h
 ·next q' hq=>rw [decide_eq_true_eq] at h;subst h;exact hq
 ·cases h
theorem uc {k:TypeId} {s:SK} (h:jc P k (.st s) = true):∃ fs f g,P.underlying k = some (.struct fs)∧fs.toList = [f,g]∧lR P f 0 = true∧lR P g 1 = true∧P.stoodInHeld k = false∧tq s = true:=by
 unfold jc at h
 simp only at h
 split at h
 ·next fs hu =>
  split at h
  ·next f g hfs =>
   simp only [Bool.and_eq_true,Bool.not_eq_true'] at h
   exact ⟨fs,f,g,hu,hfs,h.1,h.2.1,h.2.2.1,h.2.2.2⟩
  ·cases h
 ·cases h
theorem m7 {k:TypeId} {kt:Ty} (h:jc P k kt = true):(∃ q,kt = .i q)∨∃ s,kt = .st s:=by
 match kt,h with
 | .i q,_=>exact .inl ⟨q,rfl⟩
 | .st s,_=>exact .inr ⟨s,rfl⟩
def kp (s:SK) (x:(Ty.st s).T):Int × Int:=match Ty.enc (.st s) x with | [.lit (.int _ a), .lit (.int _ b)]=>(a,b) | _=>(0,0)
theorem sV {s:SK} (h:tq s = true) (x:(Ty.st s).T):Ty.enc (.st s) x = [.lit (.int .i64 (kp s x).1), .lit (.int .i64 (kp s x).2)]:=by
 have hl:lf s = [.i .i64, .i .i64]:=by
  unfold tq at h
  split at h
  ·next e=>exact e
  ·cases h
 have key:∀ (ts:List Ty) (p:HP ts),ts = [.i .i64, .i .i64]→∃ a b:Int,eX ts p = [.lit (.int .i64 a), .lit (.int .i64 b)]:=by
  rintro _ p rfl
  exact ⟨p.1,p.2,rfl⟩
 obtain ⟨a,b,e⟩:=key _ (Cp s x) hl
 have e:Ty.enc (.st s) x = [.lit (.int .i64 a), .lit (.int .i64 b)]:=e
 unfold kp
 rw [e]
theorem fT {s:SK} (h:tq s = true) (x:(Ty.st s).T):d6 (.st s) x = .agg #[.int .i64 (kp s x).1, .int .i64 (kp s x).2]:=by
 show Value.agg ((Ty.enc (.st s) x).map s9).toArray = _
 rw [sV h]
 rfl
theorem zV {s:SK} (h:tq s = true) (x y:(Ty.st s).T):qK (.st s) x y = (ak (kp s x).1 (kp s y).1&&ak (kp s x).2 (kp s y).2):=by
 show Lc (Ty.enc (.st s) x) (Ty.enc (.st s) y) = _
 rw [sV h,sV h]
 show (_&&(_&&true)) = _
 rw [Bool.and_true]
theorem EC (a b:Int):ak a b = ak b a:=by
 show (a == b) = (b == a)
 rw [Bool.eq_iff_iff,beq_iff_eq,beq_iff_eq]
 exact ⟨Eq.symm,Eq.symm⟩
theorem re {P:Program} {f:Field} {off:Nat} (h:lR P f off = true):f.name ≠ "_" ∧ f.offset = off∧P.underlying f.type = some (.int .i64)∧dJ P f.type = true∧ee P f.type = false∧sz P f.type = 1:=by
 unfold lR at h
 simp only [Bool.and_eq_true,Nat.beq_eq] at h
 obtain ⟨h1,h2,h3⟩:=h
 split at h3
 ·next hu =>
  simp only [Bool.and_eq_true,Nat.beq_eq] at h3
  exact ⟨by simpa using h1,h2,hu,h3.1,by simpa using h3.2.1,h3.2.2⟩
 ·cases h3
theorem Gq {P:Program} {w:World} {kk:TypeId} {fs:Array Field} {f g:Field} (hu:P.underlying kk = some (.struct fs)) (hfs:fs.toList = [f,g]) (hf:lR P f 0 = true) (hg:lR P g 1 = true) (e:Bool) (a b:Int) (n:Nat) :
  (Instr.checkKey e (n+1+1) kk (.agg #[.int .i64 a, .int .i64 b])).run P w = .ok () w:=by
 obtain ⟨f1,f2,f3,f4,f5,f6⟩:=re hf
 obtain ⟨g1,g2,g3,g4,g5,g6⟩:=re hg
 have e1:fs = #[f,g]:=by rw [← Array.toArray_toList (xs:=fs),hfs]
 subst e1
 have pf:(part f.type #[.int .i64 a, .int .i64 b] f.offset).run P w = .ok (.int .i64 a) w:=by
  unfold part
  simp [qN f4,f5,f2,Result.andThen_ok]
 have pg:(part g.type #[.int .i64 a, .int .i64 b] g.offset).run P w = .ok (.int .i64 b) w:=by
  unfold part
  simp [qN g4,g5,g2,Result.andThen_ok]
 have cf:(Instr.checkKey e (n+1) f.type (.int .i64 a)).run P w = .ok () w:=by
  unfold Instr.checkKey
  simp [run_underlying f3]
 have cg:(Instr.checkKey e (n+1) g.type (.int .i64 b)).run P w = .ok () w:=by
  unfold Instr.checkKey
  simp [run_underlying g3]
 unfold Instr.checkKey
 simp [run_underlying hu,f1,g1,pf,pg,cf,cg,Result.andThen_ok]
theorem H2 {P:Program} {w:World} {kk:TypeId} {fs:Array Field} {f g:Field} (hu:P.underlying kk = some (.struct fs)) (hfs:fs.toList = [f,g]) (hf:lR P f 0 = true) (hg:lR P g 1 = true) (e:Bool) (a b:Int) :
  (Instr.checkKey e 10000 kk (.agg #[.int .i64 a, .int .i64 b])).run P w = .ok () w:=Gq hu hfs hf hg e a b 9998
theorem IH {P:Program} {w:World} {kk:TypeId} {fs:Array Field} {f g:Field} (hu:P.underlying kk = some (.struct fs)) (hs:P.stoodInHeld kk = false) (hfs:fs.toList = [f,g]) (hf:lR P f 0 = true) (hg:lR P g 1 = true) (a b c d:Int) :
  (Op.equal kk (.agg #[.int .i64 a, .int .i64 b]) (.agg #[.int .i64 c, .int .i64 d])).run P w = .ok (ak a c&&ak b d) w:=by
 obtain ⟨f1,f2,f3,f4,f5,f6⟩:=re hf
 obtain ⟨g1,g2,g3,g4,g5,g6⟩:=re hg
 have e1:fs = #[f,g]:=by rw [← Array.toArray_toList (xs:=fs),hfs]
 subst e1
 have hv:zM P 2 kk (.agg [i64 a,i64 b]) (.agg [i64 c,i64 d]) = some (ak a c&&(ak b d&&true)):=by
  have fb:(f.name == "_") = false:=by simpa using f1
  have gb:(g.name == "_") = false:=by simpa using g1
  simp only [zM,hu,hs,fb,gb,f2,g2,f6,g6,f4,g4,f3,g3,j7,f5,g5,List.foldr,cond_false]
  rfl
 have r:∀ x y:Int,af (⟨fun _=>none,fun _=>0,fun _=>0,fun _=>False,fun _=>False⟩:ar) w (.agg #[.int .i64 x, .int .i64 y]) (.agg [i64 x,i64 y]):=fun x y=>by
  refine .agg [.int .i64 x, .int .i64 y] _ rfl fun i v d hv hd=>?_
  match i,hv,hd with
  | 0,hv,hd=>cases hv;cases hd;exact .c _ _ (.lit _)
  | 1,hv,hd=>cases hv;cases hd;exact .c _ _ (.lit _)
 have:=AL (P:=P) (w:=w) 2 (Op.maxDepth - 2) kk _ _ _ _ _ hv (r a b) (r c d)
 rw [Bool.and_true] at this
 exact this
theorem Cg {P:Program} {w:World} {kk:TypeId} {fs:Array Field} {f g:Field} (hu:P.underlying kk = some (.struct fs)) (hs:P.stoodInHeld kk = false) (hfs:fs.toList = [f,g]) (hf:lR P f 0 = true) (hg:lR P g 1 = true) (a b:Int) :
  ∀ (es:List MapEntry) (kv:List (Int × Int)),es.map (·.key) = kv.map (fun k=>(.agg #[.int .i64 k.1, .int .i64 k.2]:Value))→∀ i,(Instr.findAsking kk (.agg #[.int .i64 a, .int .i64 b]) es i).run P w = .ok ((kv.findIdx? fun k=>ak a k.1&&ak b k.2).bind fun j=>(es[j]?).map fun e=>(i+j,e.val)) w
 | [],[],_,i=>by simp [Instr.findAsking]
 | [],_ :: _,h,i=>by simp at h
 | _ :: _,[],h,i=>by simp at h
 | e :: es,k :: kv,h,i=>by
  simp only [List.map_cons,List.cons.injEq] at h
  unfold Instr.findAsking
  simp only [Sem.run_bind,h.1,IH hu hs hfs hf hg,Result.andThen_ok]
  cases hb:(ak a k.1&&ak b k.2) with
  | true=>simp [List.findIdx?_cons,hb]
  | false =>
   simp only [Bool.false_eq_true,if_false]
   rw [Cg hu hs hfs hf hg a b es kv h.2 (i+1),List.findIdx?_cons,hb]
   cases kv.findIdx? fun k=>ak a k.1&&ak b k.2 with
   | none=>simp
   | some j=>simp;cases es[j]? <;> simp;omega
theorem Nz (a b:Int) (n:Nat):Instr.sameBits (n+1) (.agg #[.int .i64 a, .int .i64 b]) (.agg #[.int .i64 a, .int .i64 b]) = true:=by
 unfold Instr.sameBits
 cases n <;> simp [Instr.sameBits]
theorem HC {P:Program} {w:World} (a b:Int):(Instr.keyThatStays (.agg #[.int .i64 a, .int .i64 b]) (.agg #[.int .i64 a, .int .i64 b])).run P w = .ok (.agg #[.int .i64 a, .int .i64 b]) w:=by
 have:=Nz a b 9999
 unfold Instr.keyThatStays
 rw [if_pos this]
 rfl
theorem lB {kk:TypeId} {kt:Ty} (h:jc P kk kt = true) (e:Bool) (x:kt.T):(Instr.checkKey e 10000 kk (d6 kt x)).run P w = .ok () w:=by
 rcases m7 h with ⟨q,rfl⟩ | ⟨s,rfl⟩
 ·exact run_checkKey (Hi h) (show IsKey (.int q) (.int q x) from rfl) e 9999
 ·obtain ⟨fs,f,g,hu,hfs,hf,hg,hs,hp⟩:=uc h
  rw [fT hp]
  exact H2 hu hfs hf hg e _ _
theorem Jl {kk:TypeId} {kt:Ty} (h:jc P kk kt = true) (x:kt.T):(Instr.keyThatStays (d6 kt x) (d6 kt x)).run P w = .ok (d6 kt x) w:=by
 rcases m7 h with ⟨q,rfl⟩ | ⟨s,rfl⟩
 ·exact run_keyThatStays (show IsKey (.int q) (.int q x) from rfl)
 ·obtain ⟨fs,f,g,hu,hfs,hf,hg,hs,hp⟩:=uc h
  rw [fT hp]
  exact HC _ _
theorem tL {q:IntKind}:∀ (ks:List Int) (k:Int),(be (.i q) ks k = ks.length∧k ∉ ks)∨(be (.i q) ks k < ks.length∧ks[be (.i q) ks k]? = some k)
 | [],k=>.inl ⟨rfl,by simp⟩
 | x :: r,k=>by
  unfold be
  have e:qK (.i q) x k = decide (x = k):=rfl
  rw [e]
  by_cases h:x = k
  ·subst h;right;simp
  ·rw [decide_eq_false h,cond_false]
   rcases tL (q:=q) r k with ⟨h1,h2⟩ | ⟨h1,h2⟩
   ·left;exact ⟨by rw [h1];rfl,by simp [h2,Ne.symm h]⟩
   ·right;exact ⟨by simpa using h1,by simpa using h2⟩
theorem I8 {q:IntKind} {vt:Ty} {ks:List Int} {vs:List vt.T} {b:Nat} {es:Array MapEntry} {clock:Nat} {kk:TypeId} (hq:P.underlying kk = some (.int q)) (hst:Stamped es clock) (hsz:es.size = ks.length)
  (hes:∀ i e,es[i]? = some e→e.key = d6 (.i q) (gD ks i (0:Int))∧kN E.ok w e.val vt (gD vs i vt.z)) (k:Int) :
  (∀ x∈es.toList,IsKey (.int q) x.key)∧(((Instr.findKey kk (.int q k) es.toList).run P w = .ok none w∧(∀ x∈es.toList,x.key≠.int q k)∧be (.i q) ks k = ks.length∧k ∉ ks) ∨
   ∃ e:MapEntry,(Instr.findKey kk (.int q k) es.toList).run P w = .ok (some (be (.i q) ks k,e.val)) w∧es[be (.i q) ks k]? = some e∧e.key = .int q k∧be (.i q) ks k < ks.length):=by
 have hkey:∀ (i:Nat) (e:MapEntry),es[i]? = some e→∃ x,ks[i]? = some x∧e.key = .int q x:=by
  intro i e he
  have hi:i < ks.length:=by rw [← hsz];exact (Array.getElem?_eq_some_iff.1 he).1
  refine ⟨ks[i],List.getElem?_eq_getElem hi, ?_⟩
  rw [(hes i e he).1]
  show s9 (((Ty.enc (.i q) (gD ks i 0))).headD .unk) = _
  rw [gD,List.getD_eq_getElem?_getD,List.getElem?_eq_getElem hi]
  rfl
 have hks:∀ x∈es.toList,IsKey (.int q) x.key:=by
  intro x hx
  obtain ⟨i,hi⟩:=List.getElem?_of_mem hx
  obtain ⟨y,_,h⟩:=hkey i x (by simpa using hi)
  rw [h];rfl
 refine ⟨hks, ?_⟩
 have nokey:k ∉ ks→∀ x∈es.toList,x.key≠.int q k:=by
  intro hn x hx e
  obtain ⟨i,hi⟩:=List.getElem?_of_mem hx
  obtain ⟨y,h1,h2⟩:=hkey i x (by simpa using hi)
  rw [h2] at e
  have:y = k:=by simpa using e
  subst this
  exact hn (List.mem_of_getElem? h1)
 rcases findNow_spec (d:=.int q) (k:=.int q k) rfl es.toList 0 hks with ⟨h1,h2⟩ | ⟨j,e,h1,h2,h3⟩
 ·left
  refine ⟨run_findKey hq h1,h2, ?_⟩
  rcases tL (q:=q) ks k with h | ⟨h4,h5⟩
  ·exact h
  ·exfalso
   have hj:be (.i q) ks k < es.size:=by rw [hsz];exact h4
   obtain ⟨y,g1,g2⟩:=hkey _ _ (Array.getElem?_eq_getElem hj)
   rw [h5] at g1;cases g1
   exact h2 _ (by simp) g2
 ·right
  have hj:es[j]? = some e:=by simpa using h2
  obtain ⟨y,g1,g2⟩:=hkey j e hj
  have:y = k:=by rw [g2] at h3;simpa using h3
  subst this
  have hmem:y∈ks:=List.mem_of_getElem? g1
  rcases tL (q:=q) ks y with ⟨_,h⟩ | ⟨h4,h5⟩
  ·exact (h hmem).elim
  ·have e1:be (.i q) ks y = j:=by
    have hm:be (.i q) ks y < es.size:=by rw [hsz];exact h4
    obtain ⟨y',g3,g4⟩:=hkey _ _ (Array.getElem?_eq_getElem hm)
    rw [h5] at g3;cases g3
    have hp:=((stamped_iff es clock).1 hst).2.2
    rw [List.pairwise_iff_getElem] at hp
    have hjlt:=(Array.getElem?_eq_some_iff.1 hj).1
    have ej:es[j] = e:=(Array.getElem?_eq_some_iff.1 hj).2
    refine Classical.byContradiction fun hne=>?_
    rcases Nat.lt_or_gt_of_ne hne with hlt | hlt
    ·exact hp _ _ (by simpa using hm) (by simpa using hjlt) hlt (by simp [g4,ej,g2])
    ·exact hp _ _ (by simpa using hjlt) (by simpa using hm) hlt (by simp [g4,ej,g2])
   rw [e1]
   have:=run_findKey (w:=w) hq h1
   rw [Nat.zero_add] at this
   exact ⟨e,this,hj,g2,(e1 ▸ h4)⟩
theorem Kn {kt vt:Ty} {ks:List kt.T} {vs:List vt.T} {es:Array MapEntry} (hsz:es.size = ks.length) (hes:∀ i e,es[i]? = some e→e.key = d6 kt (gD ks i kt.z)∧kN E.ok w e.val vt (gD vs i vt.z)):es.toList.map (·.key) = ks.map (d6 kt):=by
 apply List.ext_getElem?
 intro i
 rw [List.getElem?_map,List.getElem?_map]
 cases he:es.toList[i]? with
 | none =>
  have:es.size≤i:=by rw [← Array.length_toList];exact List.getElem?_eq_none_iff.1 he
  rw [List.getElem?_eq_none (by omega)];rfl
 | some x =>
  have hx:es[i]? = some x:=by rw [← Array.getElem?_toList];exact he
  have hi:i < ks.length:=by rw [← hsz];exact (Array.getElem?_eq_some_iff.1 hx).1
  rw [Option.map_some,(hes i x hx).1,List.getElem?_eq_getElem hi,gD,List.getD_eq_getElem?_getD,List.getElem?_eq_getElem hi]
  rfl
theorem CS {kt:Ty} (p:kt.T→Bool) (x:kt.T) (hp:∀ y,qK kt y x = p y):∀ ks:List kt.T,(ks.findIdx? p = none∧be kt ks x = ks.length∧∀ y∈ks,p y = false)∨(ks.findIdx? p = some (be kt ks x)∧be kt ks x < ks.length∧∃ y,ks[be kt ks x]? = some y∧p y = true)
 | []=>.inl ⟨rfl,rfl,by simp⟩
 | y :: r=>by
  unfold be
  rw [hp y,List.findIdx?_cons]
  cases hy:p y with
  | true=>exact .inr ⟨rfl,by simp,y,rfl,hy⟩
  | false =>
   rcases CS p x hp r with ⟨h1,h2,h3⟩ | ⟨h1,h2,z,h3,h4⟩
   ·exact .inl ⟨by simp [h1],by simp [h2],by intro z hz;rcases List.mem_cons.1 hz with rfl | hz;exact hy;exact h3 z hz⟩
   ·exact .inr ⟨by simp [h1],by simp;exact h2,z,by simpa using h3,h4⟩
theorem M6 {s:SK} (h:tq s = true) {x y:(Ty.st s).T} (e:d6 (.st s) x = d6 (.st s) y):(kp s x).1 = (kp s y).1∧(kp s x).2 = (kp s y).2:=by
 rw [fT h,fT h] at e
 simpa using e
theorem yP {kt vt:Ty} {ks:List kt.T} {vs:List vt.T} {b:Nat} {es:Array MapEntry} {clock:Nat} {kk:TypeId} (hk:jc P kk kt = true) (hst:Stamped es clock) (hsz:es.size = ks.length)
  (hes:∀ i e,es[i]? = some e→e.key = d6 kt (gD ks i kt.z)∧kN E.ok w e.val vt (gD vs i vt.z)) (x:kt.T) :
  ((Instr.findKey kk (d6 kt x) es.toList).run P w = .ok none w∧(∀ y∈es.toList,y.key≠d6 kt x)∧be kt ks x = ks.length) ∨
   ∃ e:MapEntry,(Instr.findKey kk (d6 kt x) es.toList).run P w = .ok (some (be kt ks x,e.val)) w∧es[be kt ks x]? = some e∧e.key = d6 kt x∧be kt ks x < ks.length:=by
 rcases m7 hk with ⟨q,rfl⟩ | ⟨s,rfl⟩
 ·rcases (I8 (E:=E) (w:=w) (P:=P) (vs:=vs) (b:=b) (Hi hk) hst hsz hes x).2 with ⟨g1,g2,g3,_⟩ | h
  ·exact .inl ⟨g1,g2,g3⟩
  ·exact .inr h
 ·obtain ⟨fs,f,g,hu,hfs,hf,hg,hs,hp⟩:=uc hk
  have hkeys:=Kn hsz hes
  have hkv:es.toList.map (·.key) = (ks.map (kp s)).map (fun k=>(.agg #[.int .i64 k.1, .int .i64 k.2]:Value)):=by
   rw [hkeys,List.map_map]
   exact List.map_congr_left fun y _=>fT hp y
  have hr:(Instr.findKey kk (d6 (.st s) x) es.toList).run P w = .ok (((ks.map (kp s)).findIdx? fun k=>ak (kp s x).1 k.1&&ak (kp s x).2 k.2).bind fun j=>(es.toList[j]?).map fun e=>(j,e.val)) w:=by
   rw [F0 hu,fT hp,Cg (w:=w) hu hs hfs hf hg _ _ _ _ hkv 0]
   congr 1
   cases (ks.map (kp s)).findIdx? fun k=>ak (kp s x).1 k.1&&ak (kp s x).2 k.2 with
   | none=>rfl
   | some j=>simp
  have hidx:((ks.map (kp s)).findIdx? fun k=>ak (kp s x).1 k.1&&ak (kp s x).2 k.2) = ks.findIdx? fun y=>ak (kp s x).1 (kp s y).1&&ak (kp s x).2 (kp s y).2:=by
   rw [List.findIdx?_map];rfl
  rw [hidx] at hr
  rcases CS (kt:=.st s) (fun y=>ak (kp s x).1 (kp s y).1&&ak (kp s x).2 (kp s y).2) x (fun y=>by rw [zV hp,EC,EC (kp s y).2]) ks with ⟨h1,h2,h3⟩ | ⟨h1,h2,y,h3,h4⟩
  ·rw [h1] at hr
   refine .inl ⟨hr,fun z hz e=>?_,h2⟩
   have hz':z.key∈ks.map (d6 (.st s)):=by rw [← hkeys];exact List.mem_map_of_mem hz
   obtain ⟨y,hy,e2⟩:=List.mem_map.1 hz'
   obtain ⟨a1,a2⟩:=M6 hp (e2.trans e)
   have:=h3 y hy
   simp only [ak,a1,a2,beq_self_eq_true,Bool.and_self] at this
   cases this
  ·rw [h1] at hr
   have hlt:be (.st s) ks x < es.size:=by rw [hsz];exact h2
   have he:es[be (.st s) ks x]? = some es[be (.st s) ks x]:=Array.getElem?_eq_getElem hlt
   refine .inr ⟨es[be (.st s) ks x], ?_,he, ?_,h2⟩
   ·rw [hr,Option.bind_some,Array.getElem?_toList,he];rfl
   ·rw [(hes _ _ he).1,gD,List.getD_eq_getElem?_getD,h3,Option.getD_some,fT hp,fT hp]
    simp only [ak,Bool.and_eq_true,beq_iff_eq] at h4
    rw [h4.1,h4.2]
theorem Gi {q:IntKind} {v:Value} {d:V} {k:Int} (h:af E w v d) (hk:Dz (.i q) d = some k):v = .int q k:=by
 match d,hk,h with
 | .c (.lit (.int q' n)),hk,h =>
  have hk:(if q = q' then some n else none) = some k:=hk
  split at hk
  ·next e=>cases hk;subst e;exact h.lit_inv
  ·cases hk
theorem ze {kk:TypeId} {kt:Ty} (hk:jc P kk kt = true) {v:Value} {d:V} {k:kt.T} (h:af E w v d) (hr:Dz kt d = some k):v = d6 kt k:=by
 rcases m7 hk with ⟨q,rfl⟩ | ⟨s,rfl⟩
 ·exact Gi h hr
 ·obtain ⟨fs,f,g,hu,hfs,hf,hg,hs,hp⟩:=uc hk
  obtain ⟨cs,rfl,h2,h3⟩:=Bi h (t:=.st s) (show xE (.st s) d = some k from hr)
  rw [sV hp] at h2 h3
  rw [fT hp]
  match cs,h2,h3 with
  | [u0,u1],_,h3 =>
   have e0:u0 = .int .i64 (kp s k).1:=by have:=h3 0 u0 _ rfl rfl;cases this;rfl
   have e1:u1 = .int .i64 (kp s k).2:=by have:=h3 1 u1 _ rfl rfl;cases this;rfl
   rw [e0,e1]
theorem DS (hH:aw E w H) {t:TypeId} {x y:Operand} {ok:Bool} (ho:o.op = .lookup t x y ok) {vm vk:V} (hm:af E w (ρ x) vm) (hk:af E w (ρ y) vk) (h:pm P H t vm vk ok = some r):gX P ρ o E w r:=by
 unfold pm at h
 split at h
 ·next kk e o' t' kt vt ks vs ht hmo =>
  split at h
  ·next key z0 hkey hz =>
   split at h
   ·next z hrz =>
    cases hty:jc P kk kt with
    | false=>rw [hty] at h;cases h
    | true =>
     rw [hty,cond_true] at h
     cases h
     obtain ⟨b,hv,hlive,hconc,hg⟩:=fX hH hm hmo
     obtain ⟨_,h1,h2,b',es,clock,h3,h4,h5,h6,h7,h8⟩:=hH.at_ _ _ hg
     rw [hconc] at h3;cases h3
     have hkv:=ze hty hk hkey
     obtain ⟨zv,hzr,hzrep⟩:=Bz (P:=P) (E:=E) (w:=w) hz
     have fin:∀ (u:Value) (bb:Bool),(Instr.lookup t (ρ x) (ρ y) ok).run P w = .ok (if ok then .tuple #[u, .bool bb] else u) w→kN E.ok w u vt (k5 kt ks vs key z)→bb = dS kt ks key →
       gX P ρ o E w { val:=bif ok then .tup [encV vt (k5 kt ks vs key z),bl (dS kt ks key)] else encV vt (k5 kt ks vs key z) }:=by
      intro u bb hr hu hbb
      refine ⟨rfl,rfl,if ok then .tuple #[u, .bool bb] else u, ?_, ?_⟩
      ·simp only [execOp,ho,Sem.run_bind,hr,Result.andThen];rfl
      ·cases ok with
       | false=>exact hu.rep
       | true =>
        simp only [if_true,cond_true]
        refine .tup [u, .bool bb] _ rfl fun i v d hv hd=>?_
        match i with
        | 0=>simp at hv hd;subst hv hd;exact hu.rep
        | 1=>simp at hv hd;subst hv hd;rw [hbb];exact .lit _
        | i+2=>simp at hv
     have hf:=yP (E:=E) (w:=w) (P:=P) (vs:=vs) (b:=b) hty h5 h6 h7 key
     rcases hf with ⟨g1,g2,g3⟩ | ⟨e0,g1,g2,g3,g4⟩
     ·refine fin zv false ?_ ?_ ?_
      ·rw [hv,hkv]
       cases ok <;> simp [Instr.lookup,run_underlying ht,MapKept.run_getObj_map h4,lB hty,g1,hzr,Result.andThen]
      ·have:k5 kt ks vs key z = z:=by
        unfold k5
        rw [List.getD_eq_getElem?_getD,List.getElem?_eq_none (by rw [g3, ← h2];exact Nat.le_refl _)];rfl
       rw [this];exact Bi hzrep hrz
      ·unfold dS
       rw [g3]
       cases hb:Nat.blt ks.length ks.length with
       | false=>rfl
       | true=>rw [Nat.blt_eq] at hb;omega
     ·refine fin e0.val true ?_ ?_ ?_
      ·rw [hv,hkv]
       cases ok <;> simp [Instr.lookup,run_underlying ht,MapKept.run_getObj_map h4,lB hty,g1,Result.andThen]
      ·have:=(h7 _ _ g2).2
       have e1:k5 kt ks vs key z = gD vs (be kt ks key) vt.z:=by
        unfold k5 gD
        rw [List.getD_eq_getElem?_getD,List.getD_eq_getElem?_getD,List.getElem?_eq_getElem (by rw [← h2];exact g4)];rfl
       rw [e1];exact this
      ·unfold dS
       rw [show Nat.blt (be kt ks key) ks.length = true from by rw [Nat.blt_eq];exact g4]
   ·cases h
  ·cases h
 ·cases h
def dv (w:World) (b:Nat) (x:Obj):World:={ w with heap:=w.heap.setIfInBounds b x }
theorem nE {w:World} {b:Nat} (x:Obj) (h:b < w.heap.size):(dv w b x).heap[b]? = some x:=by
 simp [dv,h]
theorem zY {w:World} {b b':Nat} (x:Obj) (h:b≠b'):(dv w b x).heap[b']? = w.heap[b']?:=by
 simp [dv,Array.getElem?_setIfInBounds,h]
theorem qg (hH:aw E w H) (hf:¬ E.live nid) {q b:Nat} (hq:E.live q) (hb:E.conc q = some b) (x:Obj) {ob:Ob} (he:r.eff = [(q,some ob)]) (hk:r.kill = [])
  (hob:∀ (E':ar),E'.conc q = some b→E'.cap q = E.cap q→E'.len q = E.len q→(∀ v d,af E w v d→af E' (dv w b x) v d)→(∀ v d,aG E.ok w v d→aG E'.ok (dv w b x) v d)→gJ E' (dv w b x) q ob)
  {v':Value} (hv:(∀ v d,af E w v d→af (E.next nid none 0 0 E.ok) (dv w b x) v d)→af (E.next nid none 0 0 E.ok) (dv w b x) v' r.val):bU E w H nid r (E.next nid none 0 0 E.ok) (dv w b x) v':=by
 have hS:cQ E w [] (E.next nid none 0 0 E.ok) (dv w b x):=by
  refine ⟨rfl,rfl,rfl,by simp [dv],fun _ h=>.inr h,fun b' hlt hno=>zY x (fun e=>hno q hq (by rw [hb,e])),fun _ h=>h,fun _ h=>.inl h,fun q hq _=>ed hf hq,fun q b' hq h'=>?_⟩
  rcases ef hq h' with ⟨_,h1,h2⟩ | ⟨_,h2⟩
  ·exact .inl ⟨_,h1,h2⟩
  ·cases h2
 have hr:∀ v d,af E w v d→af (E.next nid none 0 0 E.ok) (dv w b x) v d:=fun v d h=>fk hH hS h
 have hd:∀ v d,aG E.ok w v d→aG (E.next nid none 0 0 E.ok).ok (dv w b x) v d:=fun v d h=>lA hH hS h
 have hcase:∀ q b,(E.next nid none 0 0 E.ok).live q→(E.next nid none 0 0 E.ok).conc q = some b→E.live q∧E.conc q = some b:=by
  intro q b hq h
  rcases ef hq h with ⟨_,h1,h2⟩ | ⟨_,h2⟩
  ·exact ⟨h1,h2⟩
  ·cases h2
 refine ⟨by rw [hk];exact hS, ?_,hv hr,bA⟩
 rw [he,hk]
 refine ⟨fun q' y hq'=>?_,fun q' q2 b' h1 h2 h h'=>?_,fun q' b' h1 h=>?_,fun q' b' h1 h=>?_,fun b' h=>by simp [dv];exact hH.oklt b' h⟩
 ·rw [List.cons_append,List.nil_append,ab.get_cons] at hq'
  split at hq'
  ·next e =>
   subst e;cases hq'
   obtain ⟨c1,c2,c3⟩:=ed (c:=none) (cap:=0) (len:=0) (ok':=E.ok) hf hq
   exact ⟨.inr hq,hob _ (c1.trans hb) c2 c3 hr hd⟩
  ·next hne =>
   obtain ⟨h1,h2⟩:=hH.at_ q' y hq'
   refine ⟨.inr h1,lC h2 (ed hf h1) (fun b' hb'=>zY x fun e=>?_) hr hd⟩
   subst e
   exact hne (hH.inj _ _ _ hq h1 hb hb')
 ·obtain ⟨a1,a2⟩:=hcase q' b' h1 h
  obtain ⟨b1,b2⟩:=hcase q2 b' h2 h'
  exact hH.inj q' q2 b' a1 b1 a2 b2
 ·obtain ⟨a1,a2⟩:=hcase q' b' h1 h
  exact hH.sep q' b' a1 a2
 ·obtain ⟨a1,a2⟩:=hcase q' b' h1 h
  simp [dv];exact hH.lt q' b' a1 a2
theorem lX {α:Type} {l:List α} {i:Nat} {x z:α} (h:l[i]? = some x):gD l i z = x:=by rw [gD,List.getD_eq_getElem?_getD,h];rfl
theorem EU (hH:aw E w H) (hf:¬ E.live nid) {t:TypeId} (ho:o.op = .makeMap t none) (h:xR P nid t = some r):∃ E' w' v',(execOp ρ o).run P w = .ok (.value v') w'∧bU E w H nid r E' w' v':=by
 unfold xR at h
 split at h
 ·next k e ht =>
  split at h
  ·next kt vt hk hv =>
   cases h
   have hb:Below w.heap.size w (w.alloc (.map #[] 0)):=(Below.refl _ _).alloc (Nat.le_refl _) _
   have hcc:∀ b,some w.heap.size = some b→w.heap.size≤b∧b < (w.alloc (.map #[] 0)).heap.size∧¬ E.ok b:=by
    intro b e;cases e
    exact ⟨Nat.le_refl _,by simp,fun h=>by have:=hH.oklt _ h;omega⟩
   have hS:cQ E w [] (E.next nid (some w.heap.size) 0 1 E.ok) (w.alloc (.map #[] 0)):=ck hf _ 0 1 E.ok hb (fun b h=>(hcc b h).1) (fun _ h=>h) (fun _ h=>.inl h)
   have hN:=cB (cap:=0) (len:=1) hf hH hb hcc (fun _ h=>h) (fun _ h=>.inl h) (fun b h=>by have:=hH.oklt b h;simp;omega)
   have e1:(E.next nid (some w.heap.size) 0 1 E.ok).conc nid = some w.heap.size:=by simp [ar.next]
   have e3:(E.next nid (some w.heap.size) 0 1 E.ok).len nid = 1:=by simp [ar.next]
   refine ⟨_,w.alloc (.map #[] 0), .map (some w.heap.size), ?_,hS,ic hN (.inl rfl) ⟨e3,rfl,_, #[],0,e1,heap_alloc_new w _,stamped_empty 0,rfl,(fun i e he=>by simp at he),rfl,fun i e he=>by simp at he⟩, ?_,bA⟩
   ·simp [execOp,ho,Instr.makeMap,Result.andThen]
   ·have:=af.fn (E:=E.next nid (some w.heap.size) 0 1 E.ok) (w:=w.alloc (.map #[] 0)) 2000000000 [.pointer (some ⟨w.heap.size,0*1+0,none⟩)] [.ptr nid 1 0 0] rfl fun i v d hv hd=>by
     match i with
     | 0=>simp at hv hd;subst hv hd;exact .ptr nid 1 0 0 _ (.inl rfl) e1 (by rw [e3];omega)
     | i+1=>simp at hv
    exact this
  ·cases h
 ·cases h
theorem AK {α:Type} {l:List α} {i:Nat} {x z:α} (h:i < l.length):(l.set i x).getD i z = x:=by simp [List.getD_eq_getElem?_getD,h]
theorem F2 {α:Type} {l:List α} {i j:Nat} {x z:α} (h:i≠j):(l.set i x).getD j z = l.getD j z:=by simp [List.getD_eq_getElem?_getD,List.getElem?_set,h]
theorem ID (hH:aw E w H) (hf:¬ E.live nid) {t:TypeId} {x y z:Operand} (ho:o.op = .mapUpdate t x y z) {vs:List V} (hv:aI E w [ρ x,ρ y,ρ z] vs) (h:tv P t H vs = some r) :
  ∃ E' w',(execOp ρ o).run P w = .ok .skip w'∧bU E w H nid r E' w' undef:=by
 unfold tv at h
 split at h
 ·next vm vk vv =>
  split at h
  ·next kk e o' t' kt vt ks vs ht hmo =>
   split at h
   ·next key xv hkey hxv =>
    cases hty:jc P kk kt with
    | false=>rw [hty] at h;cases h
    | true =>
     rw [hty,cond_true] at h
     cases h
     obtain ⟨b,hmv,hlive,hconc,hg⟩:=fX hH (hv.2 0 _ _ rfl rfl) hmo
     obtain ⟨_,h1,h2,b',es,clock,h3,h4,h5,h6,h7,h8⟩:=hH.at_ _ _ hg
     rw [hconc] at h3;cases h3
     have hkv:=ze hty (hv.2 1 _ _ rfl rfl) hkey
     have hval:=Bi (hv.2 2 _ _ rfl rfl) hxv
     have hfd:=yP (E:=E) (w:=w) (P:=P) (vs:=vs) (b:=b) hty h5 h6 h7 key
     have hlt:b < w.heap.size:=dP h4
     rcases hfd with ⟨g1,g2,g3⟩ | ⟨e0,g1,g2,g3,g4⟩
     ·have hno:dS kt ks key = false:=by
       unfold dS
       rw [g3]
       cases hb:Nat.blt ks.length ks.length with
       | false=>rfl
       | true=>rw [Nat.blt_eq] at hb;omega
      refine ⟨_,dv w b (.map (es.push { key:=d6 kt key,val:=ρ z,born:=clock }) (clock+1)), ?_,qg hH hf hlive hconc _ rfl rfl (fun E' c1 c2 c3 hr hd=>?_) fun _=>.unk _⟩
      ·simp only [execOp,ho,Sem.run_bind,hmv,hkv]
       simp [Instr.mapUpdate,run_underlying ht,MapKept.run_getObj_map h4,lB hty,g1,MapKept.run_setObj_map _ h4,Result.andThen,dv]
      ·refine ⟨c3.trans h1, ?_,b,_,_,c1,nE _ hlt,stamped_push h5 g2, ?_,fun i e he=>?_,by simp [h8.1],fun i e he=>?_⟩
       ·simp only [fY,ji,hno,cond_false];simp [h2]
       ·simp only [fY,hno,cond_false];simp [h6]
       ·simp only [fY,ji,hno,cond_false]
        rw [Array.getElem?_push] at he
        split at he
        ·next hi =>
         cases he
         subst hi
         refine ⟨?_, ?_⟩
         ·rw [gD,List.getD_eq_getElem?_getD,List.getElem?_append_right (by rw [h6];exact Nat.le_refl _),h6];simp
         ·have:gD (vs++[xv]) es.size vt.z = xv:=by rw [gD,List.getD_eq_getElem?_getD,List.getElem?_append_right (by rw [h6,h2];exact Nat.le_refl _),h6,h2];simp
          rw [this];exact hval.mp hd
        ·next hi =>
         have hi':=(Array.getElem?_eq_some_iff.1 he).1
         obtain ⟨k1,k2⟩:=h7 i e he
         refine ⟨?_, ?_⟩
         ·rw [gD,List.getD_eq_getElem?_getD,List.getElem?_append_left (by rw [← h6];exact hi'), ← List.getD_eq_getElem?_getD];exact k1
         ·have:gD (vs++[xv]) i vt.z = gD vs i vt.z:=by rw [gD,gD,List.getD_eq_getElem?_getD,List.getD_eq_getElem?_getD,List.getElem?_append_left (by rw [← h2, ← h6];exact hi')]
          rw [this];exact k2.mp hd
       ·rw [Array.getElem?_push] at he
        split at he
        ·next hi=>cases he;exact h8.1.trans hi.symm
        ·exact h8.2 i e he
     ·have hyes:dS kt ks key = true:=by
       unfold dS
       rw [Nat.blt_eq];exact g4
      refine ⟨_,dv w b (.map (es.modify (be kt ks key) fun e=>{ e with key:=d6 kt key,val:=ρ z }) clock), ?_,qg hH hf hlive hconc _ rfl rfl (fun E' c1 c2 c3 hr hd=>?_) fun _=>.unk _⟩
      ·simp only [execOp,ho,Sem.run_bind,hmv,hkv]
       simp [Instr.mapUpdate,run_underlying ht,MapKept.run_getObj_map h4,lB hty,g1,g2,g3,Jl hty,MapKept.run_setObj_map _ h4,Result.andThen,dv]
      ·refine ⟨c3.trans h1, ?_,b,_,_,c1,nE _ hlt,stamped_modify h5 _ _ (fun _ _=>rfl) (fun e' _ he'=>?_), ?_,fun i e he=>?_,by simp [h8.1],fun i e he=>?_⟩
       ·simp only [fY,ji,hyes,cond_true];simp [h2]
       ·rw [g2] at he'; cases he'; exact g3.symm
       ·simp only [fY,hyes,cond_true];simp [h6]
       ·simp only [fY,ji,hyes,cond_true]
        rw [Array.getElem?_modify] at he
        split at he
        ·next hi =>
         rw [← hi,g2] at he
         cases he
         subst hi
         have hk0:=(h7 _ _ g2).1
         refine ⟨?_, ?_⟩
         ·rw [← hk0];exact g3.symm
         ·have:gD (vs.set (be kt ks key) xv) (be kt ks key) vt.z = xv:=AK (by rw [← h2];exact g4)
          rw [this];exact hval.mp hd
        ·next hi =>
         obtain ⟨k1,k2⟩:=h7 i e he
         refine ⟨k1, ?_⟩
         have:gD (vs.set (be kt ks key) xv) i vt.z = gD vs i vt.z:=F2 hi
         rw [this];exact k2.mp hd
       ·rw [Array.getElem?_modify] at he
        split at he
        ·next hi =>
         rw [← hi,g2] at he
         cases he
         show e0.born = _
         rw [← hi];exact h8.2 _ _ g2
        ·exact h8.2 i e he
   ·cases h
  ·cases h
 ·cases h
end
end Go.Ax
