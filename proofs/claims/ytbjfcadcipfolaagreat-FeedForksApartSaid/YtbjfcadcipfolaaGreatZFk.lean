import Derived.Test.YtbjfcadcipfolaaGreatZB18
import Derived.Test.YtbjfcadcipfolaaGreatRows
import Derived.LoopN
import Derived.Deep.RegionHeld3
import Derived.WalkKit
import Derived.Deep.QuietTactic
import Derived.Maps.AppendAt
import Derived.Deep.DeepMust
import Derived.Test.YtbjfcadcipfolaaGreatZHd
set_option linter.all false
set_option maxRecDepth 100000
namespace Go.Ax
open Go.Proofs Go.Proofs.YtbjfcadcipfolaaGreat Go.RowKit
theorem K8 (w:World) (fb mb:Nat) (s n:Int) (v:Value) (ok:Bool) (hf:w.cell? ⟨fb,0,none⟩ = some (.map (some mb)))
    (hl:(Instr.lookup 98 (.map (some mb)) (.agg #[.int .i64 s, .int .i64 n]) true).run Tryz.prog w = .ok (.tuple #[v, .bool ok]) w) :
    Calls Tryz.prog 44 #[.pointer (some ⟨fb,0,none⟩), .int .i64 s, .int .i64 n] w fun e w'=>e = .returned (.tuple #[v, .bool ok])∧w' = w:=by
  go_enter Tryz.func44,Tryz.ntmps44
  go_wp2
  all_goals (go_ret2;simp_all)
def nS (n:Nat) (w:World) (v:Value):Prop:=∃ a len c,v = .slice a len c∧len≤maxLen∧(0 < len→∃ b off C t,a = some ⟨b,off,none⟩∧n≤b∧w.heap[b]? = some (.cells C t (0,0))∧off+len≤C.size)
theorem nS.mono {n n':Nat} {w w':World} {v:Value} (h:nS n w v) (hn:n'≤n) (hb:Below w.heap.size w w'):nS n' w' v:=by
  obtain ⟨a,len,c,rfl,h1,h2⟩:=h
  refine ⟨a,len,c,rfl,h1,fun h0=>?_⟩
  obtain ⟨b,off,C,t,rfl,h3,h4,h5⟩:=h2 h0
  exact ⟨b,off,C,t,rfl,by omega,(hb.block b (Array.getElem?_eq_some_iff.1 h4).1).trans h4,h5⟩
def Ib (v:Value) (w:World):Prop:=Calls Tryz.prog 56 #[v] w fun e w'=>∃ a b c p er d,e = .returned (.tuple #[.agg #[.int .i64 a, .int .i64 b, .int .i64 c, .int .u32 p,d], .int .i64 er])∧Below w.heap.size w w'∧nS w.heap.size w' d
def FB (v:Value) (w:World):Prop:=Calls Tryz.prog 79 #[v] w fun e w'=>∃ n,e = .returned (.int .u32 n)∧Below w.heap.size w w'
def vG (n:Nat) (w:World) (v:Value) (m:Nat):Prop:=∃ xs,w.ownsRow n 41 5 v m xs∧∀ i,i < m→∃ d,xs[i*5+4]? = some d∧nS n w d∧∀ a len c,d = .slice a len c→0 < len→∀ ad,a = some ad→v.ownBlock≠some ad.block
theorem GP (t:Array Value):t = ((List.range t.size).map fun i=>t.getD i undef).toArray:=by
  apply Array.ext (by simp)
  intro i h1 h2
  simp [Array.getD,h1]
def NH (w:World) (fb:Nat) (s:Int) (m:Nat) (a:Act) (w':World):Prop:=∃ (v:Value) (p:Int) (k:Nat),k+m = 1000∧a.defers = []∧a.tmps.size = 44∧a.tmps.getD 0 undef = .pointer (some ⟨fb,0,none⟩)∧a.tmps.getD 1 undef = .int .i64 s∧a.tmps.getD 5 undef = v∧a.tmps.getD 6 undef = .int .u32 p∧a.tmps.getD 7 undef = .int .i64 (k+1:Nat) ∧
  Below w.heap.size w w'∧vG w.heap.size w' v k
theorem Nf {a:Act} (h:a.tmps.size = 44) (hd:a.defers = []):∃ g:Nat→Value,a = { tmps:=#[g 0,g 1,g 2,g 3,g 4,g 5,g 6,g 7,g 8,g 9,g 10,g 11,g 12,g 13,g 14,g 15,g 16,g 17,g 18,g 19,g 20,g 21,g 22,g 23,g 24,g 25,g 26,g 27,g 28,g 29,g 30,g 31,g 32,g 33,g 34,g 35,g 36,g 37,g 38,g 39,g 40,g 41,g 42,g 43],defers:=[] }∧∀ i,a.tmps.getD i undef = g i:=by
  obtain ⟨t,d⟩:=a
  simp only at h hd
  subst hd
  refine ⟨fun i=>t.getD i undef, ?_,fun i=>rfl⟩
  congr 1
  have:=GP t
  rw [h] at this
  exact this
theorem xS {w w':World} {n e k m:Nat} {v:Value} {xs:List Value} (h:w.ownsRow n e k v m xs) (hb:Below w.heap.size w w'):w'.ownsRow n e k v m xs:=by
  obtain ⟨h1,h2 | ⟨g,cap,cur,rfl,q1,q2,q3⟩⟩:=h
  · exact ⟨h1, .inl h2⟩
  · exact ⟨h1, .inr ⟨g,cap,cur,rfl,q1,(hb.block g (Array.getElem?_eq_some_iff.1 q2).1).trans q2,q3⟩⟩
theorem vQ {w:World} {n e k m:Nat} {v:Value} {xs:List Value} (h:w.ownsRow n e k v m xs) {b:Nat} (hb:v.ownBlock = some b):n≤b∧b < w.heap.size:=by
  obtain ⟨h1,⟨rfl,_⟩ | ⟨g,cap,cur,rfl,q1,q2,q3⟩⟩:=h
  · cases hb
  · cases hb;exact ⟨q1,(Array.getElem?_eq_some_iff.1 q2).1⟩
theorem I0 {n m:Nat} {w w':World} {v:Value} (h:vG n w v m) (hb:Below w.heap.size w w'):vG n w' v m:=by
  obtain ⟨xs,h1,h2⟩:=h
  refine ⟨xs,xS h1 hb,fun i hi=>?_⟩
  obtain ⟨d,q1,q2,q3⟩:=h2 i hi
  exact ⟨d,q1,q2.mono (Nat.le_refl _) hb,q3⟩
theorem Gk {n:Nat} {w w':World} {r:Option Nat} (h:w.grownBy w' r) (hn:n≤w.heap.size) (hr:∀ b,r = some b→n≤b):Below n w w' :=
  ⟨h.os,h.tape,h.output,h.size,fun k hk=>h.block k (by omega) (fun e=>by have:=hr k e.symm;omega)⟩
theorem JQ {n k:Nat} {w1 w2 w2' w3 w4:World} {v v2:Value} {xs:List Value} {ba:Option Addr} {bn bc:Nat} {a b c d:Value} (hn:n≤w1.heap.size) (hb2:Below w1.heap.size w1 w2) (hb2':Below w2.heap.size w2 w2') (hbn:bn≤maxLen)
    (hown:w1.ownsRow n 41 5 v k xs) (hbod:∀ i,i < k→∃ d,xs[i*5+4]? = some d∧nS n w1 d∧∀ a len c,d = .slice a len c→0 < len→∀ ad,a = some ad→v.ownBlock≠some ad.block)
    (hbody:0 < bn→∃ b off C t,ba = some ⟨b,off,none⟩∧w1.heap.size≤b∧w2.heap[b]? = some (.cells C t (0,0))∧off+bn≤C.size)
    (hown2:w3.ownsRow n 41 5 v2 (k+1) (xs++[a,b,c,d, .slice ba bn bc])) (hgrow:w2'.grownBy w3 v.ownBlock) (hat:v2.ownBlock = v.ownBlock∨v2.ownBlock = some w2'.heap.size) (hb4:Below w3.heap.size w3 w4):vG n w4 v2 (k+1):=by
  have s2:=hb2.size
  have s2':=hb2'.size
  have s3:=hgrow.size
  have hx:xs.length = k*5:=hown.1
  have keep:∀ b o,w2.heap[b]? = some o→v.ownBlock≠some b→w4.heap[b]? = some o:=fun b o hb hne=>by
    have hlt:=(Array.getElem?_eq_some_iff.1 hb).1
    have e1:=(hb2'.block b hlt).trans hb
    have e2:=(hgrow.block b (by omega) (fun e=>hne e.symm)).trans e1
    exact (hb4.block b (Array.getElem?_eq_some_iff.1 e2).1).trans e2
  have apart:∀ b,b < w2.heap.size→v.ownBlock≠some b→v2.ownBlock≠some b:=fun b hb hne e=>by
    rcases hat with h | h
    · exact hne (h.symm.trans e)
    · rw [h] at e;cases e;omega
  refine ⟨_,xS hown2 hb4,fun i hi=>?_⟩
  by_cases hik:i < k
  · obtain ⟨dd,q1,⟨a0,len,c0,rfl,q2,q3⟩,q4⟩:=hbod i hik
    refine ⟨_,by rw [List.getElem?_append_left (by omega)];exact q1,⟨a0,len,c0,rfl,q2,fun h0=>?_⟩, ?_⟩
    · obtain ⟨b,off,C,t,rfl,r1,r2,r3⟩:=q3 h0
      exact ⟨b,off,C,t,rfl,r1,keep b _ ((hb2.block b (Array.getElem?_eq_some_iff.1 r2).1).trans r2) (q4 _ _ _ rfl h0 _ rfl),r3⟩
    · rintro a1 len1 c1 e h0 ad rfl
      cases e
      obtain ⟨b,off,C,t,e,r1,r2,r3⟩:=q3 h0
      cases e
      have:=(Array.getElem?_eq_some_iff.1 r2).1
      exact apart b (by omega) (q4 _ _ _ rfl h0 _ rfl)
  · have:i = k:=by omega
    subst this
    refine ⟨.slice ba bn bc,by rw [List.getElem?_append_right (by omega),show i*5+4 - xs.length = 4 by omega];rfl,⟨ba,bn,bc,rfl,hbn,fun h0=>?_⟩, ?_⟩
    · obtain ⟨b,off,C,t,rfl,r1,r2,r3⟩:=hbody h0
      exact ⟨b,off,C,t,rfl,by omega,keep b _ r2 (fun e=>by have:=(vQ hown e).2;omega),r3⟩
    · rintro a1 len1 c1 e h0 ad rfl
      cases e
      obtain ⟨b,off,C,t,e,r1,r2,r3⟩:=hbody h0
      cases e
      exact apart b (Array.getElem?_eq_some_iff.1 r2).1 (fun e=>by have:=(vQ hown e).2;omega)
theorem IK (w:World) (a b c d e:Value) (t:TypeId) (n:Nat) (hn:n = w.heap.size):∀ j u,[a,b,c,d,e][j]? = some u→(w.alloc (.cells #[a,b,c,d,e] t)).cell? ((⟨n,0,none⟩:Addr).add j) = some u:=by
  subst hn
  intro j u hj
  have hlt:j < 5:=(List.getElem?_eq_some_iff.1 hj).1
  rw [bQ,Nat.zero_add]
  simp only [World.cell?,heap_alloc_new]
  simpa using hj
theorem Ng:Tryz.prog.underlying 68 = some (.slice 41):=by kernel_rfl
noncomputable def AA:TypeInfo:=(Tryz.prog.info? 41).get (by kernel_rfl)
theorem Nm:Tryz.prog.info? 41 = some AA:=by kernel_rfl
theorem Ns:AA.zero = some (.agg #[.int .i64 0, .int .i64 0, .int .i64 0, .int .u32 0, .slice none 0 0]):=by kernel_rfl
theorem Nx:AA.size = 5:=by kernel_rfl
theorem Nj:AA.bytes = 56:=by kernel_rfl
set_option maxHeartbeats 4000000 in
theorem JW (w:World) (fb mb:Nat) (s:Int) (hfb:fb < w.heap.size) (hf:w.cell? ⟨fb,0,none⟩ = some (.map (some mb)))
    (hg:∀ w',Below w.heap.size w w'→∀ n:Int, ∃ v ok,(Instr.lookup 98 (.map (some mb)) (.agg #[.int .i64 s, .int .i64 n]) true).run Tryz.prog w' = .ok (.tuple #[v, .bool ok]) w'∧(ok = true→n≤999∧(∀ w'',Below w.heap.size w w''→Ib v w''∧FB v w''))) :
    Calls Tryz.prog 39 #[.pointer (some ⟨fb,0,none⟩), .int .i64 s] w fun e w'=>∃ v m,e = .returned v∧Below w.heap.size w w'∧m≤1000∧vG w.heap.size w' v m:=by
  go_enter Tryz.func39,Tryz.ntmps39
  go_wp2_with (first
    | (go_at_call 44;refine (K8 _ fb mb s _ u ok ((hb1.cell (p:=⟨fb,0,none⟩) hfb).trans hf) hl).mono ?_;rintro e w1 ⟨rfl,rfl⟩)
    | (at_builtin;have hbA:Below w1.heap.size w1 ((w2.alloc (.cells #[.int .i64 da, .int .i64 db, .int .i64 dc, .int .u32 dp, .slice ba bn bc] 41)).alloc (.cells #[.int .i64 da, .int .i64 db, .int .i64 dc, .int .u32 dp, .slice ba bn bc] 41)):=(hb2.alloc hb2.size _).alloc (by have:=hb2.size;simp;omega) _;refine wpList_append_own_at _ rfl _ _ 68 rfl w.heap.size 41 AA (.agg #[.int .i64 0, .int .i64 0, .int .i64 0, .int .u32 0, .slice none 0 0]) 5 56 Ng Nm Ns Nx Nj rfl (by decide) v k xs rfl (xS hown hbA) ⟨w2.heap.size+1,0,none⟩ 1 1 [.int .i64 da, .int .i64 db, .int .i64 dc, .int .u32 dp, .slice ba bn bc] rfl rfl (IK (w2.alloc _) _ _ _ _ _ _ _ (by simp)) (fun u hu=>by simp at hu;rcases hu with rfl | rfl | rfl | rfl | rfl <;> rfl) (by unfold maxLen;omega) (by omega) (Nat.le_trans hb1.size hbA.size) ?_;intro v2 w3 hown2 hgrow hnil hat)
    | (go_at_call 79;have hb3:Below w.heap.size w w3:=(hb1.trans (hbA.mono hb1.size)).trans (Gk hgrow (Nat.le_trans hb1.size hbA.size) fun b e=>(vQ hown e).1);refine ((hok (by simp_all)).2 _ hb3).2.mono ?_;rintro e w4 ⟨np,rfl,hb4⟩)
    | (go_at_call 56;refine (hok (by simp_all)).2 _ hb1 |>.1.mono ?_;rintro e w2 ⟨da,db,dc,dp,er,_,rfl,hb2,ba,bn,bc,rfl,hbn,hbody⟩)
    | (refine yo (NH w fb s) ?_ 1000 _ _ ⟨.slice none 0 0,0,0,by simp,rfl,rfl,rfl,rfl,rfl,rfl,rfl, .refl _ _,[],World.ownsRow_nil _ _ _ _,fun i hi=>absurd hi (by omega)⟩;rintro m a w1 ⟨v,p,k,hkm,hd,hsz,g0,g1,g5,g6,g7,hb1,xs,hown,hbod⟩;obtain ⟨g,rfl,hgg⟩:=Nf hsz hd;simp only [hgg] at g0 g1 g5 g6 g7;rw [g0,g1,g5,g6,g7];clear hd hsz hgg;obtain ⟨u,ok,hl,hok⟩:=hg w1 hb1 (k+1:Nat)))
  all_goals first
    | (refine .inr ⟨by simp, ?_⟩;unfold Exit.inBlock;go_ret)
    | (have hk9:k+1≤999:=by have:=(hok (by simp_all)).1;omega
       exact ⟨m - 1,by omega,v2,np,k+1,by omega,rfl,rfl,rfl,rfl,rfl,rfl,by simp [Int.natCast_add],hb3.trans (hb4.mono hb3.size),JQ hb1.size hb2 ((Below.refl _ _).alloc (Nat.le_refl _) _ |>.alloc (by simp) _) hbn hown hbod hbody hown2 hgrow hat hb4⟩)
  all_goals first
    | exact ⟨v,k,rfl,hb1,by omega,xs,hown,hbod⟩
    | exact ⟨v,k,rfl,hb1.trans ((hb2.alloc hb2.size _).mono hb1.size),by omega,I0 ⟨xs,hown,hbod⟩ (hb2.alloc hb2.size _)⟩
end Go.Ax
set_option linter.all false
set_option maxRecDepth 100000
namespace Go.Ax
open Go.Proofs Go.Proofs.YtbjfcadcipfolaaGreat Go.RowKit
theorem Ga {a:Act} (h:a.tmps.size = 101) (hd:a.defers = []):∃ g:Nat→Value,a = { tmps:=#[g 0,g 1,g 2,g 3,g 4,g 5,g 6,g 7,g 8,g 9,g 10,g 11,g 12,g 13,g 14,g 15,g 16,g 17,g 18,g 19,g 20,g 21,g 22,g 23,g 24,g 25,g 26,g 27,g 28,g 29,g 30,g 31,g 32,g 33,g 34,g 35,g 36,g 37,g 38,g 39,g 40,g 41,g 42,g 43,g 44,g 45,g 46,g 47,g 48,g 49,g 50,g 51,g 52,g 53,g 54,g 55,g 56,g 57,g 58,g 59,g 60,g 61,g 62,g 63,g 64,g 65,g 66,g 67,g 68,g 69,g 70,g 71,g 72,g 73,g 74,g 75,g 76,g 77,g 78,g 79,g 80,g 81,g 82,g 83,g 84,g 85,g 86,g 87,g 88,g 89,g 90,g 91,g 92,g 93,g 94,g 95,g 96,g 97,g 98,g 99,g 100],defers:=[] }∧∀ i,a.tmps.getD i undef = g i:=by
  obtain ⟨t,d⟩:=a
  simp only at h hd
  subst hd
  refine ⟨fun i=>t.getD i undef, ?_,fun i=>rfl⟩
  congr 1
  have:=GP t
  rw [h] at this
  exact this
def tc (n:Nat) (w:World) (v:Value) (m:Nat) (xs:List Value):Prop:=w.ownsRow n 41 5 v m xs∧∀ i,i < m→∃ d,xs[i*5+4]? = some d∧nS n w d∧∀ a len c,d = .slice a len c→0 < len→∀ ad,a = some ad→v.ownBlock≠some ad.block
theorem Ki (w:World) (b o:Nat) (u:Value) {C:Array Value} {t:TypeId} (h:w.heap[b]? = some (.cells C t (0,0))):(w.setCell ⟨b,o,none⟩ u).heap[b]? = some (.cells (C.setIfInBounds o u) t (0,0)):=by
  obtain ⟨hlt,hk⟩:=Array.getElem?_eq_some_iff.1 h
  show (w.heap.modify b _)[b]? = _
  rw [Array.getElem?_eq_getElem (by rw [Array.size_modify];exact hlt),Array.getElem_modify_self,hk]
  rfl
theorem JM {n m:Nat} {w:World} {v:Value} {xs:List Value} (h:tc n w v m xs) {b:Nat} {C:Array Value} {t:TypeId} (hb:w.heap[b]? = some (.cells C t (0,0))) (hne:v.ownBlock≠some b) (o:Nat) (u:Value):tc n (w.setCell ⟨b,o,none⟩ u) v m xs:=by
  obtain ⟨⟨h1,h2⟩,h3⟩:=h
  have other:∀ k,k≠b→(w.setCell ⟨b,o,none⟩ u).heap[k]? = w.heap[k]?:=fun k hk=>Below.heap_setCell w ⟨b,o,none⟩ u k hk
  refine ⟨⟨h1, ?_⟩,fun i hi=>?_⟩
  · rcases h2 with h2 | ⟨g,cap,cur,rfl,q1,q2,q3⟩
    · exact .inl h2
    · exact .inr ⟨g,cap,cur,rfl,q1,(other g (fun e=>hne (by rw [e];rfl))).trans q2,q3⟩
  · obtain ⟨d,q1,⟨a,len,c,rfl,q2,q3⟩,q4⟩:=h3 i hi
    refine ⟨_,q1,⟨a,len,c,rfl,q2,fun h0=>?_⟩,q4⟩
    obtain ⟨b',off,C',t',rfl,r1,r2,r3⟩:=q3 h0
    by_cases e:b' = b
    · subst e
      rw [hb] at r2
      cases r2
      exact ⟨b',off,_,_,rfl,r1,Ki w b' o u hb,by rw [Array.size_setIfInBounds];exact r3⟩
    · exact ⟨b',off,C',t',rfl,r1,(other b' e).trans r2,r3⟩
theorem zR {n m i:Nat} {w:World} {v:Value} {xs:List Value} (h:tc n w v m xs) (hi:i < m):∃ B cap,v = .slice (some ⟨B,0,none⟩) m cap∧m≤cap∧cap≤maxLen∧∃ ba bn bc,w.cell? ⟨B,i*5+4,none⟩ = some (.slice ba bn bc)∧xs[i*5+4]? = some (.slice ba bn bc)∧bn≤maxLen∧(0 < bn→∃ b off C t,ba = some ⟨b,off,none⟩∧n≤b∧v.ownBlock≠some b∧w.heap[b]? = some (.cells C t (0,0))∧off+bn≤C.size):=by
  obtain ⟨⟨h1,h2⟩,h3⟩:=h
  obtain ⟨d,q1,⟨a,len,c,rfl,q2,q3⟩,q4⟩:=h3 i hi
  rcases h2 with ⟨_,h2⟩ | ⟨g,cap,cur,rfl,r1,r2,r3,r4,r5,r6⟩
  · omega
  refine ⟨g,cap,rfl,r3,r4,a,len,c, ?_,q1,q2,fun h0=>?_⟩
  · have hlt:i*5+4 < m*5:=by omega
    have:cur[i*5+4]? = some (.slice a len c):=by rw [← q1, ← r6,List.getElem?_take,if_pos hlt,Array.getElem?_toList]
    simp [World.cell?,r2,this]
  · obtain ⟨b,off,C,t,rfl,s1,s2,s3⟩:=q3 h0
    exact ⟨b,off,C,t,rfl,s1,q4 _ _ _ rfl h0 _ rfl,s2,s3⟩
theorem GD {n m:Nat} {w:World} {v:Value} {xs:List Value} (h:tc n w v m xs):∃ a c,v = .slice a m c:=by
  obtain ⟨⟨_,⟨rfl,rfl⟩ | ⟨g,cap,cur,rfl,_⟩⟩,_⟩:=h
  · exact ⟨_,_,rfl⟩
  · exact ⟨_,_,rfl⟩
def Nd (w:World) (a:Act) (e:Exit) (a':Act) (w':World):Prop:=e = .normal∧Below w.heap.size w w'∧a'.tmps.size = 101∧a'.defers = []∧∀ t,t = 5∨t = 6∨t = 11→a'.tmps.getD t undef = a.tmps.getD t undef
def NN (w:World) (x5 x6 x11 v:Value) (M:Nat) (xs:List Value) (m:Nat) (a:Act) (w':World):Prop:=∃ i:Nat,i+m = M∧a.defers = []∧a.tmps.size = 101∧a.tmps.getD 5 undef = x5∧a.tmps.getD 6 undef = x6∧a.tmps.getD 11 undef = x11∧a.tmps.getD 14 undef = v∧a.tmps.getD 15 undef = .int .i64 i∧Below w.heap.size w w'∧tc w.heap.size w' v M xs
def NZ (w:World) (x5 x6 x11 v:Value) (M:Nat) (xs:List Value) (i N m:Nat) (a:Act) (w':World):Prop:=∃ x:Nat,x+m = N∧a.defers = []∧a.tmps.size = 101∧a.tmps.getD 5 undef = x5∧a.tmps.getD 6 undef = x6∧a.tmps.getD 11 undef = x11∧a.tmps.getD 14 undef = v∧a.tmps.getD 15 undef = .int .i64 i∧a.tmps.getD 16 undef = .int .i64 x∧Below w.heap.size w w'∧tc w.heap.size w' v M xs
set_option maxHeartbeats 4000000 in
theorem Jx (c:Code) (hc:iz (iG 130707) (ai Tryz.f11) = some c) (w:World) (a:Act) (ha:a.tmps.size = 101) (had:a.defers = []) (fb mb:Nat) (s:Int) (h5:a.tmps.getD 5 undef = .pointer (some ⟨fb,0,none⟩)) (h11:a.tmps.getD 11 undef = .int .i64 s) (hfb:fb < w.heap.size) (hf:w.cell? ⟨fb,0,none⟩ = some (.map (some mb)))
    (hg:∀ w',Below w.heap.size w w'→∀ n:Int, ∃ v ok,(Instr.lookup 98 (.map (some mb)) (.agg #[.int .i64 s, .int .i64 n]) true).run Tryz.prog w' = .ok (.tuple #[v, .bool ok]) w'∧(ok = true→n≤999∧(∀ w'',Below w.heap.size w w''→Ib v w''∧FB v w''))) :
    c.wp Tryz.prog (Nd w a) a w:=by
  rw [show iG 130707 = [true,true,true,true,true,true,true,false,true,false,false,true,false,false,true,true] from by decide] at hc
  simp only [ai,Tryz.f11,iz,Option.some.injEq] at hc
  subst hc
  obtain ⟨g,rfl,hgg⟩:=Ga ha had
  simp only [hgg] at h5 h11
  obtain ⟨x6,h6⟩:∃ x6,g 6 = x6:=⟨_,rfl⟩
  rw [h5,h11,h6]
  have tok1:True:=trivial
  have tok2:True:=trivial
  have tok3:True:=trivial
  have hM:∀ M:Nat,M≤1000→(M:Int) < 9223372036854775807:=fun M h=>by omega
  go_wp2_with (first
    | (go_at_call 39;refine (JW w fb mb s hfb hf hg).mono ?_;rintro e w1 ⟨v,M,rfl,hb1,hM1,xs,hown,hbod⟩;have hd1:tc w.heap.size w1 v M xs:=⟨hown,hbod⟩;obtain ⟨va,vc,rfl⟩:=GD hd1;clear hown hbod)
    | (have _t:=tok1;refine yo (NN w (.pointer (some ⟨fb,0,none⟩)) x6 (.int .i64 s) (.slice va M vc) M xs) ?_ M _ _ ⟨0,by omega,rfl,rfl,rfl,rfl,rfl,rfl,rfl,hb1,hd1⟩;clear tok1 hb1 hd1;rintro m a w2 ⟨i,him,hdf,hsz,g5,g6,g11,g14,g15,hb2,hd2⟩;obtain ⟨g',rfl,hgg'⟩:=Ga hsz hdf;simp only [hgg'] at g5 g6 g11 g14 g15;rw [g5,g6,g11,g14,g15];clear hdf hsz hgg')
    | (have _t:=tok2;have hiM:i < M:=by assumption
       obtain ⟨B,cap,e0,hBm,hcap,ba,bn,bc,hcell,hxs,hbn,hblk⟩:=zR hd2 hiM
       cases e0
       refine yo (NZ w (.pointer (some ⟨fb,0,none⟩)) x6 (.int .i64 s) (.slice (some ⟨B,0,none⟩) M vc) M xs i bn) ?_ bn _ _ ⟨0,by omega,rfl,rfl,rfl,rfl,rfl,rfl,rfl,rfl,hb2,hd2⟩
       clear tok2 hcell hblk hb2 hd2
       rintro m' a w3 ⟨x,hxm,hdf,hsz,g5,g6,g11,g14,g15,g16,hb3,hd3⟩
       obtain ⟨g3,rfl,hg3⟩:=Ga hsz hdf
       simp only [hg3] at g5 g6 g11 g14 g15 g16
       rw [g5,g6,g11,g14,g15,g16]
       clear hdf hsz hg3
       obtain ⟨B',cap',e0,_,_,ba',bn',bc',hcell,hxs',_,hblk⟩:=zR hd3 hiM
       cases e0
       rw [hxs] at hxs'
       cases hxs')
    | (have _t:=tok3;have hx:x < bn:=by assumption
       obtain ⟨b,off,C,t,rfl,hnb,hne,hC,hoff⟩:=hblk (by omega)
       have hcb:w3.cell? ⟨b,off+x,none⟩ = some C[off+x]:=by simp [World.cell?,hC]
       have hfb:w3.frozen? ⟨b,off+x,none⟩ = false:=by simp [World.frozen?,hC]
       clear tok3))
  all_goals first
    | (refine ⟨m' - 1,by omega,x+1,by omega,rfl,rfl,rfl,rfl,rfl,rfl,rfl, ?_,hb3.setCell (p:=⟨b,off+x,none⟩) hnb _,JM hd3 hC hne _ _⟩
       show Value.int IntKind.i64 (wrap64 (↑x+1)) = _
       have:wrap64 ((x:Int)+1) = ((x+1:Nat):Int):=by unfold maxLen at hbn;simp [wrap64];omega
       rw [this])
    | (refine .inr ⟨by simp, ?_⟩;exact ⟨rfl,by assumption,rfl,rfl,by rintro t (rfl | rfl | rfl) <;> rfl⟩)
    | (refine .inr ⟨by simp, ?_⟩;unfold Exit.inBlock;go_wp2)
  all_goals exact ⟨m - 1,by omega,i+1,by omega,rfl,rfl,rfl,rfl,rfl,rfl,by simp [Int.natCast_add],hb3,hd3⟩
def Ce:Tm:={ sl:=[(5, .k (.ptr 0 1 0 0)),(6, .k (.ptr 1 1 0 0)),(11, .t (.i .i64))],ob:=[.box [.k (.fn 2000000000 [.ptr 2 1 0 0])], .box [.t (.st .GPensionref31_Feeds)], .map 98 (.st .GFeed_key) (.ls (.i .u8))] }
def LM (s:Int) (r:GPensionref31_Feeds) (ks:List GFeed_key) (vs:List (List Int)):St:={ tm:=[sv 5 (.ptr 0 1 0 0),sv 6 (.ptr 1 1 0 0),sv 11 (i64 s)],hp:=[(0,some (.box [.fn 2000000000 [.ptr 2 1 0 0]])),(1,some (.box ((Ty.enc (.st .GPensionref31_Feeds) r).map V.c))),(2,some (.map 98 (.st .GFeed_key) (.ls (.i .u8)) ks vs))],nx:=3 }
theorem G5 (x:HP Ce.tys):mq Ce x = LM x.1 x.2.1 x.2.2.1 x.2.2.2:=by kernel_rfl
theorem yN:jc Tryz.prog 97 (.st .GFeed_key) = true:=by kernel_rfl
end Go.Ax
set_option linter.all false
set_option maxRecDepth 100000
namespace Go.Ax
open Go.Proofs Go.Proofs.YtbjfcadcipfolaaGreat Go.RowKit
theorem Ma {okN:Nat→Prop} {n:Nat} {w:World} {v:Value} {l:List Int} (h:aG okN w v (.sl (.i .u8) l)) (hn:∀ b,okN b→n≤b∧∃ C t,w.heap[b]? = some (.cells C t (0,0))):nS n w v:=by
  cases h with
  | sl _ _ a m c k el u hm hk he hc hmx ha ho hl hu =>
  have hk1:k = 1:=hk
  subst hk1
  refine ⟨a,m,c,rfl,Nat.le_trans hc hmx,fun h0=>?_⟩
  obtain ⟨ad,rfl,hok,hcell⟩:=ha h0
  obtain ⟨h1,C,t,h2⟩:=hn _ hok
  obtain ⟨b,off,spot⟩:=ad
  simp only at h1 h2
  have c0:=hcell 0 0 h0 (by omega)
  have c1:=hcell (m - 1) 0 (by omega) (by omega)
  rw [Nat.mul_one,Nat.add_zero] at c0 c1
  have hs:spot = none:=by
    cases spot with
    | none=>rfl
    | some q=>simp [Addr.add,World.cell?,h2] at c0
  subst hs
  rw [bQ] at c1
  simp only [World.cell?,h2] at c1
  have:=(Array.getElem?_eq_some_iff.1 (show C[off+(m - 1)]? = some _ from by simpa using c1)).1
  exact ⟨b,off,C,t,rfl,h1,h2,by omega⟩
theorem y4 {P:Program} {f:FuncId} {args:Array Value} {w:World} {R:Value→World→Prop} (he:(callFunc f args).run P w = .ok (.enter f args) w) (h:ik P f args w R):Calls P f args w fun e w'=>∃ v,e = .returned v∧R v w':=by
  rcases h with ⟨_,h⟩ | ⟨v,w',h,_⟩
  · exact h
  · rw [he] at h;cases h
theorem MO {ok:Nat→Prop} {w:World} {x:Value} {l:List Int} {d:GDocument} {er:Int} (h:pJ Tryz.prog 56 l (.new (.tup [encV (.st .GDocument) d,i64 er]))) (hx:aG ok w x (.sl (.i .u8) l)) (hlt:∀ b,ok b→b < w.heap.size):Ib x w:=by
  refine (y4 (eZ (c:=nX Tryz.f56) Tryz.func56 (by kernel_rfl) (by kernel_rfl) _ _) (h ok w x hx hlt)).mono ?_
  rintro e w' ⟨v,rfl,hb,ho⟩
  have ho:af (dw fun b=>(w.heap.size≤b∧b < w'.heap.size)∧∃ C t,w'.heap[b]? = some (.cells C t (0,0))) w' v (.tup [.agg [i64 d.Sender,i64 d.Number,i64 d.Kind, .c (.lit (.int .u32 d.Prev)), .c (.sl (.i .u8) d.Body)],i64 er]):=ho
  cases ho with
  | tup vs _ hl h =>
  match vs,hl with
  | [v0,v1],_ =>
  have e1:v1 = .int .i64 er:=(h 1 v1 _ rfl rfl).lit_inv
  have h0:=h 0 v0 _ rfl rfl
  subst e1
  cases h0 with
  | agg us _ hl2 h2 =>
  match us,hl2 with
  | [u0,u1,u2,u3,u4],_ =>
  have f0:u0 = .int .i64 d.Sender:=(h2 0 u0 _ rfl rfl).lit_inv
  have f1:u1 = .int .i64 d.Number:=(h2 1 u1 _ rfl rfl).lit_inv
  have f2:u2 = .int .i64 d.Kind:=(h2 2 u2 _ rfl rfl).lit_inv
  have f3:u3 = .int .u32 d.Prev:=(h2 3 u3 _ rfl rfl).lit_inv
  have h4:=h2 4 u4 _ rfl rfl
  subst f0 f1 f2 f3
  refine ⟨_,_,_,_,_,_,rfl,hb, ?_⟩
  cases h4 with
  | c _ _ h4=>exact Ma h4 fun b hb=>⟨hb.1.1,hb.2⟩
theorem Me {ok:Nat→Prop} {w:World} {x:Value} {l:List Int} {n:Int} (h:pJ Tryz.prog 79 l (.new (.c (.lit (.int .u32 n))))) (hx:aG ok w x (.sl (.i .u8) l)) (hlt:∀ b,ok b→b < w.heap.size):FB x w:=by
  refine (y4 (eZ (c:=nX Tryz.f79) Tryz.func79 (by kernel_rfl) (by kernel_rfl) _ _) (h ok w x hx hlt)).mono ?_
  rintro e w' ⟨v,rfl,hb,ho⟩
  have e0:v = .int .u32 n:=af.lit_inv ho
  exact ⟨n,by rw [e0],hb⟩
theorem Kp {E:ar} {w:World} {mb:Nat} {es:Array MapEntry} {clock:Nat} {s:Int} {ks:List GFeed_key} {vs:List (List Int)} (hm:w.heap[mb]? = some (.map es clock)) (hst:Go.MapKept.Stamped es clock) (hsz:es.size = ks.length) (hlen:ks.length = vs.length)
    (hes:∀ i e,es[i]? = some e→e.key = d6 (.st .GFeed_key) (gD ks i (Ty.z (.st .GFeed_key)))∧kN E.ok w e.val (.ls (.i .u8)) (gD vs i [])) (n:Int) :
    ∃ v,(Instr.lookup 98 (.map (some mb)) (.agg #[.int .i64 s, .int .i64 n]) true).run Tryz.prog w = .ok (.tuple #[v, .bool (dS (.st .GFeed_key) ks ⟨s,n⟩)]) w∧(dS (.st .GFeed_key) ks ⟨s,n⟩ = true→∃ l∈vs,aG E.ok w v (.sl (.i .u8) l)):=by
  have hk:(.agg #[.int .i64 s, .int .i64 n]:Value) = d6 (.st .GFeed_key) (⟨s,n⟩:GFeed_key):=rfl
  have hu:Tryz.prog.underlying 98 = some (.map 97 32):=by kernel_rfl
  have hz:(zeroValue 32).run Tryz.prog w = .ok (.slice none 0 0) w:=by
    have:∀ w,(zeroValue 32).run Tryz.prog w = .ok (.slice none 0 0) w:=fun w=>by kernel_rfl
    exact this w
  rw [hk]
  rcases yP (E:=E) (w:=w) (P:=Tryz.prog) (vt:=.ls (.i .u8)) (vs:=vs) (b:=mb) yN hst hsz hes (⟨s,n⟩:GFeed_key) with ⟨g1,g2,g3⟩ | ⟨e0,g1,g2,g3,g4⟩
  · have hh:dS (.st .GFeed_key) ks ⟨s,n⟩ = false:=by
      unfold dS
      rw [g3]
      cases hb:Nat.blt ks.length ks.length with
      | false=>rfl
      | true=>rw [Nat.blt_eq] at hb;omega
    refine ⟨.slice none 0 0, ?_,fun h=>by rw [hh] at h;cases h⟩
    rw [hh]
    simp [Instr.lookup,run_underlying hu,MapKept.run_getObj_map hm,lB yN,g1,hz,Result.andThen]
  · have hh:dS (.st .GFeed_key) ks ⟨s,n⟩ = true:=by
      unfold dS
      rw [Nat.blt_eq];exact g4
    refine ⟨e0.val, ?_,fun _=>⟨gD vs (be (.st .GFeed_key) ks ⟨s,n⟩) [], ?_,(hes _ _ g2).2⟩⟩
    · rw [hh]
      simp [Instr.lookup,run_underlying hu,MapKept.run_getObj_map hm,lB yN,g1,Result.andThen]
    · rw [gD,List.getD_eq_getElem?_getD,List.getElem?_eq_getElem (by rw [← hlen];exact g4)]
      exact List.getElem_mem _
theorem HZ (x y:Int × GPensionref31_Feeds × List GFeed_key × List (List Int)) (hy:oR x = some y) {cc:Code} (hcc:iz (iG 130707) (ai Tryz.f11) = some cc) :
    bh Tryz.prog 101 cc (fun e σ'=>e = .normal∧σ' = LM y.1 y.2.1 y.2.2.1 y.2.2.2) (LM x.1 x.2.1 x.2.2.1 x.2.2.2):=by
  unfold oR HB at hy
  split at hy
  next hok =>
    cases hy
    obtain ⟨s,r,ks,vs⟩:=x
    simp only at hok
    refine .of_wp fun B E a w hs=>?_
    have hH:=hs.heap
    have h5:af E w (cA B a 5) (.ptr 0 1 0 0):=(hs.slots 5 ⟨[], .ptr 0 1 0 0⟩ rfl).1 rfl
    have h11:cA B a 11 = .int .i64 s:=((hs.slots 11 ⟨[],i64 s⟩ rfl).1 rfl).lit_inv
    obtain ⟨l0,o0⟩:=hH.at_ 0 _ rfl
    obtain ⟨_,fb,C,t,hfc,hfb,hrep⟩:=o0
    obtain ⟨e5,_⟩:cA B a 5 = .pointer (some ⟨fb,0,none⟩)∧True:=by
      generalize cA B a 5 = q at h5
      generalize hd:(V.ptr 0 1 0 0) = d at h5
      cases h5 with
      | ptr o k i j b hn hb hi =>
        cases hd
        rw [hfc] at hb
        cases hb
        exact ⟨rfl,trivial⟩
      | _=>cases hd
    obtain ⟨c0,hC⟩:∃ c0,C = #[c0]:=by
      have h1:=hrep.1
      match C,h1 with
      | ⟨[c0]⟩,_=>exact ⟨c0,rfl⟩
    subst hC
    have hc0:af E w c0 (.fn 2000000000 [.ptr 2 1 0 0]):=hrep.2 0 c0 _ rfl rfl
    obtain ⟨mb,ev,hlive,hconc,hg⟩:=fX hH hc0 (o':=2) (ob:=.map 98 (.st .GFeed_key) (.ls (.i .u8)) ks vs) rfl
    obtain ⟨_,_,q2,mb',es,clock,q3,q4,q5,q6,q7,q8,q9⟩:=hH.at_ _ _ hg
    rw [hconc] at q3;cases q3
    subst ev
    have hcell:w.cell? ⟨fb,0,none⟩ = some (.map (some mb)):=by simp [World.cell?,hfb]
    rw [jP (by decide)] at e5 h11
    have hdm:∀ w',Below w.heap.size w w'→∀ v d,aG E.ok w v d→aG E.ok w' v d:=fun w' hb v d h=>h.mono (fun _ h=>h) fun b h=>hb.block b (hH.oklt b h)
    refine wp_mono (Jx cc hcc w a hs.size hs.defers fb mb s e5 h11 (dP hfb) hcell fun w' hb n=>?_) ?_
    · obtain ⟨v,h1,h2⟩:=Kp (E:=E) (s:=s) ((hb.block mb (dP q4)).trans q4) q5 q6 q2 (fun i e he=>⟨(q7 i e he).1,(q7 i e he).2.mp (hdm w' hb)⟩) n
      refine ⟨v,_,h1,fun hm=>?_⟩
      obtain ⟨l,hl,hrep⟩:=h2 hm
      refine ⟨?_,fun w'' hb'=>?_⟩
      · rcases Int.lt_or_le 999 n with h | h
        · rw [hok.2 n h] at hm;cases hm
        · exact h
      · obtain ⟨⟨d,er,hd⟩,m,hm⟩:=hok.1 l hl
        have hr2:aG E.ok w'' v (.sl (.i .u8) l):=hrep.mono (fun _ h=>h) fun b h=>(hb'.block b (hH.oklt b h)).trans (hb.block b (hH.oklt b h)).symm
        have hlt:∀ b,E.ok b→b < w''.heap.size:=fun b h=>Nat.lt_of_lt_of_le (hH.oklt b h) hb'.size
        exact ⟨MO hd hr2 hlt,Me hm hr2 hlt⟩
    · rintro e a' w' ⟨rfl,hb,hsz,hdf,hsl⟩
      have hE:∀ {v d},af E w v d→af E w' v d:=fun h=>h.mono (kl:=[]) (fun _ h=>h) (fun b h=>hb.block b (hH.oklt b h)) (fun _ h=>h) (fun _ _ _=>⟨rfl,rfl,rfl⟩) (CU _)
      refine ⟨LM s r ks vs,E,⟨rfl,rfl⟩,hsz,hs.small,hdf,hs.live,⟨fun o ob h=>?_,hH.inj,hH.sep,fun o b h1 h2=>Nat.lt_of_lt_of_le (hH.lt o b h1 h2) hb.size,fun b h=>Nat.lt_of_lt_of_le (hH.oklt b h) hb.size⟩,fun q sl h=>?_,⟨hb.os.trans hs.base.os,hb.tape.trans hs.base.tape,hb.output.trans hs.base.output,Nat.le_trans hs.base.size hb.size,fun k hk hm=>?_⟩,hs.own,hs.okold⟩
      · obtain ⟨h1,h2⟩:=hH.at_ o ob h
        exact ⟨h1,lC h2 ⟨rfl,rfl,rfl⟩ (fun b hc=>hb.block b (hH.lt o b h1 hc)) (fun v d h=>hE h) (hdm w' hb)⟩
      · obtain ⟨h1,h2⟩:=hs.slots q sl h
        have hq:q = 5∨q = 6∨q = 11:=by
          have h:au [sv 5 (.ptr 0 1 0 0),sv 6 (.ptr 1 1 0 0),sv 11 (i64 s)] q = some sl:=h
          simp only [sv,aY] at h
          by_cases c5:5 = q
          · exact .inl c5.symm
          by_cases c6:6 = q
          · exact .inr (.inl c6.symm)
          by_cases c11:11 = q
          · exact .inr (.inr c11.symm)
          rw [if_neg c5,if_neg c6,if_neg c11] at h
          cases h
        have ev:cA B a' q = cA B a q:=by
          rw [jP (by omega),jP (by omega)]
          exact hsl q hq
        rw [ev]
        exact ⟨fun hc=>hE (h1 hc),fun hh=>h2 hh⟩
      · have:=hs.base.size
        exact (hb.block k (by omega)).trans (hs.base.block k hk hm)
  next=>cases hy
theorem Kj (fid:FuncId) (c:Code) (hc:c = ai Tryz.f11) (ins:Tm) (out:cq) (cuts:List (Nat × Tm)):Ix Tryz.prog { fid:=fid,fn:=Tryz.f11,c:=c,ins:=ins,out:=out,cuts:=cuts,hd:=[(130707,⟨Ce,Ce,fun x=>oR x⟩)] }:=by
  subst hc
  intro π h hl cc hcc s y hy
  have hl:(bif Nat.beq 130707 π then some (⟨Ce,Ce,fun x=>oR x⟩:zN) else none) = some h:=hl
  cases hb:Nat.beq 130707 π with
  | false=>rw [hb] at hl;cases hl
  | true =>
    have:=Nat.eq_of_beq_eq_true hb
    subst this
    rw [hb,cond_true] at hl
    cases hl
    have:=HZ s y hy hcc
    show bh _ _ _ (fun e σ'=>e = .normal∧σ' = mq Ce y) (mq Ce s)
    rw [G5,G5]
    exact this
end Go.Ax
