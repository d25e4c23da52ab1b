import Derived.Test.YtbjfcadcipfolaaGreatZB16
import Derived.Maps.AppendAt
import Derived.WideKeyEntry
set_option linter.all false
/- Pieces that are walked by hand: what a run leaves alone, loops, beginnings of regions. -/
namespace Go.Ax
open Go.RowKit Go.MapKept
structure Fr (E:ar) (w:World) (E':ar) (w':World):Prop where
  size:w.heap.size≤w'.heap.size
  keep:∀ b,b < w.heap.size→¬ E.ok b→(∀ q,E.live q→E.conc q≠some b)→w'.heap[b]? = w.heap[b]?∧¬ E'.ok b∧∀ q,E'.live q→E'.conc q≠some b
theorem Fr.refl (E:ar) (w:World):Fr E w E w:=⟨Nat.le_refl _,fun _ _ h1 h2=>⟨rfl,h1,h2⟩⟩
theorem Fr.trans {E E1 E2:ar} {w w1 w2:World} (h:Fr E w E1 w1) (h':Fr E1 w1 E2 w2):Fr E w E2 w2:=by
 refine ⟨Nat.le_trans h.size h'.size,fun b hb h1 h2=>?_⟩
 obtain ⟨a1,a2,a3⟩:=h.keep b hb h1 h2
 obtain ⟨b1,b2,b3⟩:=h'.keep b (Nat.lt_of_lt_of_le hb h.size) a2 a3
 exact ⟨b1.trans a1,b2,b3⟩
def Ak (B:eL) (E:ar) (w:World):eL:=⟨w,E.ok,fun b=>∃ q,E.live q∧E.conc q = some b,B.gh⟩
section
variable {P:Program} {N:Nat} {B:eL} {σ σ':St} {E E':ar} {a a':Act} {w w':World} {c:Code} {K K':Exit→St→Prop}
theorem bd.base0 (hs:bd N B σ E a w):bd N (Ak B E w) σ E a w :=
 ⟨hs.size,hs.small,hs.defers,hs.live,hs.heap,hs.slots, .refl _ _ _,fun o b h1 h2=>.inr ⟨o,h1,h2⟩,fun b h=>.inl h⟩
theorem bd.rebase (hs:bd N B σ E a w) (hs':bd N (Ak B E w) σ' E' a' w'):bd N B σ' E' a' w'∧Fr E w E' w':=by
 have hmb:∀ b,(Ak B E w).mb b→B.W.heap.size≤b∨B.mb b:=by
  rintro b ⟨q,h1,h2⟩
  exact hs.own q b h1 h2
 have hsz:(Ak B E w).W.heap.size = w.heap.size:=rfl
 have hws:=hs.base.size
 refine ⟨⟨hs'.size,hs'.small,hs'.defers,hs'.live,hs'.heap,hs'.slots,⟨hs'.base.os.trans hs.base.os,hs'.base.tape.trans hs.base.tape,hs'.base.output.trans hs.base.output,Nat.le_trans hws hs'.base.size,fun k hk hm=>?_⟩,fun o b h1 h2=>?_,fun b h=>?_⟩,hs'.base.size,fun b hb h1 h2=>?_⟩
 ·refine (hs'.base.block k (by rw [hsz];omega) fun hm'=>?_).trans (hs.base.block k hk hm)
  rcases hmb k hm' with h | h
  ·omega
  ·exact hm h
 ·rcases hs'.own o b h1 h2 with h | h
  ·rw [hsz] at h;exact .inl (by omega)
  ·exact hmb b h
 ·rcases hs'.okold b h with h | h | h
  ·exact hs.okold b h
  ·rw [hsz] at h;exact .inr (.inl (by omega))
  ·exact .inr (hmb b h)
 ·have hnm:¬ (Ak B E w).mb b:=fun ⟨q,g1,g2⟩=>h2 q g1 g2
  refine ⟨hs'.base.block b (by rw [hsz];exact hb) hnm,fun h=>?_,fun q g1 g2=>?_⟩
  ·rcases hs'.okold b h with h | h | h
   ·exact h1 h
   ·rw [hsz] at h;omega
   ·exact hnm h
  ·rcases hs'.own q b g1 g2 with h | h
   ·rw [hsz] at h;omega
   ·exact hnm h
theorem bh.fr (h:bh P N c K σ) (hs:bd N B σ E a w):c.wp P (fun e a' w'=>∃ σ' E',K e σ'∧bd N B σ' E' a' w'∧Fr E w E' w') a w:=by
 refine wp_mono (h.ok _ _ _ _ hs.base0) ?_
 rintro e a' w' ⟨σ',E',hk,hs'⟩
 obtain ⟨h1,h2⟩:=hs.rebase hs'
 exact ⟨σ',E',hk,h1,h2⟩
theorem cO.fr (h:cO σ σ') (hs:bd N B σ E a w):∃ E',bd N B σ' E' a w∧Fr E w E' w:=by
 obtain ⟨E',hs'⟩:=h.sim _ _ _ _ _ hs.base0
 exact ⟨E',hs.rebase hs'⟩
theorem bh.post (h:bh P N c K σ) (hk:∀ e σ1,K e σ1→∃ σ2,cO σ1 σ2∧K' e σ2):bh P N c K' σ:=by
 refine .of_wp fun B E a w hs=>wp_mono (h.ok B E a w hs) ?_
 rintro e a' w' ⟨σ1,E1,h1,h2⟩
 obtain ⟨σ2,he,hk2⟩:=hk e σ1 h1
 obtain ⟨E2,hs2⟩:=he.sim _ _ _ _ _ h2
 exact ⟨σ2,E2,hk2,hs2⟩
end
theorem yo {P:Program} {c:Code} {Q:Exit→Act→World→Prop} (I:Nat→Act→World→Prop) (h:∀ m a w,I m a w→c.wp P (fun e a w=>(e = .normal∧∃ m',m' < m∧I m' a w)∨(e≠.normal∧Q e a w)) a w) :
  ∀ (m:Nat) (a:Act) (w:World),I m a w→(Code.loop c).wp P Q a w:=by
 intro m a w hm b k cs
 have key:∀ m a w,I m a w→∃ e a' w',Q e a' w'∧Arrives P (lone (b.at a (.code c :: .inLoop c :: k)) cs w) b k cs e a' w':=by
  intro m
  induction m using Nat.strongRecOn with
  | _ m ih =>
   intro a w hm
   obtain ⟨e,a₁,w₁,hk,harr⟩:=h m a w hm b (.inLoop c :: k) cs
   rcases hk with ⟨rfl,m',hlt,hI⟩ | ⟨hne,hq⟩
   ·obtain ⟨e₂,a₂,w₂,hq₂,harr₂⟩:=ih m' hlt a₁ w₁ hI
    exact ⟨e₂,a₂,w₂,hq₂, .of_steps (Steps.trans harr (.one step_inLoop)) harr₂⟩
   ·cases e with
    | normal=>exact (hne rfl).elim
    | exit id=>exact ⟨_,a₁,w₁,hq, .pass (x:=.inLoop c) rfl (fun _ _=>.inl (by simp)) harr⟩
    | goto l=>exact ⟨_,a₁,w₁,hq, .pass (x:=.inLoop c) rfl (fun _ _=>.inl (by simp)) harr⟩
    | ret=>exact ⟨_,a₁,w₁,hq, .pass (x:=.inLoop c) rfl (fun _ _=>.inl (by simp)) harr⟩
    | panic ch=>exact ⟨_,a₁,w₁,hq, .pass (x:=.inLoop c) rfl (fun _ _=>.inl (by simp)) harr⟩
    | outgrown=>exact ⟨_,a₁,w₁,hq, .pass (x:=.inLoop c) rfl (fun _ _=>.inl (by simp)) harr⟩
 obtain ⟨e,a',w',hq,harr⟩:=key m a w hm
 exact ⟨e,a',w',hq, .of_steps (.one step_loop) harr⟩
end Go.Ax
