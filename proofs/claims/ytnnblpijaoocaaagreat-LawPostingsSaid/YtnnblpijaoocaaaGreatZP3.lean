import Derived.Test.YtnnblpijaoocaaaGreatZP2
set_option linter.all false
/- The reading of statutes ends. -/
set_option maxRecDepth 100000
namespace Go.Ax
abbrev Rd:=GPensionref5_reader
def RI (r:Rd):Prop:=0≤r.at_∧r.at_≤(r.l.length:Int)∧r.l.length≤8000∧∀ t∈r.l,KD t
structure RN (r r':Rd):Prop where
  ok:RI r'
  l:r'.l = r.l
  le:r.at_≤r'.at_
  bad:r.bad = true→r'.bad = true
def PG (r r':Rd):Prop:=r'.bad = true∨r.at_ < r'.at_
theorem RN.refl {r:Rd} (h:RI r):RN r r:=⟨h,rfl,Int.le_refl _,fun h=>h⟩
theorem RN.trans {a b c:Rd} (h:RN a b) (h':RN b c):RN a c:=⟨h'.ok,h'.l.trans h.l,Int.le_trans h.le h'.le,fun hb=>h'.bad (h.bad hb)⟩
theorem PG.right {a b c:Rd} (h:PG a b) (h':RN b c):PG a c:=h.elim (fun hb=>.inl (h'.bad hb)) fun hl=>.inr (Int.lt_of_lt_of_le hl h'.le)
theorem PG.left {a b c:Rd} (h':RN a b) (h:PG b c):PG a c:=h.elim .inl fun hl=>.inr (Int.lt_of_le_of_lt h'.le hl)
theorem wG.of {op:Int} {v:GFraction} {d:Int} {nm:ByteArray} {l:List GExpr} (h1:nm.size≤8000) (h2:l.length≤3) (h3:∀ a∈l,wG a):wG ⟨op,v,d,nm,l⟩:=.mk _ h1 h2 h3
def left (n:Int) (r:Rd):Nat:=(10*((r.l.length:Int) - r.at_)+(9 - n)).toNat
end Go.Ax
