import Derived.Test.YtgamnldjlncdlaaGreatZL159
set_option linter.all false
/- The days that a state credits. -/
set_option maxRecDepth 100000
namespace Go.Ax
open Go.Proofs
noncomputable def jm (l:List ae) (kind s:Int) (past:ab) (limit:Int):List ab :=
  if kind = 10 then cy (mD l s past limit) else og limit (da (da (dP l kind s) (fq l)) past)
theorem FR (l:List ae) (kind s:Int) (past:ab) (limit:Int):(jm l kind s past limit).length≤73050:=by
  unfold jm
  split
  · exact J3 (cE _).1
  · exact Nat.le_trans (OJ _ _) (iD _ _)
theorem IO {T:Type} (g:T→List ab) (d:Int):∀ l:List T,dD (l.flatMap g) d↔∃ x∈l,dD (g x) d
  | []=>by simp [dD]
  | x :: r=>by rw [List.flatMap_cons,rt,IO g d r]; simp
theorem H9 {l:List ae} {k s:Int} {x:ab}:x∈dP l k s↔∃ f∈l,cr f = true∧f.Kind = k∧f.State = s∧f.Span = x:=by
  unfold dP uh
  simp only [List.mem_map,List.mem_filter,Bool.and_eq_true,beq_iff_eq]
  constructor
  · rintro ⟨f,⟨⟨h1,h2⟩,h3,h4⟩,h5⟩; exact ⟨f,h1,h2,h3,h4,h5⟩
  · rintro ⟨f,h1,h2,h3,h4,h5⟩; exact ⟨f,⟨⟨h1,h2⟩,h3,h4⟩,h5⟩
theorem IU {l:List ae} {s r:Int} {x:ab}:x∈ka (l.filter cr) s r↔∃ f∈l,cr f = true∧f.Kind = 10∧f.State = s∧f.Ref = r∧f.Span = x:=by
  unfold ka LY
  simp only [List.mem_map,List.mem_filter,Bool.and_eq_true,beq_iff_eq]
  constructor
  · rintro ⟨f,⟨⟨h1,h2⟩,⟨h3,h4⟩,h6⟩,h5⟩; exact ⟨f,h1,h2,h3,h4,h6,h5⟩
  · rintro ⟨f,h1,h2,h3,h4,h6,h5⟩; exact ⟨f,⟨⟨h1,h2⟩,⟨h3,h4⟩,h6⟩,h5⟩
theorem UG {f:ae} (h:cr f = true) (hk:f.Kind = 10):1≤f.Ref∧f.Ref≤99:=by
  unfold cr at h
  have hv:jH f = true:=by
    cases hh:jH f with
    | true=>rfl
    | false=>rw [hh] at h; cases h
  rw [sa] at hv
  have hr:dz (fE f.Kind 82) f.Ref 1 99 = true:=hv.2.2.2.2.2.2.2.2.2.2.2.1
  rw [hk,show fE 10 82 = true from by kernel_rfl] at hr
  unfold dz at hr
  rw [if_pos rfl,Ii] at hr
  exact hr
theorem Gu (l:List ae) (s:Int) (past:ab):cy (mD l s past 0) = da (da (dP l 10 s) (fq l)) past:=by
  refine wd (cE _).1 (fW _ _).1 fun d=>?_
  rw [(cE _).2.1,(fW _ _).2,(fW _ _).2]
  unfold mD
  rw [IO]
  constructor
  · rintro ⟨⟨i,hi,hd⟩,h0,h1⟩
    unfold fR at hd
    split at hd
    · unfold og at hd
      rw [if_pos rfl,(fW _ _).2,(fW _ _).2] at hd
      obtain ⟨⟨⟨⟨⟨x,hx,hxd⟩,h2⟩,_⟩,h3⟩,_⟩:=hd
      obtain ⟨f,f1,f2,f3,f4,f5,f6⟩:=IU.1 hx
      exact ⟨⟨⟨⟨⟨x,H9.2 ⟨f,f1,f2,f3,f4,f6⟩,hxd⟩,h2⟩,h0,h1⟩,h3⟩,h0,h1⟩
    · exact absurd hd dp
  · rintro ⟨⟨⟨⟨⟨x,hx,hxd⟩,h2⟩,_⟩,h3⟩,h0,h1⟩
    obtain ⟨f,f1,f2,f3,f4,f6⟩:=H9.1 hx
    obtain ⟨r1,r2⟩:=UG f2 f3
    refine ⟨⟨(f.Ref - 1).toNat,List.mem_range.2 (by omega), ?_⟩,h0,h1⟩
    have e:(((f.Ref - 1).toNat:Nat):Int)+1 = f.Ref:=by omega
    have hx':x∈ka (l.filter cr) s f.Ref:=IU.2 ⟨f,f1,f2,f3,f4,rfl,f6⟩
    rw [e]
    unfold fR
    rw [if_pos (List.length_pos_of_mem hx')]
    unfold og
    rw [if_pos rfl,(fW _ _).2,(fW _ _).2]
    exact ⟨⟨⟨⟨⟨x,hx',hxd⟩,h2⟩,h0,h1⟩,h3⟩,h0,h1⟩
end Go.Ax
