import Derived.Test.YtbjfcadcipfolaaGreatYP7
set_option linter.all false
/- Bytes and the numbers that they stand for. -/
set_option maxRecDepth 100000
namespace Go.Ax
def aG (b:List Int):Prop:=∀ x∈b,0≤x∧x < 256
def s9 (a:Int) (b:List Int):Int:=b.foldl (fun v x=>v*256+x) a
def aC (b:List Int):Int:=s9 0 b
def am (v:Int):Nat→List Int
 | 0=>[]
 | n+1=>(v / 256 ^ n) % 256 :: am v n
theorem pl:aG []:=by intro x hx;simp at hx
theorem cT {x:Int} {b:List Int}:aG (x :: b)↔(0≤x∧x < 256)∧aG b:=by simp [aG]
theorem bC {a b:List Int}:aG (a++b)↔aG a∧aG b:=by
 constructor
 ·exact fun h=>⟨fun x hx=>h x (List.mem_append_left _ hx),fun x hx=>h x (List.mem_append_right _ hx)⟩
 ·rintro ⟨h1,h2⟩ x hx
  rcases List.mem_append.1 hx with hx | hx
  ·exact h1 x hx
  ·exact h2 x hx
theorem aG.take {b:List Int} (h:aG b) (n:Nat):aG (b.take n):=fun x hx=>h x (List.mem_of_mem_take hx)
theorem aG.drop {b:List Int} (h:aG b) (n:Nat):aG (b.drop n):=fun x hx=>h x (List.mem_of_mem_drop hx)
theorem aG.sub {b:List Int} (h:aG b) (o n:Nat):aG (af b o n):=(h.drop o).take n
theorem aG.gD {b:List Int} (h:aG b) (i:Nat):0≤gD b i 0∧gD b i 0 < 256:=by
 show 0≤b.getD i 0∧b.getD i 0 < 256
 rw [List.getD_eq_getElem?_getD]
 cases hx:b[i]? with
 | none=>simp
 | some x=>exact h x (List.mem_of_getElem? hx)
theorem Nj (a x:Int) (b:List Int):s9 a (x :: b) = s9 (a*256+x) b:=rfl
theorem Aj:∀ (b:List Int) (a:Int),s9 a b = a*256 ^ b.length+aC b
 | [],a=>by simp [s9,aC]
 | x :: b,a=>by
  have e:aC (x :: b) = s9 x b:=by show s9 (0*256+x) b = _;rw [Int.zero_mul,Int.zero_add]
  rw [Nj,Aj b,e,Aj b x,List.length_cons,Int.pow_succ]
  generalize (256:Int) ^ b.length = p
  rw [Int.add_mul,Int.mul_assoc,Int.mul_comm 256 p,Int.add_assoc]
theorem yw (x:Int) (b:List Int):aC (x :: b) = x*256 ^ b.length+aC b:=by
 rw [← Aj]
 show s9 (0*256+x) b = _
 rw [Int.zero_mul,Int.zero_add]
theorem OI (a b:List Int):aC (a++b) = aC a*256 ^ b.length+aC b:=by
 rw [← Aj]
 show List.foldl _ _ _ = _
 rw [List.foldl_append];rfl
theorem rI (n:Nat):(0:Int) < 256 ^ n:=Int.pow_pos (by omega)
theorem wn:∀ {b:List Int},aG b→0≤aC b∧aC b < 256 ^ b.length
 | [],_=>by simp [aC,s9]
 | x :: b,h=>by
  obtain ⟨hx,hb⟩:=cT.1 h
  obtain ⟨h1,h2⟩:=wn hb
  rw [yw,List.length_cons,Int.pow_succ]
  have hp:=rI b.length
  generalize (256:Int) ^ b.length = p at *
  have h3:0≤x*p:=Int.mul_nonneg hx.1 (by omega)
  have h4:x*p≤255*p:=Int.mul_le_mul_of_nonneg_right (by omega) (by omega)
  omega
theorem lF {b:List Int} (h:aG b) {n:Nat} (hn:b.length≤n) {B:Int} (hB:256 ^ n≤B):0≤aC b∧aC b < B:=by
 obtain ⟨h1,h2⟩:=wn h
 have:(256:Int) ^ b.length≤256 ^ n:=by
  have h3:(256:Nat) ^ b.length≤256 ^ n:=Nat.pow_le_pow_right (by omega) hn
  exact_mod_cast h3
 omega
theorem av (v:Int):∀ n:Nat,(am v n).length = n
 | 0=>rfl
 | n+1=>by rw [am,List.length_cons,av v n]
theorem aW (v:Int):∀ n:Nat,aG (am v n)
 | 0=>pl
 | n+1=>cT.2 ⟨⟨Int.emod_nonneg _ (by omega),Int.emod_lt_of_pos _ (by omega)⟩,aW v n⟩
theorem oZ (v:Int):∀ n:Nat,aC (am v n) = v % 256 ^ n
 | 0=>by show (0:Int) = v % 1;omega
 | n+1=>by
  rw [am,yw,av,oZ v n,Int.pow_succ]
  have hp:=rI n
  generalize (256:Int) ^ n = p at *
  have h1:v % (p*256) = v % p+p*(v / p % 256):=by
   rw [Int.emod_def v (p*256), ← Int.ediv_ediv_of_nonneg (by omega:(0:Int)≤p),Int.emod_def v p,Int.emod_def (v / p) 256,Int.mul_sub,Int.mul_assoc]
   omega
  rw [h1,Int.mul_comm,Int.add_comm]
theorem KW:∀ (b:List Int) (a:Int),aG b→am (a*256 ^ b.length+aC b) b.length = b
 | [],_,_=>rfl
 | x :: b,a,h=>by
  obtain ⟨hx,hb⟩:=cT.1 h
  obtain ⟨h1,h2⟩:=wn hb
  rw [List.length_cons,am,yw]
  have hp:=rI b.length
  have e:a*256 ^ (b.length+1)+(x*256 ^ b.length+aC b) = (a*256+x)*256 ^ b.length+aC b:=by
   rw [Int.pow_succ,Int.add_mul,Int.mul_assoc,Int.mul_comm 256 (256 ^ b.length),Int.add_assoc]
  rw [e,KW b _ hb]
  congr 1
  rw [Int.add_comm,Int.add_mul_ediv_right _ _ (by omega),Int.ediv_eq_zero_of_lt h1 h2]
  omega
theorem mQ {b:List Int} (h:aG b):am (aC b) b.length = b:=by
 have:=KW b 0 h
 rwa [Int.zero_mul,Int.zero_add] at this
theorem K6 {v:Int} (h:0≤v) (h':v < 256):am v 1 = [v]:=by
 show [v / 256 ^ 0 % 256] = [v]
 rw [Int.pow_zero,Int.ediv_one]
 congr 1;omega
theorem n9 (n:Int):IntKind.wrap .u8 n = n % 256:=by
 simp only [IntKind.wrap,IntKind.bits,IntKind.signed]
 simp
theorem PZ (n:Int):IntKind.wrap .u32 n = n % 4294967296:=by
 simp only [IntKind.wrap,IntKind.bits,IntKind.signed]
 simp
theorem Ch {n:Int} (h:0≤n) (h':n < 256):IntKind.wrap .u8 n = n:=by rw [n9];omega
theorem fw {n:Int} (h:0≤n) (h':n < 4294967296):IntKind.wrap .u32 n = n:=by rw [PZ];omega
theorem RB {k:Nat} (h:k≤7):p2 (8*(k:Int)) 64 = 256 ^ k:=by
 show (2:Int) ^ min (8*(k:Int)).toNat 64 = 256 ^ k
 have e:min (8*(k:Int)).toNat 64 = 8*k:=by omega
 rw [e,Int.pow_mul]
 rfl
theorem wR (v:Int) {k:Nat} (h:k≤7):IntKind.wrap .u8 (Int.fdiv v (p2 (8*(k:Int)) 64)) = (v / 256 ^ k) % 256:=by
 rw [RB h,n9,Int.fdiv_eq_ediv_of_nonneg _ (by have:=rI k;omega)]
theorem KO {v x:Int} (h0:0≤v) (h1:v < 36028797018963968) (h2:0≤x) (h3:x < 256):ac (s6 64 (ac (v*256)) (ac x)) = v*256+x:=by
 rw [aA (n:=v*256) (by omega) (by omega),aA (n:=x) (by omega) (by omega)]
 have e:s6 64 (v*256) x = v*256+x:=by
  show ((BitVec.ofInt 64 (v*256) ||| BitVec.ofInt 64 x).toNat:Int) = _
  obtain ⟨a,rfl⟩:=Int.eq_ofNat_of_zero_le h0
  obtain ⟨c,rfl⟩:=Int.eq_ofNat_of_zero_le h2
  have e1:(BitVec.ofInt 64 ((a:Int)*256)).toNat = a <<< 8:=by
   rw [BitVec.toNat_ofInt,Nat.shiftLeft_eq]
   omega
  have e2:(BitVec.ofInt 64 (c:Int)).toNat = c:=by
   rw [BitVec.toNat_ofInt]
   omega
  rw [BitVec.toNat_or,e1,e2, ← Nat.shiftLeft_add_eq_or_of_lt (by omega:c < 2 ^ 8),Nat.shiftLeft_eq]
  omega
 rw [e,aA (by omega) (by omega)]
theorem Pe {b:List Int} (h:aG b) (hl:b.length≤7) (i:Nat) (hi:i < b.length):0≤aC (b.take i)∧aC (b.take i) < 36028797018963968:=by
 have h1:=wn (h.take i)
 have h2:(b.take i).length≤6:=by rw [List.length_take];omega
 have:=lF (h.take i) h2 (B:=281474976710656) (by decide)
 omega
theorem xJ {R:Type} (F:Int→Int→Option R) (b:List Int) (h:aG b) (hl:b.length≤7)
  (hF:∀ (i:Nat) (v:Int),i < b.length→F v i = F (ac (s6 64 (ac (v*256)) (ac (gD b i 0)))) ((i+1:Nat):Int)):F 0 0 = F (aC b) (b.length:Int):=by
 have key:∀ (n i:Nat),b.length = i+n→F (aC (b.take i)) (i:Int) = F (aC b) (b.length:Int):=by
  intro n
  induction n with
  | zero =>
   intro i hi
   have:i = b.length:=by omega
   subst this
   rw [List.take_length]
  | succ n ih =>
   intro i hi
   have hlt:i < b.length:=by omega
   obtain ⟨h1,h2⟩:=Pe h hl i hlt
   have h3:=h.gD i
   rw [hF i _ hlt,KO h1 h2 h3.1 h3.2]
   have e:aC (b.take i)*256+gD b i 0 = aC (b.take (i+1)):=by
    rw [List.take_succ,List.getElem?_eq_getElem hlt]
    show _ = aC (b.take i++[b[i]])
    rw [OI,show gD b i 0 = b[i] by show b.getD i 0 = _;rw [List.getD_eq_getElem?_getD,List.getElem?_eq_getElem hlt];rfl]
    show _ = aC (b.take i)*256 ^ 1+(0*256+b[i])
    omega
   rw [e]
   exact ih (i+1) (by omega)
 exact key b.length 0 (by omega)
theorem bE {b:List Int} (h:aG b) (hl:b.length≤7):cb b = some (aC b):=by
 rw [IY,xJ (fun v i=>gK b v i) b h hl fun i v hi=>?_]
 ·show gK b _ _ = _
  rw [sr,cV,cond_false]
 ·show gK b v i = _
  rw [sr,cA hi,bu,cond_true,an,an,bW hi (by omega),Int.toNat_natCast]
theorem jz {b:List Int} (h:aG b) (hl:b.length≤7):cw b = some (aC b):=by
 rw [Dv,xJ (fun v i=>eh b v i) b h hl fun i v hi=>?_]
 ·show eh b _ _ = _
  rw [oU,cV,cond_false]
 ·show eh b v i = _
  rw [oU,cA hi,bu,cond_true,an,an,bW hi (by omega),Int.toNat_natCast]
theorem wY (b:List Int) {n:Int} (h0:0≤n):af b 0 (n - 0).toNat = b.take n.toNat:=by
 unfold af;rw [List.drop_zero];congr 1;omega
theorem jI {T:Type} (b:List T) {n:Int} (h0:0≤n) (h1:n≤(b.length:Int)):af b n.toNat ((b.length:Int) - n).toNat = b.drop n.toNat:=by
 unfold af;rw [List.take_of_length_le];rw [List.length_drop];omega
theorem Bt {n:Nat} {b:List Int} (h:aG b) (hn:n≤7) (hb:n≤b.length) (hB:b.length≤1000000000000):aq (n:Int) ⟨b⟩ = some (aC (b.take n),⟨b.drop n⟩):=by
 have e:af b 0 ((n:Int) - 0).toNat = b.take n:=by rw [wY b (by omega),Int.toNat_natCast]
 rw [tk,ab (by omega),ab (by show (n:Int)≤(b.length:Int);omega),e]
 have hl:(b.take n).length≤7:=by rw [List.length_take];omega
 have hx:=xJ (fun v i=>bY (n:Int) v (b.take n) ((b.take n).length:Int) i ⟨b⟩) (b.take n) (h.take n) hl fun i v hi=>by
  show bY _ v _ _ _ _ = _
  rw [jl,cA hi,bu,cond_true,an,an,bW hi (by omega),Int.toNat_natCast]
 rw [hx]
 show bY _ _ _ _ _ _ = _
 rw [jl,cV,cond_false,ab (by omega),ab (by show (n:Int)≤(b.length:Int);omega),ab (by omega)]
 show some (_,(⟨af b _ _⟩:GDocument_reader)) = _
 rw [jI b (by omega) (by omega),Int.toNat_natCast]
theorem pk {n:Nat} {b:List Int} {s:Bool} (h:aG b) (hn:n≤7) (hB:b.length≤1000000000000):ao (n:Int) ⟨b,s⟩ = some (if n≤b.length then (aC (b.take n),⟨b.drop n,s⟩) else (0,⟨b,true⟩)):=by
 rw [yb]
 by_cases hb:n≤b.length
 ·rw [aX (by show ¬ ((b.length:Int) < (n:Int));omega),cond_false,if_pos hb]
  have e:af b 0 ((n:Int) - 0).toNat = b.take n:=by rw [wY b (by omega),Int.toNat_natCast]
  rw [ab (by omega),ab (by show (n:Int)≤(b.length:Int);omega),e]
  have hl:(b.take n).length≤7:=by rw [List.length_take];omega
  have hx:=xJ (fun v i=>cO (n:Int) v (b.take n) ((b.take n).length:Int) i ⟨b,s⟩) (b.take n) (h.take n) hl fun i v hi=>by
   show cO _ v _ _ _ _ = _
   rw [kX,cA hi,bu,cond_true,an,an,bW hi (by omega),Int.toNat_natCast]
  rw [hx]
  show cO _ _ _ _ _ _ = _
  rw [kX,cV,cond_false,ab (by omega),ab (by show (n:Int)≤(b.length:Int);omega),ab (by omega)]
  show some (_,(⟨af b _ _,s⟩:GFact_reader)) = _
  rw [jI b (by omega) (by omega),Int.toNat_natCast]
 ·rw [aT (by show ((b.length:Int) < (n:Int));omega),cond_true,if_neg hb]
theorem sW {R:Type} (F:Int→List Int→Option R) (v:Int) (G:List Int→Option R) (hG:∀ b,F (-1) b = G b)
  (hF:∀ (k:Nat) (b:List Int),k≤7→b.length≤1000000000000→F (k:Int) b = F ((k:Int) - 1) (b++[(v / 256 ^ k) % 256])):∀ (n:Nat) (b:List Int),n≤8→b.length≤1000000000+(8 - n)→F ((n:Int) - 1) b = G (b++am v n)
 | 0,b,_,_=>by rw [show ((0:Nat):Int) - 1 = -1 by omega,hG];simp [am]
 | n+1,b,hn,hb=>by
  rw [show ((n+1:Nat):Int) - 1 = (n:Int) by omega,hF n b (by omega) (by omega),sW F v G hG hF n _ (by omega) (by rw [List.length_append,List.length_singleton];omega),am]
  simp
theorem wQ (k:Nat) (h:k≤7):ac ((k:Int) - 1) = (k:Int) - 1:=aA (by omega) (by omega)
theorem GV (k:Nat) (h:k≤7):ac (8*(k:Int)) = 8*(k:Int):=aA (by omega) (by omega)
theorem PD (k:Nat) (h:k≤7):IntKind.wrap .u64 (8*(k:Int)) = 8*(k:Int):=Rn (by omega) (by omega)
theorem gJ (v:Int) {n:Nat} (hn:n≤8):aQ v (n:Int) = some (am v n):=by
 rw [Hj,show ac ((n:Int) - 1) = (n:Int) - 1 from aA (by omega) (by omega)]
 have:=sW (fun i b=>gG v i b) v some (fun b=>by
  show gG v (-1) b = _
  rw [sH,aX (by omega),cond_false]) (fun k b hk hb=>by
  show gG v k b = _
  rw [sH,bu,cond_true,GV k hk,PD k hk,ab (by omega),ab (by omega),ab (by omega),wR v hk,wQ k hk]) n [] hn (by simp)
 rw [this];simp
theorem fm (v:Int) {n:Nat} (hn:n≤8) (b:List Int) (hb:b.length≤1000000000):aP v (n:Int) b = some (b++am v n):=by
 rw [Cq,show ac ((n:Int) - 1) = (n:Int) - 1 from aA (by omega) (by omega)]
 exact sW (fun i b=>en v i b) v some (fun b=>by
  show en v (-1) b = _
  rw [oQ,aX (by omega),cond_false]) (fun k b hk hb=>by
  show en v k b = _
  rw [oQ,bu,cond_true,GV k hk,PD k hk,ab (by omega),ab (by omega),ab (by omega),wR v hk,wQ k hk]) n b hn (by omega)
theorem nS (v:Int) {n:Nat} (hn:n≤8) (b:List Int) (hb:b.length≤1000000000):aS v (n:Int) b = some (b++am v n):=by
 rw [vL,show ac ((n:Int) - 1) = (n:Int) - 1 from aA (by omega) (by omega)]
 exact sW (fun i b=>cE v i b) v some (fun b=>by
  show cE v (-1) b = _
  rw [kx,aX (by omega),cond_false]) (fun k b hk hb=>by
  show cE v k b = _
  rw [kx,bu,cond_true,GV k hk,ab (by omega),ab (by omega),ab (by omega),wR v hk,wQ k hk]) n b hn (by omega)
theorem FS (l:List (List Int)) (i:Nat) (hi:i < l.length):(l.take (i+1)).flatten = (l.take i).flatten++l[i]:=by
 rw [List.take_succ,List.getElem?_eq_getElem hi,List.flatten_append];simp
theorem o3 (l:List (List Int)) (hl:l.flatten.length≤1000000000) (hn:l.length≤1000000):it l = some l.flatten:=by
 rw [GG]
 have key:∀ (n i:Nat),l.length = i+n→lN l (i:Int) (l.take i).flatten = some l.flatten:=by
  intro n
  induction n with
  | zero =>
   intro i hi
   have:i = l.length:=by omega
   subst this
   rw [qU,cV,cond_false,List.take_length]
  | succ n ih =>
   intro i hi
   have hlt:i < l.length:=by omega
   have hle:(l.take (i+1)).flatten.length≤l.flatten.length:=by
    conv=>rhs;rw [← List.take_append_drop (i+1) l,List.flatten_append,List.length_append]
    omega
   rw [FS l i hlt,List.length_append] at hle
   rw [qU,cA hlt,bu,cond_true,an,an,cd hlt,ab (by omega),ab (by omega),bW hlt (by omega), ← FS l i hlt]
   exact ih (i+1) (by omega)
 exact key l.length 0 (by omega)
end Go.Ax
set_option linter.all false
/- The checksum: bit by bit, and by a table;it is linear, and it shows a change of one byte. -/
set_option maxRecDepth 100000
namespace Go.Ax
abbrev fx:=BitVec 32
def wA:fx:=3988292384#32
def nP (x:fx):fx:=(x >>> 1) ^^^ (if x.getLsbD 0 then wA else 0#32)
def ul:Nat→fx→fx
 | 0,x=>x
 | n+1,x=>ul n (nP x)
theorem HM (n:Nat):∀ x:fx,ul (n+1) x = nP (ul n x):=by
 induction n with
 | zero=>intro x;rfl
 | succ n ih=>intro x;rw [ul,ih (nP x), ← ul]
theorem HB (a b:fx):nP (a ^^^ b) = nP a ^^^ nP b:=by
 unfold nP
 rw [BitVec.ushiftRight_xor_distrib,BitVec.getLsbD_xor]
 have e:(if (a.getLsbD 0 ^^ b.getLsbD 0) = true then wA else 0#32) = (if a.getLsbD 0 = true then wA else 0#32) ^^^ (if b.getLsbD 0 = true then wA else 0#32):=by
  cases a.getLsbD 0 <;> cases b.getLsbD 0 <;> simp
 rw [e]
 generalize (if a.getLsbD 0 = true then wA else 0#32) = p
 generalize (if b.getLsbD 0 = true then wA else 0#32) = q
 rw [BitVec.xor_assoc,BitVec.xor_assoc]
 congr 1
 rw [← BitVec.xor_assoc,BitVec.xor_comm (b >>> 1) p,BitVec.xor_assoc]
def gx (k:Nat) (y:fx):fx:=y &&& BitVec.ofNat 32 (2 ^ k - 1)
theorem mV (k:Nat) (y:fx) (i:Nat):(gx k y).getLsbD i = (y.getLsbD i&&decide (i < k)):=by
 unfold gx
 rw [BitVec.getLsbD_and,BitVec.getLsbD_ofNat,Nat.testBit_two_pow_sub_one]
 by_cases h:i < 32
 ·simp [h]
 ·rw [BitVec.getLsbD_of_ge y i (by omega)];simp
theorem OS {k:Nat} (y:fx):gx k (gx (k+1) y) = gx k y:=by
 apply BitVec.eq_of_getLsbD_eq
 intro i hi
 rw [mV,mV,mV]
 by_cases h:i < k
 ·simp [h,show i < k+1 by omega]
 ·simp [h]
theorem Pl (k:Nat) (y:fx):gx (k+1) y >>> k = gx 1 (y >>> k):=by
 apply BitVec.eq_of_getLsbD_eq
 intro i hi
 rw [BitVec.getLsbD_ushiftRight,mV,mV,BitVec.getLsbD_ushiftRight]
 congr 1
 by_cases h:i < 1
 ·simp [h]
 ·simp [h]
theorem OQ (z:fx):nP z = (z >>> 1) ^^^ nP (gx 1 z):=by
 have h1:gx 1 z >>> 1 = 0#32:=by
  apply BitVec.eq_of_getLsbD_eq
  intro i hi
  rw [BitVec.getLsbD_ushiftRight,mV]
  simp
 have h2:(gx 1 z).getLsbD 0 = z.getLsbD 0:=by rw [mV];simp
 unfold nP
 rw [h1,h2,BitVec.zero_xor]
theorem Qn (k:Nat):∀ y:fx,ul k y = (y >>> k) ^^^ ul k (gx k y):=by
 induction k with
 | zero =>
  intro y
  have:gx 0 y = 0#32:=by unfold gx;simp
  rw [this]
  show y = (y >>> 0) ^^^ 0#32
  simp
 | succ k ih =>
  intro y
  rw [HM,ih y,HB,HM k (gx (k+1) y),ih (gx (k+1) y),OS,HB,Pl, ← BitVec.xor_assoc]
  congr 1
  rw [OQ (y >>> k),BitVec.shiftRight_add]
def nI (x:fx):Int:=(x.toNat:Int)
theorem HD (x:fx):0≤nI x∧nI x < 4294967296:=⟨Int.natCast_nonneg _,by have:=x.isLt;unfold nI;omega⟩
theorem BJ (x:fx):BitVec.ofInt 32 (nI x) = x:=by
 apply BitVec.eq_of_toNat_eq
 rw [BitVec.toNat_ofInt]
 have:=x.isLt
 unfold nI
 omega
theorem vB (x y:fx):IntKind.wrap .u32 (kP 32 (nI x) (nI y)) = nI (x ^^^ y):=by
 have e:kP 32 (nI x) (nI y) = nI (x ^^^ y):=by
  show ((BitVec.ofInt 32 (nI x) ^^^ BitVec.ofInt 32 (nI y)).toNat:Int) = _
  rw [BJ,BJ];rfl
 rw [e,fw (HD _).1 (HD _).2]
theorem KI (x:fx):Int.fdiv (nI x) 2 = nI (x >>> 1):=by
 unfold nI
 rw [BitVec.toNat_ushiftRight,Nat.shiftRight_eq_div_pow,Int.fdiv_eq_ediv_of_nonneg _ (by omega)]
 omega
theorem PW (x:fx):Int.fdiv (nI x) 256 = nI (x >>> 8):=by
 unfold nI
 rw [BitVec.toNat_ushiftRight,Nat.shiftRight_eq_div_pow,Int.fdiv_eq_ediv_of_nonneg _ (by omega)]
 omega
theorem NP (x:fx):IntKind.wrap .u32 (D3 32 (nI x) 1) = if x.getLsbD 0 = true then 1 else 0:=by
 have e:D3 32 (nI x) 1 = if x.getLsbD 0 = true then 1 else 0:=by
  show ((BitVec.ofInt 32 (nI x) &&& BitVec.ofInt 32 1).toNat:Int) = _
  rw [BJ,BitVec.toNat_and,show (BitVec.ofInt 32 1).toNat = 1 from rfl,Nat.and_one_is_mod]
  have:x.getLsbD 0 = decide (x.toNat % 2 = 1):=by
   rw [show x.getLsbD 0 = x.toNat.testBit 0 from rfl,Nat.testBit_zero]
  rw [this]
  by_cases h:x.toNat % 2 = 1
  ·simp [h]
  ·rw [if_neg (by simpa using h)];omega
 rw [e]
 split <;> rfl
theorem K4:(3988292384:Int) = nI wA:=rfl
theorem z8:(4294967295:Int) = nI (BitVec.allOnes 32):=rfl
def Ho (x:fx) (c:Int):fx:=ul 8 (x ^^^ BitVec.ofInt 32 c)
def Pd (x:fx) (b:List Int):fx:=b.foldl Ho x
def kL (b:List Int):Int:=nI (BitVec.allOnes 32 ^^^ Pd (BitVec.allOnes 32) b)
theorem BG (b:List Int):0≤kL b∧kL b < 4294967296:=HD _
theorem DH {c:Int} (h:0≤c∧c < 256):nI (BitVec.ofInt 32 c) = c:=by
 unfold nI;rw [BitVec.toNat_ofInt];omega
theorem iu (b:List Int) (i:Int) (x:fx) (k:Int) (h:k < 8) (h0:0≤k):cm b (nI x) i k = cm b (nI (nP x)) i (k+1):=by
 rw [lW,aT h,cond_true,NP,KI,K4,vB,show ac (k+1) = k+1 from aA (by omega) (by omega)]
 unfold nP
 cases x.getLsbD 0 with
 | true=>rfl
 | false=>simp [ak]
theorem LO (b:List Int) (i:Int) (x:fx):cm b (nI x) i 0 = bO b (nI (ul 8 x)) (ac (i+1)):=by
 rw [iu b i x 0 (by omega) (by omega),iu b i _ (0+1) (by omega) (by omega),iu b i _ (0+1+1) (by omega) (by omega),iu b i _ (0+1+1+1) (by omega) (by omega),iu b i _ (0+1+1+1+1) (by omega) (by omega),
  iu b i _ (0+1+1+1+1+1) (by omega) (by omega),iu b i _ (0+1+1+1+1+1+1) (by omega) (by omega),iu b i _ (0+1+1+1+1+1+1+1) (by omega) (by omega),lW,aX (by omega),cond_false]
 rfl
theorem yX {b:List Int} (h:aG b) (hl:b.length≤1000000000):ph b = some (kL b):=by
 rw [Av,z8]
 have:=(Dj b (fun i x=>bO b (nI x) i) Ho (fun _ _=>True) (fun i x hi _=>⟨by
  show bO b (nI x) i = bO b (nI (Ho x b[i])) _
  have hb:=h b[i] (List.getElem_mem hi)
  rw [ng,cA hi,bu,cond_true,an,an,cd hi,fw hb.1 (by omega), ← DH hb,vB,LO,bW hi (by omega),DH hb]
  rfl,trivial⟩) (BitVec.allOnes 32) trivial).1
 have this:bO b (nI (BitVec.allOnes 32)) 0 = bO b (nI (Pd (BitVec.allOnes 32) b)) (b.length:Int):=this
 rw [this,ng,cV,cond_false,z8,vB]
 rfl
def Pf (i:Nat):Int:=nI (ul 8 (BitVec.ofNat 32 i))
theorem lj (i:Int) (t4:Int) (t0 out:List Int) (x:fx) (k:Int) (h:k < 8) (h0:0≤k):bX i (nI x) t4 k t0 out = bX i (nI (nP x)) t4 (k+1) t0 out:=by
 rw [kE,aT h,cond_true,NP,KI,K4,vB,show ac (k+1) = k+1 from aA (by omega) (by omega)]
 unfold nP
 cases x.getLsbD 0 with
 | true=>rfl
 | false=>simp [aV]
theorem OC (i:Int) (t4:Int) (t0 out:List Int) (x:fx) (ho:out.length = 256) (h0:0≤i) (h1:i < 256):bX i (nI x) t4 0 t0 out = eV (ac (t4+1)) t0 (List.set out i.toNat (nI (ul 8 x))):=by
 rw [lj i t4 t0 out x 0 (by omega) (by omega),lj i t4 t0 out _ (0+1) (by omega) (by omega),lj i t4 t0 out _ (0+1+1) (by omega) (by omega),lj i t4 t0 out _ (0+1+1+1) (by omega) (by omega),lj i t4 t0 out _ (0+1+1+1+1) (by omega) (by omega),
  lj i t4 t0 out _ (0+1+1+1+1+1) (by omega) (by omega),lj i t4 t0 out _ (0+1+1+1+1+1+1) (by omega) (by omega),lj i t4 t0 out _ (0+1+1+1+1+1+1+1) (by omega) (by omega),kE,aX (by omega),cond_false,ab ho,ab h0,ab h1]
 rfl
theorem K8 (out:List Int) (h:out.length = 256):((List.range 256).map fun i=>gD out i 0) = out:=by
 apply List.ext_getElem
 ·simp [h]
 ·intro i h1 h2
  rw [List.getElem_map,List.getElem_range]
  show out.getD i 0 = _
  rw [List.getD_eq_getElem?_getD,List.getElem?_eq_getElem h2];rfl
def kc (n:Nat):List Int:=(List.range 256).map fun i=>if i < n then Pf i else 0
theorem kI (n:Nat):(kc n).length = 256:=by unfold kc;rw [List.length_map,List.length_range]
theorem Om (n:Nat) (h:n < 256):List.set (kc n) n (Pf n) = kc (n+1):=by
 apply List.ext_getElem
 ·rw [List.length_set,kI,kI]
 ·intro i h1 h2
  rw [List.getElem_set]
  simp only [kc,List.getElem_map,List.getElem_range]
  split
  ·next e=>subst e;rw [if_pos (by omega)]
  ·next e =>
   by_cases hi:i < n
   ·rw [if_pos hi,if_pos (by omega)]
   ·rw [if_neg hi,if_neg (by omega)]
theorem yM:o9 = some (kc 256):=by
 rw [AE]
 have key:∀ (n i:Nat) (t0:List Int),t0.length = 256→256 = i+n→eV (i:Int) t0 (kc i) = some (kc 256):=by
  intro n
  induction n with
  | zero =>
   intro i t0 ht hi
   have:i = 256:=by omega
   subst this
   rw [nD,aX (by omega),cond_false,ab (by rw [kI]),ab (by rw [ht])]
   exact congrArg some (K8 (kc 256) (kI _))
  | succ n ih =>
   intro i t0 ht hi
   have hlt:i < 256:=by omega
   have e:IntKind.wrap .u32 (i:Int) = nI (BitVec.ofNat 32 i):=by
    rw [fw (by omega) (by omega)]
    unfold nI;rw [BitVec.toNat_ofNat];omega
   rw [nD,aT (by omega),cond_true,e,OC _ _ _ _ _ (kI i) (by omega) (by omega),Int.toNat_natCast,show ac ((i:Int)+1) = ((i+1:Nat):Int) by rw [aA (by omega) (by omega)];omega]
   have:List.set (kc i) i (nI (ul 8 (BitVec.ofNat 32 i))) = kc (i+1):=Om i hlt
   rw [this]
   exact ih (i+1) t0 ht (by omega)
 exact key 256 0 _ rfl (by omega)
theorem Qi (x:fx) {c:Int} (h:0≤c∧c < 256):IntKind.wrap .u8 (kP 8 (IntKind.wrap .u8 (nI x)) c) = ((gx 8 (x ^^^ BitVec.ofInt 32 c)).toNat:Int):=by
 have hx:=x.isLt
 have e1:(gx 8 (x ^^^ BitVec.ofInt 32 c)).toNat = (x.toNat ^^^ c.toNat) % 256:=by
  unfold gx
  rw [BitVec.toNat_and,BitVec.toNat_xor,show (BitVec.ofInt 32 c).toNat = c.toNat by rw [BitVec.toNat_ofInt];omega,show (BitVec.ofNat 32 (2 ^ 8 - 1)).toNat = 2 ^ 8 - 1 from rfl,Nat.and_two_pow_sub_one_eq_mod]
 have e2:kP 8 (IntKind.wrap .u8 (nI x)) c = (((x.toNat ^^^ c.toNat) % 256:Nat):Int):=by
  show ((BitVec.ofInt 8 (IntKind.wrap .u8 (nI x)) ^^^ BitVec.ofInt 8 c).toNat:Int) = _
  have a1:(BitVec.ofInt 8 (IntKind.wrap .u8 (nI x))).toNat = x.toNat % 256:=by
   rw [BitVec.toNat_ofInt,n9];unfold nI;omega
  have a2:(BitVec.ofInt 8 c).toNat = c.toNat % 256:=by rw [BitVec.toNat_ofInt];omega
  rw [BitVec.toNat_xor,a1,a2,show (256:Nat) = 2 ^ 8 from rfl,Nat.xor_mod_two_pow]
 rw [e2,e1,Ch (by omega) (by omega)]
theorem KD (y:fx):(gx 8 y).toNat < 256:=by
 unfold gx
 rw [BitVec.toNat_and,show (BitVec.ofNat 32 (2 ^ 8 - 1)).toNat = 2 ^ 8 - 1 from rfl,Nat.and_two_pow_sub_one_eq_mod]
 omega
theorem PU (y:fx):gD (kc 256) (gx 8 y).toNat 0 = nI (ul 8 (gx 8 y)):=by
 have hlt:=KD y
 show (kc 256).getD _ 0 = _
 rw [List.getD_eq_getElem?_getD,List.getElem?_eq_getElem (by rw [kI];exact hlt)]
 unfold kc
 rw [List.getElem_map,List.getElem_range,if_pos hlt,Option.getD_some]
 unfold Pf
 rw [BitVec.ofNat_toNat]
 congr 2
theorem Nr (x:fx) {c:Int} (h:0≤c∧c < 256):(x ^^^ BitVec.ofInt 32 c) >>> 8 = x >>> 8:=by
 rw [BitVec.ushiftRight_xor_distrib]
 have:BitVec.ofInt 32 c >>> 8 = 0#32:=by
  apply BitVec.eq_of_toNat_eq
  rw [BitVec.toNat_ushiftRight,Nat.shiftRight_eq_div_pow,BitVec.toNat_ofInt]
  show _ = 0
  omega
 rw [this,BitVec.xor_zero]
theorem iV {b:List Int} (h:aG b) (hl:b.length≤1000000000):fu b = some (kL b):=by
 rw [wo,yM,Option.bind_some,z8]
 have e0:∀ v t8 t9 t10 (t:List Int),t.length = 256→ba v t8 t9 t10 ((List.range 256).map fun i=>gD t i 0) = ba v t8 t9 t10 t:=fun v t8 t9 t10 t ht=>by rw [K8 t ht]
 refine (e0 _ _ _ _ (kc 256) (kI _)).trans ?_
 have:=(Dj b (fun i x=>ba (nI x) b (b.length:Int) i (kc 256)) Ho (fun _ _=>True) (fun i x hi _=>⟨by
  show ba (nI x) b _ i _ = ba (nI (Ho x b[i])) b _ _ _
  have hb:=h b[i] (List.getElem_mem hi)
  have hlt:=KD (x ^^^ BitVec.ofInt 32 b[i])
  rw [ku,cA hi,bu,cond_true,an,an,cd hi,Qi x hb,ab (kI _),ab (by omega),ab (by omega),Int.toNat_natCast,PU,PW,vB,bW hi (by omega)]
  congr 2
  show _ = ul 8 (x ^^^ BitVec.ofInt 32 b[i])
  rw [Qn 8 (x ^^^ BitVec.ofInt 32 b[i]),Nr x hb],trivial⟩) (BitVec.allOnes 32) trivial).1
 have this:ba (nI (BitVec.allOnes 32)) b (b.length:Int) 0 (kc 256) = ba (nI (Pd (BitVec.allOnes 32) b)) b (b.length:Int) (b.length:Int) (kc 256):=this
 rw [this,ku,cV,cond_false,z8,vB]
 rfl
end Go.Ax
