import Derived.Test.YtbjfcadcipfolaaGreatZP7
set_option linter.all false
/- Bytes and the numbers that they stand for. -/
set_option maxRecDepth 100000
namespace Go.Ax
def aA (b:List Int):Prop:=∀ x∈b,0≤x∧x < 256
def pZ (a:Int) (b:List Int):Int:=b.foldl (fun v x=>v*256+x) a
def ax (b:List Int):Int:=pZ 0 b
def aq (v:Int):Nat→List Int
 | 0=>[]
 | n+1=>(v / 256 ^ n) % 256 :: aq v n
theorem mL:aA []:=by intro x hx;simp at hx
theorem cY {x:Int} {b:List Int}:aA (x :: b)↔(0≤x∧x < 256)∧aA b:=by simp [aA]
theorem bi {a b:List Int}:aA (a++b)↔aA a∧aA b:=by
 constructor
 ·exact fun h=>⟨fun x hx=>h x (List.mem_append_left _ hx),fun x hx=>h x (List.mem_append_right _ hx)⟩
 ·rintro ⟨h1,h2⟩ x hx
  rcases List.mem_append.1 hx with hx | hx
  ·exact h1 x hx
  ·exact h2 x hx
theorem aA.take {b:List Int} (h:aA b) (n:Nat):aA (b.take n):=fun x hx=>h x (List.mem_of_mem_take hx)
theorem aA.drop {b:List Int} (h:aA b) (n:Nat):aA (b.drop n):=fun x hx=>h x (List.mem_of_mem_drop hx)
theorem aA.sub {b:List Int} (h:aA b) (o n:Nat):aA (aj b o n):=(h.drop o).take n
theorem aA.gD {b:List Int} (h:aA b) (i:Nat):0≤gD b i 0∧gD b i 0 < 256:=by
 show 0≤b.getD i 0∧b.getD i 0 < 256
 rw [List.getD_eq_getElem?_getD]
 cases hx:b[i]? with
 | none=>simp
 | some x=>exact h x (List.mem_of_getElem? hx)
theorem Jo (a x:Int) (b:List Int):pZ a (x :: b) = pZ (a*256+x) b:=rfl
theorem wR:∀ (b:List Int) (a:Int),pZ a b = a*256 ^ b.length+ax b
 | [],a=>by simp [pZ,ax]
 | x :: b,a=>by
  have e:ax (x :: b) = pZ x b:=by show pZ (0*256+x) b = _;rw [Int.zero_mul,Int.zero_add]
  rw [Jo,wR b,e,wR b x,List.length_cons,Int.pow_succ]
  generalize (256:Int) ^ b.length = p
  rw [Int.add_mul,Int.mul_assoc,Int.mul_comm 256 p,Int.add_assoc]
theorem vX (x:Int) (b:List Int):ax (x :: b) = x*256 ^ b.length+ax b:=by
 rw [← wR]
 show pZ (0*256+x) b = _
 rw [Int.zero_mul,Int.zero_add]
theorem Kz (a b:List Int):ax (a++b) = ax a*256 ^ b.length+ax b:=by
 rw [← wR]
 show List.foldl _ _ _ = _
 rw [List.foldl_append];rfl
theorem oX (n:Nat):(0:Int) < 256 ^ n:=Int.pow_pos (by omega)
theorem tQ:∀ {b:List Int},aA b→0≤ax b∧ax b < 256 ^ b.length
 | [],_=>by simp [ax,pZ]
 | x :: b,h=>by
  obtain ⟨hx,hb⟩:=cY.1 h
  obtain ⟨h1,h2⟩:=tQ hb
  rw [vX,List.length_cons,Int.pow_succ]
  have hp:=oX b.length
  generalize (256:Int) ^ b.length = p at *
  have h3:0≤x*p:=Int.mul_nonneg hx.1 (by omega)
  have h4:x*p≤255*p:=Int.mul_le_mul_of_nonneg_right (by omega) (by omega)
  omega
theorem j6 {b:List Int} (h:aA b) {n:Nat} (hn:b.length≤n) {B:Int} (hB:256 ^ n≤B):0≤ax b∧ax b < B:=by
 obtain ⟨h1,h2⟩:=tQ h
 have:(256:Int) ^ b.length≤256 ^ n:=by
  have h3:(256:Nat) ^ b.length≤256 ^ n:=Nat.pow_le_pow_right (by omega) hn
  exact_mod_cast h3
 omega
theorem ay (v:Int):∀ n:Nat,(aq v n).length = n
 | 0=>rfl
 | n+1=>by rw [aq,List.length_cons,ay v n]
theorem aS (v:Int):∀ n:Nat,aA (aq v n)
 | 0=>mL
 | n+1=>cY.2 ⟨⟨Int.emod_nonneg _ (by omega),Int.emod_lt_of_pos _ (by omega)⟩,aS v n⟩
theorem sJ (v:Int):∀ n:Nat,ax (aq v n) = v % 256 ^ n
 | 0=>by show (0:Int) = v % 1;omega
 | n+1=>by
  rw [aq,vX,ay,sJ v n,Int.pow_succ]
  have hp:=oX n
  generalize (256:Int) ^ n = p at *
  have h1:v % (p*256) = v % p+p*(v / p % 256):=by
   rw [Int.emod_def v (p*256), ← Int.ediv_ediv_of_nonneg (by omega:(0:Int)≤p),Int.emod_def v p,Int.emod_def (v / p) 256,Int.mul_sub,Int.mul_assoc]
   omega
  rw [h1,Int.mul_comm,Int.add_comm]
theorem G6:∀ (b:List Int) (a:Int),aA b→aq (a*256 ^ b.length+ax b) b.length = b
 | [],_,_=>rfl
 | x :: b,a,h=>by
  obtain ⟨hx,hb⟩:=cY.1 h
  obtain ⟨h1,h2⟩:=tQ hb
  rw [List.length_cons,aq,vX]
  have hp:=oX b.length
  have e:a*256 ^ (b.length+1)+(x*256 ^ b.length+ax b) = (a*256+x)*256 ^ b.length+ax b:=by
   rw [Int.pow_succ,Int.add_mul,Int.mul_assoc,Int.mul_comm 256 (256 ^ b.length),Int.add_assoc]
  rw [e,G6 b _ hb]
  congr 1
  rw [Int.add_comm,Int.add_mul_ediv_right _ _ (by omega),Int.ediv_eq_zero_of_lt h1 h2]
  omega
theorem jr {b:List Int} (h:aA b):aq (ax b) b.length = b:=by
 have:=G6 b 0 h
 rwa [Int.zero_mul,Int.zero_add] at this
theorem Hp {v:Int} (h:0≤v) (h':v < 256):aq v 1 = [v]:=by
 show [v / 256 ^ 0 % 256] = [v]
 rw [Int.pow_zero,Int.ediv_one]
 congr 1;omega
theorem mu (n:Int):IntKind.wrap .u8 n = n % 256:=by
 simp only [IntKind.wrap,IntKind.bits,IntKind.signed]
 simp
theorem L0 (n:Int):IntKind.wrap .u32 n = n % 4294967296:=by
 simp only [IntKind.wrap,IntKind.bits,IntKind.signed]
 simp
theorem zr {n:Int} (h:0≤n) (h':n < 256):IntKind.wrap .u8 n = n:=by rw [mu];omega
theorem eT {n:Int} (h:0≤n) (h':n < 4294967296):IntKind.wrap .u32 n = n:=by rw [L0];omega
theorem Np {k:Nat} (h:k≤7):p2 (8*(k:Int)) 64 = 256 ^ k:=by
 show (2:Int) ^ min (8*(k:Int)).toNat 64 = 256 ^ k
 have e:min (8*(k:Int)).toNat 64 = 8*k:=by omega
 rw [e,Int.pow_mul]
 rfl
theorem yT (v:Int) {k:Nat} (h:k≤7):IntKind.wrap .u8 (Int.fdiv v (p2 (8*(k:Int)) 64)) = (v / 256 ^ k) % 256:=by
 rw [Np h,mu,Int.fdiv_eq_ediv_of_nonneg _ (by have:=oX k;omega)]
theorem Hm {v x:Int} (h0:0≤v) (h1:v < 36028797018963968) (h2:0≤x) (h3:x < 256):ae (p9 64 (ae (v*256)) (ae x)) = v*256+x:=by
 rw [aD (n:=v*256) (by omega) (by omega),aD (n:=x) (by omega) (by omega)]
 have e:p9 64 (v*256) x = v*256+x:=by
  show ((BitVec.ofInt 64 (v*256) ||| BitVec.ofInt 64 x).toNat:Int) = _
  obtain ⟨a,rfl⟩:=Int.eq_ofNat_of_zero_le h0
  obtain ⟨c,rfl⟩:=Int.eq_ofNat_of_zero_le h2
  have e1:(BitVec.ofInt 64 ((a:Int)*256)).toNat = a <<< 8:=by
   rw [BitVec.toNat_ofInt,Nat.shiftLeft_eq]
   omega
  have e2:(BitVec.ofInt 64 (c:Int)).toNat = c:=by
   rw [BitVec.toNat_ofInt]
   omega
  rw [BitVec.toNat_or,e1,e2, ← Nat.shiftLeft_add_eq_or_of_lt (by omega:c < 2 ^ 8),Nat.shiftLeft_eq]
  omega
 rw [e,aD (by omega) (by omega)]
theorem KP {b:List Int} (h:aA b) (hl:b.length≤7) (i:Nat) (hi:i < b.length):0≤ax (b.take i)∧ax (b.take i) < 36028797018963968:=by
 have h1:=tQ (h.take i)
 have h2:(b.take i).length≤6:=by rw [List.length_take];omega
 have:=j6 (h.take i) h2 (B:=281474976710656) (by decide)
 omega
theorem tG {R:Type} (F:Int→Int→Option R) (b:List Int) (h:aA b) (hl:b.length≤7)
  (hF:∀ (i:Nat) (v:Int),i < b.length→F v i = F (ae (p9 64 (ae (v*256)) (ae (gD b i 0)))) ((i+1:Nat):Int)):F 0 0 = F (ax b) (b.length:Int):=by
 have key:∀ (n i:Nat),b.length = i+n→F (ax (b.take i)) (i:Int) = F (ax b) (b.length:Int):=by
  intro n
  induction n with
  | zero =>
   intro i hi
   have:i = b.length:=by omega
   subst this
   rw [List.take_length]
  | succ n ih =>
   intro i hi
   have hlt:i < b.length:=by omega
   obtain ⟨h1,h2⟩:=KP h hl i hlt
   have h3:=h.gD i
   rw [hF i _ hlt,Hm h1 h2 h3.1 h3.2]
   have e:ax (b.take i)*256+gD b i 0 = ax (b.take (i+1)):=by
    rw [List.take_succ,List.getElem?_eq_getElem hlt]
    show _ = ax (b.take i++[b[i]])
    rw [Kz,show gD b i 0 = b[i] by show b.getD i 0 = _;rw [List.getD_eq_getElem?_getD,List.getElem?_eq_getElem hlt];rfl]
    show _ = ax (b.take i)*256 ^ 1+(0*256+b[i])
    omega
   rw [e]
   exact ih (i+1) (by omega)
 exact key b.length 0 (by omega)
theorem bt {b:List Int} (h:aA b) (hl:b.length≤7):bR b = some (ax b):=by
 rw [D2,tG (fun v i=>fL b v i) b h hl fun i v hi=>?_]
 ·show fL b _ _ = _
  rw [pM,dq,cond_false]
 ·show fL b v i = _
  rw [pM,eD hi,cu,cond_true,aF,aF,di hi (by omega),Int.toNat_natCast]
theorem iv {b:List Int} (h:aA b) (hl:b.length≤7):bZ b = some (ax b):=by
 rw [y9,tG (fun v i=>dR b v i) b h hl fun i v hi=>?_]
 ·show dR b _ _ = _
  rw [my,dq,cond_false]
 ·show dR b v i = _
  rw [my,eD hi,cu,cond_true,aF,aF,di hi (by omega),Int.toNat_natCast]
theorem uq (b:List Int) {n:Int} (h0:0≤n):aj b 0 (n - 0).toNat = b.take n.toNat:=by
 unfold aj;rw [List.drop_zero];congr 1;omega
theorem kU {T:Type} (b:List T) {n:Int} (h0:0≤n) (h1:n≤(b.length:Int)):aj b n.toNat ((b.length:Int) - n).toNat = b.drop n.toNat:=by
 unfold aj;rw [List.take_of_length_le];rw [List.length_drop];omega
theorem yL {n:Nat} {b:List Int} (h:aA b) (hn:n≤7) (hb:n≤b.length) (hB:b.length≤1000000000000):ao (n:Int) ⟨b⟩ = some (ax (b.take n),⟨b.drop n⟩):=by
 have e:aj b 0 ((n:Int) - 0).toNat = b.take n:=by rw [uq b (by omega),Int.toNat_natCast]
 rw [qt,ac (by omega),ac (by show (n:Int)≤(b.length:Int);omega),e]
 have hl:(b.take n).length≤7:=by rw [List.length_take];omega
 have hx:=tG (fun v i=>bM (n:Int) v (b.take n) ((b.take n).length:Int) i ⟨b⟩) (b.take n) (h.take n) hl fun i v hi=>by
  show bM _ v _ _ _ _ = _
  rw [ia,eD hi,cu,cond_true,aF,aF,di hi (by omega),Int.toNat_natCast]
 rw [hx]
 show bM _ _ _ _ _ _ = _
 rw [ia,dq,cond_false,ac (by omega),ac (by show (n:Int)≤(b.length:Int);omega),ac (by omega)]
 show some (_,(⟨aj b _ _⟩:GDocument_reader)) = _
 rw [kU b (by omega) (by omega),Int.toNat_natCast]
theorem mZ {n:Nat} {b:List Int} {s:Bool} (h:aA b) (hn:n≤7) (hB:b.length≤1000000000000):am (n:Int) ⟨b,s⟩ = some (if n≤b.length then (ax (b.take n),⟨b.drop n,s⟩) else (0,⟨b,true⟩)):=by
 rw [uS]
 by_cases hb:n≤b.length
 ·rw [bJ (by show ¬ ((b.length:Int) < (n:Int));omega),cond_false,if_pos hb]
  have e:aj b 0 ((n:Int) - 0).toNat = b.take n:=by rw [uq b (by omega),Int.toNat_natCast]
  rw [ac (by omega),ac (by show (n:Int)≤(b.length:Int);omega),e]
  have hl:(b.take n).length≤7:=by rw [List.length_take];omega
  have hx:=tG (fun v i=>cr (n:Int) v (b.take n) ((b.take n).length:Int) i ⟨b,s⟩) (b.take n) (h.take n) hl fun i v hi=>by
   show cr _ v _ _ _ _ = _
   rw [jK,eD hi,cu,cond_true,aF,aF,di hi (by omega),Int.toNat_natCast]
  rw [hx]
  show cr _ _ _ _ _ _ = _
  rw [jK,dq,cond_false,ac (by omega),ac (by show (n:Int)≤(b.length:Int);omega),ac (by omega)]
  show some (_,(⟨aj b _ _,s⟩:GFact_reader)) = _
  rw [kU b (by omega) (by omega),Int.toNat_natCast]
 ·rw [bf (by show ((b.length:Int) < (n:Int));omega),cond_true,if_neg hb]
theorem tZ {R:Type} (F:Int→List Int→Option R) (v:Int) (G:List Int→Option R) (hG:∀ b,F (-1) b = G b)
  (hF:∀ (k:Nat) (b:List Int),k≤7→b.length≤1000000000000→F (k:Int) b = F ((k:Int) - 1) (b++[(v / 256 ^ k) % 256])):∀ (n:Nat) (b:List Int),n≤8→b.length≤1000000000+(8 - n)→F ((n:Int) - 1) b = G (b++aq v n)
 | 0,b,_,_=>by rw [show ((0:Nat):Int) - 1 = -1 by omega,hG];simp [aq]
 | n+1,b,hn,hb=>by
  rw [show ((n+1:Nat):Int) - 1 = (n:Int) by omega,hF n b (by omega) (by omega),tZ F v G hG hF n _ (by omega) (by rw [List.length_append,List.length_singleton];omega),aq]
  simp
theorem yh (k:Nat) (h:k≤7):ae ((k:Int) - 1) = (k:Int) - 1:=aD (by omega) (by omega)
theorem IN (k:Nat) (h:k≤7):ae (8*(k:Int)) = 8*(k:Int):=aD (by omega) (by omega)
theorem LE (k:Nat) (h:k≤7):IntKind.wrap .u64 (8*(k:Int)) = 8*(k:Int):=My (by omega) (by omega)
theorem fK (v:Int) {n:Nat} (hn:n≤8):aJ v (n:Int) = some (aq v n):=by
 rw [FS,show ae ((n:Int) - 1) = (n:Int) - 1 from aD (by omega) (by omega)]
 have:=tZ (fun i b=>fJ v i b) v some (fun b=>by
  show fJ v (-1) b = _
  rw [qd,bJ (by omega),cond_false]) (fun k b hk hb=>by
  show fJ v k b = _
  rw [qd,cu,cond_true,IN k hk,LE k hk,ac (by omega),ac (by omega),ac (by omega),yT v hk,yh k hk]) n [] hn (by simp)
 rw [this];simp
theorem eJ (v:Int) {n:Nat} (hn:n≤8) (b:List Int) (hb:b.length≤1000000000):aN v (n:Int) b = some (b++aq v n):=by
 rw [Ah,show ae ((n:Int) - 1) = (n:Int) - 1 from aD (by omega) (by omega)]
 exact tZ (fun i b=>dO v i b) v some (fun b=>by
  show dO v (-1) b = _
  rw [mD,bJ (by omega),cond_false]) (fun k b hk hb=>by
  show dO v k b = _
  rw [mD,cu,cond_true,IN k hk,LE k hk,ac (by omega),ac (by omega),ac (by omega),yT v hk,yh k hk]) n b hn (by omega)
theorem l9 (v:Int) {n:Nat} (hn:n≤8) (b:List Int) (hb:b.length≤1000000000):aQ v (n:Int) b = some (b++aq v n):=by
 rw [sr,show ae ((n:Int) - 1) = (n:Int) - 1 from aD (by omega) (by omega)]
 exact tZ (fun i b=>cb v i b) v some (fun b=>by
  show cb v (-1) b = _
  rw [jd,bJ (by omega),cond_false]) (fun k b hk hb=>by
  show cb v k b = _
  rw [jd,cu,cond_true,IN k hk,ac (by omega),ac (by omega),ac (by omega),yT v hk,yh k hk]) n b hn (by omega)
theorem CQ (l:List (List Int)) (i:Nat) (hi:i < l.length):(l.take (i+1)).flatten = (l.take i).flatten++l[i]:=by
 rw [List.take_succ,List.getElem?_eq_getElem hi,List.flatten_append];simp
theorem kX (l:List (List Int)) (hl:l.flatten.length≤1000000000) (hn:l.length≤1000000):eW l = some l.flatten:=by
 rw [C4]
 have key:∀ (n i:Nat),l.length = i+n→jY l (i:Int) (l.take i).flatten = some l.flatten:=by
  intro n
  induction n with
  | zero =>
   intro i hi
   have:i = l.length:=by omega
   subst this
   rw [oI,dq,cond_false,List.take_length]
  | succ n ih =>
   intro i hi
   have hlt:i < l.length:=by omega
   have hle:(l.take (i+1)).flatten.length≤l.flatten.length:=by
    conv=>rhs;rw [← List.take_append_drop (i+1) l,List.flatten_append,List.length_append]
    omega
   rw [CQ l i hlt,List.length_append] at hle
   rw [oI,eD hlt,cu,cond_true,aF,aF,eH hlt,ac (by omega),ac (by omega),di hlt (by omega), ← CQ l i hlt]
   exact ih (i+1) (by omega)
 exact key l.length 0 (by omega)
end Go.Ax
set_option linter.all false
/- The checksum: bit by bit, and by a table;it is linear, and it shows a change of one byte. -/
set_option maxRecDepth 100000
namespace Go.Ax
abbrev eQ:=BitVec 32
def s8:eQ:=3988292384#32
def me (x:eQ):eQ:=(x >>> 1) ^^^ (if x.getLsbD 0 then s8 else 0#32)
def ra:Nat→eQ→eQ
 | 0,x=>x
 | n+1,x=>ra n (me x)
theorem D1 (n:Nat):∀ x:eQ,ra (n+1) x = me (ra n x):=by
 induction n with
 | zero=>intro x;rfl
 | succ n ih=>intro x;rw [ra,ih (me x), ← ra]
theorem DP (a b:eQ):me (a ^^^ b) = me a ^^^ me b:=by
 unfold me
 rw [BitVec.ushiftRight_xor_distrib,BitVec.getLsbD_xor]
 have e:(if (a.getLsbD 0 ^^ b.getLsbD 0) = true then s8 else 0#32) = (if a.getLsbD 0 = true then s8 else 0#32) ^^^ (if b.getLsbD 0 = true then s8 else 0#32):=by
  cases a.getLsbD 0 <;> cases b.getLsbD 0 <;> simp
 rw [e]
 generalize (if a.getLsbD 0 = true then s8 else 0#32) = p
 generalize (if b.getLsbD 0 = true then s8 else 0#32) = q
 rw [BitVec.xor_assoc,BitVec.xor_assoc]
 congr 1
 rw [← BitVec.xor_assoc,BitVec.xor_comm (b >>> 1) p,BitVec.xor_assoc]
def fH (k:Nat) (y:eQ):eQ:=y &&& BitVec.ofNat 32 (2 ^ k - 1)
theorem kW (k:Nat) (y:eQ) (i:Nat):(fH k y).getLsbD i = (y.getLsbD i&&decide (i < k)):=by
 unfold fH
 rw [BitVec.getLsbD_and,BitVec.getLsbD_ofNat,Nat.testBit_two_pow_sub_one]
 by_cases h:i < 32
 ·simp [h]
 ·rw [BitVec.getLsbD_of_ge y i (by omega)];simp
theorem Ko {k:Nat} (y:eQ):fH k (fH (k+1) y) = fH k y:=by
 apply BitVec.eq_of_getLsbD_eq
 intro i hi
 rw [kW,kW,kW]
 by_cases h:i < k
 ·simp [h,show i < k+1 by omega]
 ·simp [h]
theorem KC (k:Nat) (y:eQ):fH (k+1) y >>> k = fH 1 (y >>> k):=by
 apply BitVec.eq_of_getLsbD_eq
 intro i hi
 rw [BitVec.getLsbD_ushiftRight,kW,kW,BitVec.getLsbD_ushiftRight]
 congr 1
 by_cases h:i < 1
 ·simp [h]
 ·simp [h]
theorem KY (z:eQ):me z = (z >>> 1) ^^^ me (fH 1 z):=by
 have h1:fH 1 z >>> 1 = 0#32:=by
  apply BitVec.eq_of_getLsbD_eq
  intro i hi
  rw [BitVec.getLsbD_ushiftRight,kW]
  simp
 have h2:(fH 1 z).getLsbD 0 = z.getLsbD 0:=by rw [kW];simp
 unfold me
 rw [h1,h2,BitVec.zero_xor]
theorem LT (k:Nat):∀ y:eQ,ra k y = (y >>> k) ^^^ ra k (fH k y):=by
 induction k with
 | zero =>
  intro y
  have:fH 0 y = 0#32:=by unfold fH;simp
  rw [this]
  show y = (y >>> 0) ^^^ 0#32
  simp
 | succ k ih =>
  intro y
  rw [D1,ih y,DP,D1 k (fH (k+1) y),ih (fH (k+1) y),Ko,DP,KC, ← BitVec.xor_assoc]
  congr 1
  rw [KY (y >>> k),BitVec.shiftRight_add]
def nI (x:eQ):Int:=(x.toNat:Int)
theorem EI (x:eQ):0≤nI x∧nI x < 4294967296:=⟨Int.natCast_nonneg _,by have:=x.isLt;unfold nI;omega⟩
theorem yw (x:eQ):BitVec.ofInt 32 (nI x) = x:=by
 apply BitVec.eq_of_toNat_eq
 rw [BitVec.toNat_ofInt]
 have:=x.isLt
 unfold nI
 omega
theorem sL (x y:eQ):IntKind.wrap .u32 (jl 32 (nI x) (nI y)) = nI (x ^^^ y):=by
 have e:jl 32 (nI x) (nI y) = nI (x ^^^ y):=by
  show ((BitVec.ofInt 32 (nI x) ^^^ BitVec.ofInt 32 (nI y)).toNat:Int) = _
  rw [yw,yw];rfl
 rw [e,eT (EI _).1 (EI _).2]
theorem G7 (x:eQ):Int.fdiv (nI x) 2 = nI (x >>> 1):=by
 unfold nI
 rw [BitVec.toNat_ushiftRight,Nat.shiftRight_eq_div_pow,Int.fdiv_eq_ediv_of_nonneg _ (by omega)]
 omega
theorem Mf (x:eQ):Int.fdiv (nI x) 256 = nI (x >>> 8):=by
 unfold nI
 rw [BitVec.toNat_ushiftRight,Nat.shiftRight_eq_div_pow,Int.fdiv_eq_ediv_of_nonneg _ (by omega)]
 omega
theorem J1 (x:eQ):IntKind.wrap .u32 (Ba 32 (nI x) 1) = if x.getLsbD 0 = true then 1 else 0:=by
 have e:Ba 32 (nI x) 1 = if x.getLsbD 0 = true then 1 else 0:=by
  show ((BitVec.ofInt 32 (nI x) &&& BitVec.ofInt 32 1).toNat:Int) = _
  rw [yw,BitVec.toNat_and,show (BitVec.ofInt 32 1).toNat = 1 from rfl,Nat.and_one_is_mod]
  have:x.getLsbD 0 = decide (x.toNat % 2 = 1):=by
   rw [show x.getLsbD 0 = x.toNat.testBit 0 from rfl,Nat.testBit_zero]
  rw [this]
  by_cases h:x.toNat % 2 = 1
  ·simp [h]
  ·rw [if_neg (by simpa using h)];omega
 rw [e]
 split <;> rfl
theorem Hr:(3988292384:Int) = nI s8:=rfl
theorem wI:(4294967295:Int) = nI (BitVec.allOnes 32):=rfl
def FG (x:eQ) (c:Int):eQ:=ra 8 (x ^^^ BitVec.ofInt 32 c)
def K4 (x:eQ) (b:List Int):eQ:=b.foldl FG x
def jz (b:List Int):Int:=nI (BitVec.allOnes 32 ^^^ K4 (BitVec.allOnes 32) b)
theorem tT (b:List Int):0≤jz b∧jz b < 4294967296:=EI _
theorem zK {c:Int} (h:0≤c∧c < 256):nI (BitVec.ofInt 32 c) = c:=by
 unfold nI;rw [BitVec.toNat_ofInt];omega
theorem gi (b:List Int) (i:Int) (x:eQ) (k:Int) (h:k < 8) (h0:0≤k):bY b (nI x) i k = bY b (nI (me x)) i (k+1):=by
 rw [km,bf h,cond_true,J1,G7,Hr,sL,show ae (k+1) = k+1 from aD (by omega) (by omega)]
 unfold me
 cases x.getLsbD 0 with
 | true=>rfl
 | false=>simp [ak]
theorem Iu (b:List Int) (i:Int) (x:eQ):bY b (nI x) i 0 = bD b (nI (ra 8 x)) (ae (i+1)):=by
 rw [gi b i x 0 (by omega) (by omega),gi b i _ (0+1) (by omega) (by omega),gi b i _ (0+1+1) (by omega) (by omega),gi b i _ (0+1+1+1) (by omega) (by omega),gi b i _ (0+1+1+1+1) (by omega) (by omega),
  gi b i _ (0+1+1+1+1+1) (by omega) (by omega),gi b i _ (0+1+1+1+1+1+1) (by omega) (by omega),gi b i _ (0+1+1+1+1+1+1+1) (by omega) (by omega),km,bJ (by omega),cond_false]
 rfl
theorem nO {b:List Int} (h:aA b) (hl:b.length≤1000000000):jS b = some (jz b):=by
 rw [xc,wI]
 have:=(wJ b (fun i x=>bD b (nI x) i) FG (fun _ _=>True) (fun i x hi _=>⟨by
  show bD b (nI x) i = bD b (nI (FG x b[i])) _
  have hb:=h b[i] (List.getElem_mem hi)
  rw [li,eD hi,cu,cond_true,aF,aF,eH hi,eT hb.1 (by omega), ← zK hb,sL,Iu,di hi (by omega),zK hb]
  rfl,trivial⟩) (BitVec.allOnes 32) trivial).1
 have this:bD b (nI (BitVec.allOnes 32)) 0 = bD b (nI (K4 (BitVec.allOnes 32) b)) (b.length:Int):=this
 rw [this,li,dq,cond_false,wI,sL]
 rfl
def Kw (i:Nat):Int:=nI (ra 8 (BitVec.ofNat 32 i))
theorem jq (i:Int) (t4:Int) (t0 out:List Int) (x:eQ) (k:Int) (h:k < 8) (h0:0≤k):bO i (nI x) t4 k t0 out = bO i (nI (me x)) t4 (k+1) t0 out:=by
 rw [jj,bf h,cond_true,J1,G7,Hr,sL,show ae (k+1) = k+1 from aD (by omega) (by omega)]
 unfold me
 cases x.getLsbD 0 with
 | true=>rfl
 | false=>simp [aT]
theorem La (i:Int) (t4:Int) (t0 out:List Int) (x:eQ) (ho:out.length = 256) (h0:0≤i) (h1:i < 256):bO i (nI x) t4 0 t0 out = ea (ae (t4+1)) t0 (List.set out i.toNat (nI (ra 8 x))):=by
 rw [jq i t4 t0 out x 0 (by omega) (by omega),jq i t4 t0 out _ (0+1) (by omega) (by omega),jq i t4 t0 out _ (0+1+1) (by omega) (by omega),jq i t4 t0 out _ (0+1+1+1) (by omega) (by omega),jq i t4 t0 out _ (0+1+1+1+1) (by omega) (by omega),
  jq i t4 t0 out _ (0+1+1+1+1+1) (by omega) (by omega),jq i t4 t0 out _ (0+1+1+1+1+1+1) (by omega) (by omega),jq i t4 t0 out _ (0+1+1+1+1+1+1+1) (by omega) (by omega),jj,bJ (by omega),cond_false,ac ho,ac h0,ac h1]
 rfl
theorem Hh (out:List Int) (h:out.length = 256):((List.range 256).map fun i=>gD out i 0) = out:=by
 apply List.ext_getElem
 ·simp [h]
 ·intro i h1 h2
  rw [List.getElem_map,List.getElem_range]
  show out.getD i 0 = _
  rw [List.getD_eq_getElem?_getD,List.getElem?_eq_getElem h2];rfl
def iW (n:Nat):List Int:=(List.range 256).map fun i=>if i < n then Kw i else 0
theorem jJ (n:Nat):(iW n).length = 256:=by unfold iW;rw [List.length_map,List.length_range]
theorem Kx (n:Nat) (h:n < 256):List.set (iW n) n (Kw n) = iW (n+1):=by
 apply List.ext_getElem
 ·rw [List.length_set,jJ,jJ]
 ·intro i h1 h2
  rw [List.getElem_set]
  simp only [iW,List.getElem_map,List.getElem_range]
  split
  ·next e=>subst e;rw [if_pos (by omega)]
  ·next e =>
   by_cases hi:i < n
   ·rw [if_pos hi,if_pos (by omega)]
   ·rw [if_neg hi,if_neg (by omega)]
theorem vU:mI = some (iW 256):=by
 rw [xb]
 have key:∀ (n i:Nat) (t0:List Int),t0.length = 256→256 = i+n→ea (i:Int) t0 (iW i) = some (iW 256):=by
  intro n
  induction n with
  | zero =>
   intro i t0 ht hi
   have:i = 256:=by omega
   subst this
   rw [lc,bJ (by omega),cond_false,ac (by rw [jJ]),ac (by rw [ht])]
   exact congrArg some (Hh (iW 256) (jJ _))
  | succ n ih =>
   intro i t0 ht hi
   have hlt:i < 256:=by omega
   have e:IntKind.wrap .u32 (i:Int) = nI (BitVec.ofNat 32 i):=by
    rw [eT (by omega) (by omega)]
    unfold nI;rw [BitVec.toNat_ofNat];omega
   rw [lc,bf (by omega),cond_true,e,La _ _ _ _ _ (jJ i) (by omega) (by omega),Int.toNat_natCast,show ae ((i:Int)+1) = ((i+1:Nat):Int) by rw [aD (by omega) (by omega)];omega]
   have:List.set (iW i) i (nI (ra 8 (BitVec.ofNat 32 i))) = iW (i+1):=Kx i hlt
   rw [this]
   exact ih (i+1) t0 ht (by omega)
 exact key 256 0 _ rfl (by omega)
theorem LV (x:eQ) {c:Int} (h:0≤c∧c < 256):IntKind.wrap .u8 (jl 8 (IntKind.wrap .u8 (nI x)) c) = ((fH 8 (x ^^^ BitVec.ofInt 32 c)).toNat:Int):=by
 have hx:=x.isLt
 have e1:(fH 8 (x ^^^ BitVec.ofInt 32 c)).toNat = (x.toNat ^^^ c.toNat) % 256:=by
  unfold fH
  rw [BitVec.toNat_and,BitVec.toNat_xor,show (BitVec.ofInt 32 c).toNat = c.toNat by rw [BitVec.toNat_ofInt];omega,show (BitVec.ofNat 32 (2 ^ 8 - 1)).toNat = 2 ^ 8 - 1 from rfl,Nat.and_two_pow_sub_one_eq_mod]
 have e2:jl 8 (IntKind.wrap .u8 (nI x)) c = (((x.toNat ^^^ c.toNat) % 256:Nat):Int):=by
  show ((BitVec.ofInt 8 (IntKind.wrap .u8 (nI x)) ^^^ BitVec.ofInt 8 c).toNat:Int) = _
  have a1:(BitVec.ofInt 8 (IntKind.wrap .u8 (nI x))).toNat = x.toNat % 256:=by
   rw [BitVec.toNat_ofInt,mu];unfold nI;omega
  have a2:(BitVec.ofInt 8 c).toNat = c.toNat % 256:=by rw [BitVec.toNat_ofInt];omega
  rw [BitVec.toNat_xor,a1,a2,show (256:Nat) = 2 ^ 8 from rfl,Nat.xor_mod_two_pow]
 rw [e2,e1,zr (by omega) (by omega)]
theorem Hs (y:eQ):(fH 8 y).toNat < 256:=by
 unfold fH
 rw [BitVec.toNat_and,show (BitVec.ofNat 32 (2 ^ 8 - 1)).toNat = 2 ^ 8 - 1 from rfl,Nat.and_two_pow_sub_one_eq_mod]
 omega
theorem LU (y:eQ):gD (iW 256) (fH 8 y).toNat 0 = nI (ra 8 (fH 8 y)):=by
 have hlt:=Hs y
 show (iW 256).getD _ 0 = _
 rw [List.getD_eq_getElem?_getD,List.getElem?_eq_getElem (by rw [jJ];exact hlt)]
 unfold iW
 rw [List.getElem_map,List.getElem_range,if_pos hlt,Option.getD_some]
 unfold Kw
 rw [BitVec.ofNat_toNat]
 congr 2
theorem IV (x:eQ) {c:Int} (h:0≤c∧c < 256):(x ^^^ BitVec.ofInt 32 c) >>> 8 = x >>> 8:=by
 rw [BitVec.ushiftRight_xor_distrib]
 have:BitVec.ofInt 32 c >>> 8 = 0#32:=by
  apply BitVec.eq_of_toNat_eq
  rw [BitVec.toNat_ushiftRight,Nat.shiftRight_eq_div_pow,BitVec.toNat_ofInt]
  show _ = 0
  omega
 rw [this,BitVec.xor_zero]
theorem gT {b:List Int} (h:aA b) (hl:b.length≤1000000000):eP b = some (jz b):=by
 rw [th,vU,Option.bind_some,wI]
 have e0:∀ v t8 t9 t10 (t:List Int),t.length = 256→aU v t8 t9 t10 ((List.range 256).map fun i=>gD t i 0) = aU v t8 t9 t10 t:=fun v t8 t9 t10 t ht=>by rw [Hh t ht]
 refine (e0 _ _ _ _ (iW 256) (jJ _)).trans ?_
 have:=(wJ b (fun i x=>aU (nI x) b (b.length:Int) i (iW 256)) FG (fun _ _=>True) (fun i x hi _=>⟨by
  show aU (nI x) b _ i _ = aU (nI (FG x b[i])) b _ _ _
  have hb:=h b[i] (List.getElem_mem hi)
  have hlt:=Hs (x ^^^ BitVec.ofInt 32 b[i])
  rw [i8,eD hi,cu,cond_true,aF,aF,eH hi,LV x hb,ac (jJ _),ac (by omega),ac (by omega),Int.toNat_natCast,LU,Mf,sL,di hi (by omega)]
  congr 2
  show _ = ra 8 (x ^^^ BitVec.ofInt 32 b[i])
  rw [LT 8 (x ^^^ BitVec.ofInt 32 b[i]),IV x hb],trivial⟩) (BitVec.allOnes 32) trivial).1
 have this:aU (nI (BitVec.allOnes 32)) b (b.length:Int) 0 (iW 256) = aU (nI (K4 (BitVec.allOnes 32) b)) b (b.length:Int) (b.length:Int) (iW 256):=this
 rw [this,i8,dq,cond_false,wI,sL]
 rfl
end Go.Ax
