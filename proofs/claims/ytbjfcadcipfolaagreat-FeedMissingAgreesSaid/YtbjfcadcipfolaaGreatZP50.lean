import Derived.Test.YtbjfcadcipfolaaGreatZP7
set_option linter.all false
/- Bytes and the numbers that they stand for. -/
set_option maxRecDepth 100000
namespace Go.Ax
def aB (b:List Int):Prop:=∀ x∈b,0≤x∧x < 256
def tK (a:Int) (b:List Int):Int:=b.foldl (fun v x=>v*256+x) a
def aC (b:List Int):Int:=tK 0 b
def au (v:Int):Nat→List Int
 | 0=>[]
 | n+1=>(v / 256 ^ n) % 256 :: au v n
theorem pY:aB []:=by intro x hx;simp at hx
theorem dY {x:Int} {b:List Int}:aB (x :: b)↔(0≤x∧x < 256)∧aB b:=by simp [aB]
theorem bF {a b:List Int}:aB (a++b)↔aB a∧aB b:=by
 constructor
 ·exact fun h=>⟨fun x hx=>h x (List.mem_append_left _ hx),fun x hx=>h x (List.mem_append_right _ hx)⟩
 ·rintro ⟨h1,h2⟩ x hx
  rcases List.mem_append.1 hx with hx | hx
  ·exact h1 x hx
  ·exact h2 x hx
theorem aB.take {b:List Int} (h:aB b) (n:Nat):aB (b.take n):=fun x hx=>h x (List.mem_of_mem_take hx)
theorem aB.drop {b:List Int} (h:aB b) (n:Nat):aB (b.drop n):=fun x hx=>h x (List.mem_of_mem_drop hx)
theorem aB.sub {b:List Int} (h:aB b) (o n:Nat):aB (ak b o n):=(h.drop o).take n
theorem aB.gD {b:List Int} (h:aB b) (i:Nat):0≤gD b i 0∧gD b i 0 < 256:=by
 show 0≤b.getD i 0∧b.getD i 0 < 256
 rw [List.getD_eq_getElem?_getD]
 cases hx:b[i]? with
 | none=>simp
 | some x=>exact h x (List.mem_of_getElem? hx)
theorem NE (a x:Int) (b:List Int):tK a (x :: b) = tK (a*256+x) b:=rfl
theorem AU:∀ (b:List Int) (a:Int),tK a b = a*256 ^ b.length+aC b
 | [],a=>by simp [tK,aC]
 | x :: b,a=>by
  have e:aC (x :: b) = tK x b:=by show tK (0*256+x) b = _;rw [Int.zero_mul,Int.zero_add]
  rw [NE,AU b,e,AU b x,List.length_cons,Int.pow_succ]
  generalize (256:Int) ^ b.length = p
  rw [Int.add_mul,Int.mul_assoc,Int.mul_comm 256 p,Int.add_assoc]
theorem z7 (x:Int) (b:List Int):aC (x :: b) = x*256 ^ b.length+aC b:=by
 rw [← AU]
 show tK (0*256+x) b = _
 rw [Int.zero_mul,Int.zero_add]
theorem P5 (a b:List Int):aC (a++b) = aC a*256 ^ b.length+aC b:=by
 rw [← AU]
 show List.foldl _ _ _ = _
 rw [List.foldl_append];rfl
theorem sK (n:Nat):(0:Int) < 256 ^ n:=Int.pow_pos (by omega)
theorem xu:∀ {b:List Int},aB b→0≤aC b∧aC b < 256 ^ b.length
 | [],_=>by simp [aC,tK]
 | x :: b,h=>by
  obtain ⟨hx,hb⟩:=dY.1 h
  obtain ⟨h1,h2⟩:=xu hb
  rw [z7,List.length_cons,Int.pow_succ]
  have hp:=sK b.length
  generalize (256:Int) ^ b.length = p at *
  have h3:0≤x*p:=Int.mul_nonneg hx.1 (by omega)
  have h4:x*p≤255*p:=Int.mul_le_mul_of_nonneg_right (by omega) (by omega)
  omega
theorem kg {b:List Int} (h:aB b) {n:Nat} (hn:b.length≤n) {B:Int} (hB:256 ^ n≤B):0≤aC b∧aC b < B:=by
 obtain ⟨h1,h2⟩:=xu h
 have:(256:Int) ^ b.length≤256 ^ n:=by
  have h3:(256:Nat) ^ b.length≤256 ^ n:=Nat.pow_le_pow_right (by omega) hn
  exact_mod_cast h3
 omega
theorem aA (v:Int):∀ n:Nat,(au v n).length = n
 | 0=>rfl
 | n+1=>by rw [au,List.length_cons,aA v n]
theorem be (v:Int):∀ n:Nat,aB (au v n)
 | 0=>pY
 | n+1=>dY.2 ⟨⟨Int.emod_nonneg _ (by omega),Int.emod_lt_of_pos _ (by omega)⟩,be v n⟩
theorem sQ (v:Int):∀ n:Nat,aC (au v n) = v % 256 ^ n
 | 0=>by show (0:Int) = v % 1;omega
 | n+1=>by
  rw [au,z7,aA,sQ v n,Int.pow_succ]
  have hp:=sK n
  generalize (256:Int) ^ n = p at *
  have h1:v % (p*256) = v % p+p*(v / p % 256):=by
   rw [Int.emod_def v (p*256), ← Int.ediv_ediv_of_nonneg (by omega:(0:Int)≤p),Int.emod_def v p,Int.emod_def (v / p) 256,Int.mul_sub,Int.mul_assoc]
   omega
  rw [h1,Int.mul_comm,Int.add_comm]
theorem Lf:∀ (b:List Int) (a:Int),aB b→au (a*256 ^ b.length+aC b) b.length = b
 | [],_,_=>rfl
 | x :: b,a,h=>by
  obtain ⟨hx,hb⟩:=dY.1 h
  obtain ⟨h1,h2⟩:=xu hb
  rw [List.length_cons,au,z7]
  have hp:=sK b.length
  have e:a*256 ^ (b.length+1)+(x*256 ^ b.length+aC b) = (a*256+x)*256 ^ b.length+aC b:=by
   rw [Int.pow_succ,Int.add_mul,Int.mul_assoc,Int.mul_comm 256 (256 ^ b.length),Int.add_assoc]
  rw [e,Lf b _ hb]
  congr 1
  rw [Int.add_comm,Int.add_mul_ediv_right _ _ (by omega),Int.ediv_eq_zero_of_lt h1 h2]
  omega
theorem iQ {b:List Int} (h:aB b):au (aC b) b.length = b:=by
 have:=Lf b 0 h
 rwa [Int.zero_mul,Int.zero_add] at this
theorem QN {a b:List Int} (ha:aB a) (hb:aB b) (hl:a.length = b.length) (h:aC a = aC b):a = b:=by
 rw [← iQ ha, ← iQ hb,hl,h]
theorem Lz {v:Int} (h:0≤v) (h':v < 256):au v 1 = [v]:=by
 show [v / 256 ^ 0 % 256] = [v]
 rw [Int.pow_zero,Int.ediv_one]
 congr 1;omega
theorem oQ (n:Int):IntKind.wrap .u8 n = n % 256:=by
 simp only [IntKind.wrap,IntKind.bits,IntKind.signed]
 simp
theorem QO (n:Int):IntKind.wrap .u32 n = n % 4294967296:=by
 simp only [IntKind.wrap,IntKind.bits,IntKind.signed]
 simp
theorem Di {n:Int} (h:0≤n) (h':n < 256):IntKind.wrap .u8 n = n:=by rw [oQ];omega
theorem fC {n:Int} (h:0≤n) (h':n < 4294967296):IntKind.wrap .u32 n = n:=by rw [QO];omega
theorem RR {k:Nat} (h:k≤7):p2 (8*(k:Int)) 64 = 256 ^ k:=by
 show (2:Int) ^ min (8*(k:Int)).toNat 64 = 256 ^ k
 have e:min (8*(k:Int)).toNat 64 = 8*k:=by omega
 rw [e,Int.pow_mul]
 rfl
theorem CG (v:Int) {k:Nat} (h:k≤7):IntKind.wrap .u8 (Int.fdiv v (p2 (8*(k:Int)) 64)) = (v / 256 ^ k) % 256:=by
 rw [RR h,oQ,Int.fdiv_eq_ediv_of_nonneg _ (by have:=sK k;omega)]
theorem LV {v x:Int} (h0:0≤v) (h1:v < 36028797018963968) (h2:0≤x) (h3:x < 256):ac (tB 64 (ac (v*256)) (ac x)) = v*256+x:=by
 rw [ay (n:=v*256) (by omega) (by omega),ay (n:=x) (by omega) (by omega)]
 have e:tB 64 (v*256) x = v*256+x:=by
  show ((BitVec.ofInt 64 (v*256) ||| BitVec.ofInt 64 x).toNat:Int) = _
  obtain ⟨a,rfl⟩:=Int.eq_ofNat_of_zero_le h0
  obtain ⟨c,rfl⟩:=Int.eq_ofNat_of_zero_le h2
  have e1:(BitVec.ofInt 64 ((a:Int)*256)).toNat = a <<< 8:=by
   rw [BitVec.toNat_ofInt,Nat.shiftLeft_eq]
   omega
  have e2:(BitVec.ofInt 64 (c:Int)).toNat = c:=by
   rw [BitVec.toNat_ofInt]
   omega
  rw [BitVec.toNat_or,e1,e2, ← Nat.shiftLeft_add_eq_or_of_lt (by omega:c < 2 ^ 8),Nat.shiftLeft_eq]
  omega
 rw [e,ay (by omega) (by omega)]
theorem OX {b:List Int} (h:aB b) (hl:b.length≤7) (i:Nat) (hi:i < b.length):0≤aC (b.take i)∧aC (b.take i) < 36028797018963968:=by
 have h1:=xu (h.take i)
 have h2:(b.take i).length≤6:=by rw [List.length_take];omega
 have:=kg (h.take i) h2 (B:=281474976710656) (by decide)
 omega
theorem yj {R:Type} (F:Int→Int→Option R) (b:List Int) (h:aB b) (hl:b.length≤7)
  (hF:∀ (i:Nat) (v:Int),i < b.length→F v i = F (ac (tB 64 (ac (v*256)) (ac (gD b i 0)))) ((i+1:Nat):Int)):F 0 0 = F (aC b) (b.length:Int):=by
 have key:∀ (n i:Nat),b.length = i+n→F (aC (b.take i)) (i:Int) = F (aC b) (b.length:Int):=by
  intro n
  induction n with
  | zero =>
   intro i hi
   have:i = b.length:=by omega
   subst this
   rw [List.take_length]
  | succ n ih =>
   intro i hi
   have hlt:i < b.length:=by omega
   obtain ⟨h1,h2⟩:=OX h hl i hlt
   have h3:=h.gD i
   rw [hF i _ hlt,LV h1 h2 h3.1 h3.2]
   have e:aC (b.take i)*256+gD b i 0 = aC (b.take (i+1)):=by
    rw [List.take_succ,List.getElem?_eq_getElem hlt]
    show _ = aC (b.take i++[b[i]])
    rw [P5,show gD b i 0 = b[i] by show b.getD i 0 = _;rw [List.getD_eq_getElem?_getD,List.getElem?_eq_getElem hlt];rfl]
    show _ = aC (b.take i)*256 ^ 1+(0*256+b[i])
    omega
   rw [e]
   exact ih (i+1) (by omega)
 exact key b.length 0 (by omega)
theorem bf {b:List Int} (h:aB b) (hl:b.length≤7):bV b = some (aC b):=by
 rw [JV,yj (fun v i=>ic b v i) b h hl fun i v hi=>?_]
 ·show ic b _ _ = _
  rw [tV,cJ,cond_false]
 ·show ic b v i = _
  rw [tV,dj hi,bH,cond_true,ap,ap,co hi (by omega),Int.toNat_natCast]
theorem jK {b:List Int} (h:aB b) (hl:b.length≤7):cR b = some (aC b):=by
 rw [DZ,yj (fun v i=>eX b v i) b h hl fun i v hi=>?_]
 ·show eX b _ _ = _
  rw [pC,cJ,cond_false]
 ·show eX b v i = _
  rw [pC,dj hi,bH,cond_true,ap,ap,co hi (by omega),Int.toNat_natCast]
theorem xZ (b:List Int) {n:Int} (h0:0≤n):ak b 0 (n - 0).toNat = b.take n.toNat:=by
 unfold ak;rw [List.drop_zero];congr 1;omega
theorem jF {T:Type} (b:List T) {n:Int} (h0:0≤n) (h1:n≤(b.length:Int)):ak b n.toNat ((b.length:Int) - n).toNat = b.drop n.toNat:=by
 unfold ak;rw [List.take_of_length_le];rw [List.length_drop];omega
theorem BP {n:Nat} {b:List Int} (h:aB b) (hn:n≤7) (hb:n≤b.length) (hB:b.length≤1000000000000):aq (n:Int) ⟨b⟩ = some (aC (b.take n),⟨b.drop n⟩):=by
 have e:ak b 0 ((n:Int) - 0).toNat = b.take n:=by rw [xZ b (by omega),Int.toNat_natCast]
 rw [uE,ab (by omega),ab (by show (n:Int)≤(b.length:Int);omega),e]
 have hl:(b.take n).length≤7:=by rw [List.length_take];omega
 have hx:=yj (fun v i=>cF (n:Int) v (b.take n) ((b.take n).length:Int) i ⟨b⟩) (b.take n) (h.take n) hl fun i v hi=>by
  show cF _ v _ _ _ _ = _
  rw [jA,dj hi,bH,cond_true,ap,ap,co hi (by omega),Int.toNat_natCast]
 rw [hx]
 show cF _ _ _ _ _ _ = _
 rw [jA,cJ,cond_false,ab (by omega),ab (by show (n:Int)≤(b.length:Int);omega),ab (by omega)]
 show some (_,(⟨ak b _ _⟩:GDocument_reader)) = _
 rw [jF b (by omega) (by omega),Int.toNat_natCast]
theorem pO {n:Nat} {b:List Int} {s:Bool} (h:aB b) (hn:n≤7) (hB:b.length≤1000000000000):an (n:Int) ⟨b,s⟩ = some (if n≤b.length then (aC (b.take n),⟨b.drop n,s⟩) else (0,⟨b,true⟩)):=by
 rw [yV]
 by_cases hb:n≤b.length
 ·rw [bp (by show ¬ ((b.length:Int) < (n:Int));omega),cond_false,if_pos hb]
  have e:ak b 0 ((n:Int) - 0).toNat = b.take n:=by rw [xZ b (by omega),Int.toNat_natCast]
  rw [ab (by omega),ab (by show (n:Int)≤(b.length:Int);omega),e]
  have hl:(b.take n).length≤7:=by rw [List.length_take];omega
  have hx:=yj (fun v i=>df (n:Int) v (b.take n) ((b.take n).length:Int) i ⟨b,s⟩) (b.take n) (h.take n) hl fun i v hi=>by
   show df _ v _ _ _ _ = _
   rw [lu,dj hi,bH,cond_true,ap,ap,co hi (by omega),Int.toNat_natCast]
  rw [hx]
  show df _ _ _ _ _ _ = _
  rw [lu,cJ,cond_false,ab (by omega),ab (by show (n:Int)≤(b.length:Int);omega),ab (by omega)]
  show some (_,(⟨ak b _ _,s⟩:GFact_reader)) = _
  rw [jF b (by omega) (by omega),Int.toNat_natCast]
 ·rw [aV (by show ((b.length:Int) < (n:Int));omega),cond_true,if_neg hb]
theorem xr {R:Type} (F:Int→List Int→Option R) (v:Int) (G:List Int→Option R) (hG:∀ b,F (-1) b = G b)
  (hF:∀ (k:Nat) (b:List Int),k≤7→b.length≤1000000000000→F (k:Int) b = F ((k:Int) - 1) (b++[(v / 256 ^ k) % 256])):∀ (n:Nat) (b:List Int),n≤8→b.length≤1000000000+(8 - n)→F ((n:Int) - 1) b = G (b++au v n)
 | 0,b,_,_=>by rw [show ((0:Nat):Int) - 1 = -1 by omega,hG];simp [au]
 | n+1,b,hn,hb=>by
  rw [show ((n+1:Nat):Int) - 1 = (n:Int) by omega,hF n b (by omega) (by omega),xr F v G hG hF n _ (by omega) (by rw [List.length_append,List.length_singleton];omega),au]
  simp
theorem Cz (k:Nat) (h:k≤7):ac ((k:Int) - 1) = (k:Int) - 1:=ay (by omega) (by omega)
theorem MY (k:Nat) (h:k≤7):ac (8*(k:Int)) = 8*(k:Int):=ay (by omega) (by omega)
theorem Qh (k:Nat) (h:k≤7):IntKind.wrap .u64 (8*(k:Int)) = 8*(k:Int):=Rz (by omega) (by omega)
theorem ii (v:Int) {n:Nat} (hn:n≤8):aN v (n:Int) = some (au v n):=by
 rw [Ip,show ac ((n:Int) - 1) = (n:Int) - 1 from ay (by omega) (by omega)]
 have:=xr (fun i b=>ig v i b) v some (fun b=>by
  show ig v (-1) b = _
  rw [t7,bp (by omega),cond_false]) (fun k b hk hb=>by
  show ig v k b = _
  rw [t7,bH,cond_true,MY k hk,Qh k hk,ab (by omega),ab (by omega),ab (by omega),CG v hk,Cz k hk]) n [] hn (by simp)
 rw [this];simp
theorem fY (v:Int) {n:Nat} (hn:n≤8) (b:List Int) (hb:b.length≤1000000000):aU v (n:Int) b = some (b++au v n):=by
 rw [DU,show ac ((n:Int) - 1) = (n:Int) - 1 from ay (by omega) (by omega)]
 exact xr (fun i b=>eV v i b) v some (fun b=>by
  show eV v (-1) b = _
  rw [pD,bp (by omega),cond_false]) (fun k b hk hb=>by
  show eV v k b = _
  rw [pD,bH,cond_true,MY k hk,Qh k hk,ab (by omega),ab (by omega),ab (by omega),CG v hk,Cz k hk]) n b hn (by omega)
theorem od (v:Int) {n:Nat} (hn:n≤8) (b:List Int) (hb:b.length≤1000000000):ba v (n:Int) b = some (b++au v n):=by
 rw [wK,show ac ((n:Int) - 1) = (n:Int) - 1 from ay (by omega) (by omega)]
 exact xr (fun i b=>cW v i b) v some (fun b=>by
  show cW v (-1) b = _
  rw [kN,bp (by omega),cond_false]) (fun k b hk hb=>by
  show cW v k b = _
  rw [kN,bH,cond_true,MY k hk,ab (by omega),ab (by omega),ab (by omega),CG v hk,Cz k hk]) n b hn (by omega)
theorem F8 (l:List (List Int)) (i:Nat) (hi:i < l.length):(l.take (i+1)).flatten = (l.take i).flatten++l[i]:=by
 rw [List.take_succ,List.getElem?_eq_getElem hi,List.flatten_append];simp
theorem m4 (l:List (List Int)) (hl:l.flatten.length≤1000000000) (hn:l.length≤1000000):gw l = some l.flatten:=by
 rw [Hb]
 have key:∀ (n i:Nat),l.length = i+n→lN l (i:Int) (l.take i).flatten = some l.flatten:=by
  intro n
  induction n with
  | zero =>
   intro i hi
   have:i = l.length:=by omega
   subst this
   rw [rN,cJ,cond_false,List.take_length]
  | succ n ih =>
   intro i hi
   have hlt:i < l.length:=by omega
   have hle:(l.take (i+1)).flatten.length≤l.flatten.length:=by
    conv=>rhs;rw [← List.take_append_drop (i+1) l,List.flatten_append,List.length_append]
    omega
   rw [F8 l i hlt,List.length_append] at hle
   rw [rN,dj hlt,bH,cond_true,ap,ap,cz hlt,ab (by omega),ab (by omega),co hlt (by omega), ← F8 l i hlt]
   exact ih (i+1) (by omega)
 exact key l.length 0 (by omega)
end Go.Ax
set_option linter.all false
/- The checksum: bit by bit, and by a table;it is linear, and it shows a change of one byte. -/
set_option maxRecDepth 100000
namespace Go.Ax
abbrev d8:=BitVec 32
def sE:d8:=3988292384#32
def jU (x:d8):d8:=(x >>> 1) ^^^ (if x.getLsbD 0 then sE else 0#32)
def rP:Nat→d8→d8
 | 0,x=>x
 | n+1,x=>rP n (jU x)
theorem I4 (n:Nat):∀ x:d8,rP (n+1) x = jU (rP n x):=by
 induction n with
 | zero=>intro x;rfl
 | succ n ih=>intro x;rw [rP,ih (jU x), ← rP]
theorem Jb (a b:d8):jU (a ^^^ b) = jU a ^^^ jU b:=by
 unfold jU
 rw [BitVec.ushiftRight_xor_distrib,BitVec.getLsbD_xor]
 have e:(if (a.getLsbD 0 ^^ b.getLsbD 0) = true then sE else 0#32) = (if a.getLsbD 0 = true then sE else 0#32) ^^^ (if b.getLsbD 0 = true then sE else 0#32):=by
  cases a.getLsbD 0 <;> cases b.getLsbD 0 <;> simp
 rw [e]
 generalize (if a.getLsbD 0 = true then sE else 0#32) = p
 generalize (if b.getLsbD 0 = true then sE else 0#32) = q
 rw [BitVec.xor_assoc,BitVec.xor_assoc]
 congr 1
 rw [← BitVec.xor_assoc,BitVec.xor_comm (b >>> 1) p,BitVec.xor_assoc]
def hY (k:Nat) (y:d8):d8:=y &&& BitVec.ofNat 32 (2 ^ k - 1)
theorem m6 (k:Nat) (y:d8) (i:Nat):(hY k y).getLsbD i = (y.getLsbD i&&decide (i < k)):=by
 unfold hY
 rw [BitVec.getLsbD_and,BitVec.getLsbD_ofNat,Nat.testBit_two_pow_sub_one]
 by_cases h:i < 32
 ·simp [h]
 ·rw [BitVec.getLsbD_of_ge y i (by omega)];simp
theorem PM {k:Nat} (y:d8):hY k (hY (k+1) y) = hY k y:=by
 apply BitVec.eq_of_getLsbD_eq
 intro i hi
 rw [m6,m6,m6]
 by_cases h:i < k
 ·simp [h,show i < k+1 by omega]
 ·simp [h]
theorem Pn (k:Nat) (y:d8):hY (k+1) y >>> k = hY 1 (y >>> k):=by
 apply BitVec.eq_of_getLsbD_eq
 intro i hi
 rw [BitVec.getLsbD_ushiftRight,m6,m6,BitVec.getLsbD_ushiftRight]
 congr 1
 by_cases h:i < 1
 ·simp [h]
 ·simp [h]
theorem PA (z:d8):jU z = (z >>> 1) ^^^ jU (hY 1 z):=by
 have h1:hY 1 z >>> 1 = 0#32:=by
  apply BitVec.eq_of_getLsbD_eq
  intro i hi
  rw [BitVec.getLsbD_ushiftRight,m6]
  simp
 have h2:(hY 1 z).getLsbD 0 = z.getLsbD 0:=by rw [m6];simp
 unfold jU
 rw [h1,h2,BitVec.zero_xor]
theorem QL (k:Nat):∀ y:d8,rP k y = (y >>> k) ^^^ rP k (hY k y):=by
 induction k with
 | zero =>
  intro y
  have:hY 0 y = 0#32:=by unfold hY;simp
  rw [this]
  show y = (y >>> 0) ^^^ 0#32
  simp
 | succ k ih =>
  intro y
  rw [I4,ih y,Jb,I4 k (hY (k+1) y),ih (hY (k+1) y),PM,Jb,Pn, ← BitVec.xor_assoc]
  congr 1
  rw [PA (y >>> k),BitVec.shiftRight_add]
theorem Kg (x:d8):(jU x).getLsbD 31 = x.getLsbD 0:=by
 unfold jU
 rw [BitVec.getLsbD_xor,BitVec.getLsbD_ushiftRight,BitVec.getLsbD_of_ge x (1+31) (by omega)]
 cases x.getLsbD 0 <;> simp [sE] <;> decide
theorem O8 {x y:d8} (h:jU x = jU y):x = y:=by
 have h0:x.getLsbD 0 = y.getLsbD 0:=by rw [← Kg x, ← Kg y,h]
 unfold jU at h
 rw [h0] at h
 generalize (if y.getLsbD 0 = true then sE else 0#32) = p at h
 have h1:x >>> 1 = y >>> 1:=by
  have:=congrArg (· ^^^ p) h
  simpa [BitVec.xor_assoc] using this
 apply BitVec.eq_of_getLsbD_eq
 intro i hi
 cases i with
 | zero=>exact h0
 | succ i =>
  have:=congrArg (fun z=>BitVec.getLsbD z i) h1
  simp only [BitVec.getLsbD_ushiftRight] at this
  rwa [Nat.add_comm] at this
theorem Lp (n:Nat):∀ {x y:d8},rP n x = rP n y→x = y:=by
 induction n with
 | zero=>intro x y h;exact h
 | succ n ih=>intro x y h;exact O8 (ih h)
def nI (x:d8):Int:=(x.toNat:Int)
theorem H6 (x:d8):0≤nI x∧nI x < 4294967296:=⟨Int.natCast_nonneg _,by have:=x.isLt;unfold nI;omega⟩
theorem Rj {x y:d8} (h:nI x = nI y):x = y:=BitVec.eq_of_toNat_eq (by unfold nI at h;omega)
theorem CE (x:d8):BitVec.ofInt 32 (nI x) = x:=by
 apply BitVec.eq_of_toNat_eq
 rw [BitVec.toNat_ofInt]
 have:=x.isLt
 unfold nI
 omega
theorem wM (x y:d8):IntKind.wrap .u32 (gq 32 (nI x) (nI y)) = nI (x ^^^ y):=by
 have e:gq 32 (nI x) (nI y) = nI (x ^^^ y):=by
  show ((BitVec.ofInt 32 (nI x) ^^^ BitVec.ofInt 32 (nI y)).toNat:Int) = _
  rw [CE,CE];rfl
 rw [e,fC (H6 _).1 (H6 _).2]
theorem Lc (x:d8):Int.fdiv (nI x) 2 = nI (x >>> 1):=by
 unfold nI
 rw [BitVec.toNat_ushiftRight,Nat.shiftRight_eq_div_pow,Int.fdiv_eq_ediv_of_nonneg _ (by omega)]
 omega
theorem Qo (x:d8):Int.fdiv (nI x) 256 = nI (x >>> 8):=by
 unfold nI
 rw [BitVec.toNat_ushiftRight,Nat.shiftRight_eq_div_pow,Int.fdiv_eq_ediv_of_nonneg _ (by omega)]
 omega
theorem OJ (x:d8):IntKind.wrap .u32 (FL 32 (nI x) 1) = if x.getLsbD 0 = true then 1 else 0:=by
 have e:FL 32 (nI x) 1 = if x.getLsbD 0 = true then 1 else 0:=by
  show ((BitVec.ofInt 32 (nI x) &&& BitVec.ofInt 32 1).toNat:Int) = _
  rw [CE,BitVec.toNat_and,show (BitVec.ofInt 32 1).toNat = 1 from rfl,Nat.and_one_is_mod]
  have:x.getLsbD 0 = decide (x.toNat % 2 = 1):=by
   rw [show x.getLsbD 0 = x.toNat.testBit 0 from rfl,Nat.testBit_zero]
  rw [this]
  by_cases h:x.toNat % 2 = 1
  ·simp [h]
  ·rw [if_neg (by simpa using h)];omega
 rw [e]
 split <;> rfl
theorem LN:(3988292384:Int) = nI sE:=rfl
theorem AT:(4294967295:Int) = nI (BitVec.allOnes 32):=rfl
def yx (x:d8) (c:Int):d8:=rP 8 (x ^^^ BitVec.ofInt 32 c)
def vF (x:d8) (b:List Int):d8:=b.foldl yx x
def iL (b:List Int):Int:=nI (BitVec.allOnes 32 ^^^ vF (BitVec.allOnes 32) b)
theorem tM (b:List Int):0≤iL b∧iL b < 4294967296:=H6 _
theorem sy {c:Int} (h:0≤c∧c < 256):nI (BitVec.ofInt 32 c) = c:=by
 unfold nI;rw [BitVec.toNat_ofInt];omega
theorem iw (b:List Int) (i:Int) (x:d8) (k:Int) (h:k < 8) (h0:0≤k):cN b (nI x) i k = cN b (nI (jU x)) i (k+1):=by
 rw [mf,aV h,cond_true,OJ,Lc,LN,wM,show ac (k+1) = k+1 from ay (by omega) (by omega)]
 unfold jU
 cases x.getLsbD 0 with
 | true=>rfl
 | false=>simp [am]
theorem L5 (b:List Int) (i:Int) (x:d8):cN b (nI x) i 0 = bY b (nI (rP 8 x)) (ac (i+1)):=by
 rw [iw b i x 0 (by omega) (by omega),iw b i _ (0+1) (by omega) (by omega),iw b i _ (0+1+1) (by omega) (by omega),iw b i _ (0+1+1+1) (by omega) (by omega),iw b i _ (0+1+1+1+1) (by omega) (by omega),
  iw b i _ (0+1+1+1+1+1) (by omega) (by omega),iw b i _ (0+1+1+1+1+1+1) (by omega) (by omega),iw b i _ (0+1+1+1+1+1+1+1) (by omega) (by omega),mf,bp (by omega),cond_false]
 rfl
theorem qz {b:List Int} (h:aB b) (hl:b.length≤1000000000):l7 b = some (iL b):=by
 rw [Bj,AT]
 have:=(xH b (fun i x=>bY b (nI x) i) yx (fun _ _=>True) (fun i x hi _=>⟨by
  show bY b (nI x) i = bY b (nI (yx x b[i])) _
  have hb:=h b[i] (List.getElem_mem hi)
  rw [nA,dj hi,bH,cond_true,ap,ap,cz hi,fC hb.1 (by omega), ← sy hb,wM,L5,co hi (by omega),sy hb]
  rfl,trivial⟩) (BitVec.allOnes 32) trivial).1
 have this:bY b (nI (BitVec.allOnes 32)) 0 = bY b (nI (vF (BitVec.allOnes 32) b)) (b.length:Int):=this
 rw [this,nA,cJ,cond_false,AT,wM]
 rfl
def Pf (i:Nat):Int:=nI (rP 8 (BitVec.ofNat 32 i))
theorem lc (i:Int) (t4:Int) (t0 out:List Int) (x:d8) (k:Int) (h:k < 8) (h0:0≤k):cE i (nI x) t4 k t0 out = cE i (nI (jU x)) t4 (k+1) t0 out:=by
 rw [lD,aV h,cond_true,OJ,Lc,LN,wM,show ac (k+1) = k+1 from ay (by omega) (by omega)]
 unfold jU
 cases x.getLsbD 0 with
 | true=>rfl
 | false=>simp [aQ]
theorem OQ (i:Int) (t4:Int) (t0 out:List Int) (x:d8) (ho:out.length = 256) (h0:0≤i) (h1:i < 256):cE i (nI x) t4 0 t0 out = fu (ac (t4+1)) t0 (List.set out i.toNat (nI (rP 8 x))):=by
 rw [lc i t4 t0 out x 0 (by omega) (by omega),lc i t4 t0 out _ (0+1) (by omega) (by omega),lc i t4 t0 out _ (0+1+1) (by omega) (by omega),lc i t4 t0 out _ (0+1+1+1) (by omega) (by omega),lc i t4 t0 out _ (0+1+1+1+1) (by omega) (by omega),
  lc i t4 t0 out _ (0+1+1+1+1+1) (by omega) (by omega),lc i t4 t0 out _ (0+1+1+1+1+1+1) (by omega) (by omega),lc i t4 t0 out _ (0+1+1+1+1+1+1+1) (by omega) (by omega),lD,bp (by omega),cond_false,ab ho,ab h0,ab h1]
 rfl
theorem Lg (out:List Int) (h:out.length = 256):((List.range 256).map fun i=>gD out i 0) = out:=by
 apply List.ext_getElem
 ·simp [h]
 ·intro i h1 h2
  rw [List.getElem_map,List.getElem_range]
  show out.getD i 0 = _
  rw [List.getD_eq_getElem?_getD,List.getElem?_eq_getElem h2];rfl
def ku (n:Nat):List Int:=(List.range 256).map fun i=>if i < n then Pf i else 0
theorem kU (n:Nat):(ku n).length = 256:=by unfold ku;rw [List.length_map,List.length_range]
theorem Pd (n:Nat) (h:n < 256):List.set (ku n) n (Pf n) = ku (n+1):=by
 apply List.ext_getElem
 ·rw [List.length_set,kU,kU]
 ·intro i h1 h2
  rw [List.getElem_set]
  simp only [ku,List.getElem_map,List.getElem_range]
  split
  ·next e=>subst e;rw [if_pos (by omega)]
  ·next e =>
   by_cases hi:i < n
   ·rw [if_pos hi,if_pos (by omega)]
   ·rw [if_neg hi,if_neg (by omega)]
theorem zr:qb = some (ku 256):=by
 rw [A4]
 have key:∀ (n i:Nat) (t0:List Int),t0.length = 256→256 = i+n→fu (i:Int) t0 (ku i) = some (ku 256):=by
  intro n
  induction n with
  | zero =>
   intro i t0 ht hi
   have:i = 256:=by omega
   subst this
   rw [nK,bp (by omega),cond_false,ab (by rw [kU]),ab (by rw [ht])]
   exact congrArg some (Lg (ku 256) (kU _))
  | succ n ih =>
   intro i t0 ht hi
   have hlt:i < 256:=by omega
   have e:IntKind.wrap .u32 (i:Int) = nI (BitVec.ofNat 32 i):=by
    rw [fC (by omega) (by omega)]
    unfold nI;rw [BitVec.toNat_ofNat];omega
   rw [nK,aV (by omega),cond_true,e,OQ _ _ _ _ _ (kU i) (by omega) (by omega),Int.toNat_natCast,show ac ((i:Int)+1) = ((i+1:Nat):Int) by rw [ay (by omega) (by omega)];omega]
   have:List.set (ku i) i (nI (rP 8 (BitVec.ofNat 32 i))) = ku (i+1):=Pd i hlt
   rw [this]
   exact ih (i+1) t0 ht (by omega)
 exact key 256 0 _ rfl (by omega)
theorem Qx (x:d8) {c:Int} (h:0≤c∧c < 256):IntKind.wrap .u8 (gq 8 (IntKind.wrap .u8 (nI x)) c) = ((hY 8 (x ^^^ BitVec.ofInt 32 c)).toNat:Int):=by
 have hx:=x.isLt
 have e1:(hY 8 (x ^^^ BitVec.ofInt 32 c)).toNat = (x.toNat ^^^ c.toNat) % 256:=by
  unfold hY
  rw [BitVec.toNat_and,BitVec.toNat_xor,show (BitVec.ofInt 32 c).toNat = c.toNat by rw [BitVec.toNat_ofInt];omega,show (BitVec.ofNat 32 (2 ^ 8 - 1)).toNat = 2 ^ 8 - 1 from rfl,Nat.and_two_pow_sub_one_eq_mod]
 have e2:gq 8 (IntKind.wrap .u8 (nI x)) c = (((x.toNat ^^^ c.toNat) % 256:Nat):Int):=by
  show ((BitVec.ofInt 8 (IntKind.wrap .u8 (nI x)) ^^^ BitVec.ofInt 8 c).toNat:Int) = _
  have a1:(BitVec.ofInt 8 (IntKind.wrap .u8 (nI x))).toNat = x.toNat % 256:=by
   rw [BitVec.toNat_ofInt,oQ];unfold nI;omega
  have a2:(BitVec.ofInt 8 c).toNat = c.toNat % 256:=by rw [BitVec.toNat_ofInt];omega
  rw [BitVec.toNat_xor,a1,a2,show (256:Nat) = 2 ^ 8 from rfl,Nat.xor_mod_two_pow]
 rw [e2,e1,Di (by omega) (by omega)]
theorem LU (y:d8):(hY 8 y).toNat < 256:=by
 unfold hY
 rw [BitVec.toNat_and,show (BitVec.ofNat 32 (2 ^ 8 - 1)).toNat = 2 ^ 8 - 1 from rfl,Nat.and_two_pow_sub_one_eq_mod]
 omega
theorem Qz (y:d8):gD (ku 256) (hY 8 y).toNat 0 = nI (rP 8 (hY 8 y)):=by
 have hlt:=LU y
 show (ku 256).getD _ 0 = _
 rw [List.getD_eq_getElem?_getD,List.getElem?_eq_getElem (by rw [kU];exact hlt)]
 unfold ku
 rw [List.getElem_map,List.getElem_range,if_pos hlt,Option.getD_some]
 unfold Pf
 rw [BitVec.ofNat_toNat]
 congr 2
theorem Oh (x:d8) {c:Int} (h:0≤c∧c < 256):(x ^^^ BitVec.ofInt 32 c) >>> 8 = x >>> 8:=by
 rw [BitVec.ushiftRight_xor_distrib]
 have:BitVec.ofInt 32 c >>> 8 = 0#32:=by
  apply BitVec.eq_of_toNat_eq
  rw [BitVec.toNat_ushiftRight,Nat.shiftRight_eq_div_pow,BitVec.toNat_ofInt]
  show _ = 0
  omega
 rw [this,BitVec.xor_zero]
theorem jm {b:List Int} (h:aB b) (hl:b.length≤1000000000):gc b = some (iL b):=by
 rw [w0,zr,Option.bind_some,AT]
 have e0:∀ v t8 t9 t10 (t:List Int),t.length = 256→bh v t8 t9 t10 ((List.range 256).map fun i=>gD t i 0) = bh v t8 t9 t10 t:=fun v t8 t9 t10 t ht=>by rw [Lg t ht]
 refine (e0 _ _ _ _ (ku 256) (kU _)).trans ?_
 have:=(xH b (fun i x=>bh (nI x) b (b.length:Int) i (ku 256)) yx (fun _ _=>True) (fun i x hi _=>⟨by
  show bh (nI x) b _ i _ = bh (nI (yx x b[i])) b _ _ _
  have hb:=h b[i] (List.getElem_mem hi)
  have hlt:=LU (x ^^^ BitVec.ofInt 32 b[i])
  rw [kE,dj hi,bH,cond_true,ap,ap,cz hi,Qx x hb,ab (kU _),ab (by omega),ab (by omega),Int.toNat_natCast,Qz,Qo,wM,co hi (by omega)]
  congr 2
  show _ = rP 8 (x ^^^ BitVec.ofInt 32 b[i])
  rw [QL 8 (x ^^^ BitVec.ofInt 32 b[i]),Oh x hb],trivial⟩) (BitVec.allOnes 32) trivial).1
 have this:bh (nI (BitVec.allOnes 32)) b (b.length:Int) 0 (ku 256) = bh (nI (vF (BitVec.allOnes 32) b)) b (b.length:Int) (b.length:Int) (ku 256):=this
 rw [this,kE,cJ,cond_false,AT,wM]
 rfl
theorem Jr (x:d8) (a b:List Int):vF x (a++b) = vF (vF x a) b:=List.foldl_append
theorem OO {x y:d8} {c:Int} (h:yx x c = yx y c):x = y:=by
 have:=Lp 8 h
 have:=congrArg (· ^^^ BitVec.ofInt 32 c) this
 simpa [BitVec.xor_assoc] using this
theorem HW:∀ {b:List Int} {x y:d8},vF x b = vF y b→x = y
 | [],x,y,h=>h
 | c :: b,x,y,h=>OO (HW (b:=b) h)
theorem NL {x:d8} {c d:Int} (hc:0≤c∧c < 256) (hd:0≤d∧d < 256) (h:yx x c = yx x d):c = d:=by
 have h1:=Lp 8 h
 have h2:BitVec.ofInt 32 c = BitVec.ofInt 32 d:=by
  have:=congrArg (x ^^^ ·) h1
  simpa [← BitVec.xor_assoc] using this
 rw [← sy hc, ← sy hd,h2]
theorem Pk {a b:List Int} (h:iL a = iL b):vF (BitVec.allOnes 32) a = vF (BitVec.allOnes 32) b:=by
 have h1:=Rj h
 have:=congrArg (BitVec.allOnes 32 ^^^ ·) h1
 simpa [← BitVec.xor_assoc] using this
theorem PO {p s:List Int} {c d:Int} (hc:0≤c∧c < 256) (hd:0≤d∧d < 256) (h:iL (p++c :: s) = iL (p++d :: s)):c = d:=by
 have h1:=Pk h
 rw [Jr,Jr] at h1
 exact NL hc hd (HW (b:=s) h1)
end Go.Ax
