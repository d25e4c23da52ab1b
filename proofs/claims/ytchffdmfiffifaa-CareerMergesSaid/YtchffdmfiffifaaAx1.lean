import Derived.Below
import Derived.Orders
import Derived.KernelRfl
/- Abstract values, abstract heaps and an abstract interpreter for the model's code. -/
namespace Go.Ax

/-- Immutable one-cell data: slices are read as functions from an index to the cells of an element. -/
inductive D where
  | unk
  | nil
  | lit (v : Value)
  | sl (k n : Nat) (el : Nat → List D)
  /-- a tuple of true and values, or of false alone -/
  | opt (b : Bool) (us : List Value)

/-- What a slot may hold: data, structs, references to the call's own objects. -/
inductive V where
  | c (d : D)
  | agg (vs : List V)
  | tup (vs : List V)
  /-- a pointer to cell j of element i (of k cells) of the own object o -/
  | ptr (o k i j : Nat)
  /-- a slice over the own object o, from element off on, n elements of k cells -/
  | row (o k off n : Nat)
  /-- a pointer to cell j of an immutable element with the k cells cs -/
  | dptr (k : Nat) (cs : List D) (j : Nat)
  | fn (f : FuncId) (caps : List V)

/-- The call's own objects. -/
inductive Ob where
  | box (cs : List V)
  | row (t : TypeId) (k n : Nat) (el : Nat → List D)
  | raw (x : Obj)

abbrev Heap := List (Nat × Option Ob)

def Heap.get : Heap → Nat → Option Ob
  | [], _ => none
  | (o', b) :: r, o => bif Nat.beq o' o then b else Heap.get r o

abbrev i64 (n : Int) : V := .c (.lit (.int .i64 n))
abbrev bl (b : Bool) : V := .c (.lit (.bool b))
abbrev str (s : ByteArray) : V := .c (.lit (.string s))

def D.ofCell : Value → D
  | .slice none 0 0 => .nil
  | v => .lit v

def V.ofValue : Value → V
  | .agg cs => .agg (cs.toList.map fun v => .c (D.ofCell v))
  | .tuple vs => match vs.toList with | [] => .c .unk | _ => .c (.lit (.tuple vs))
  | v => .c (D.ofCell v)

def V.isUnk : V → Bool
  | .c .unk => true
  | _ => false

/-- May the value stand in one cell? -/
def V.isCell : V → Bool
  | .c .unk => false
  | .c (.lit (.agg _)) => false
  | .c (.lit (.tuple _)) => false
  | .c (.opt ..) => false
  | .c _ => true
  | .ptr .. => true
  | .row .. => true
  | .fn .. => true
  | _ => false

def V.cells : V → List V
  | .agg vs => vs
  | v => [v]

def V.toD : V → Option D
  | .c .unk => none
  | .c (.lit (.agg _)) => none
  | .c (.lit (.tuple _)) => none
  | .c (.opt ..) => none
  | .c d => some d
  | _ => none

/-- The view of an own reference as data. -/
def vrow (H : Heap) (o k off n : Nat) : V :=
  match H.get o with
  | some (.row _ k' _ el) => bif Nat.beq k' k then .c (.sl k n fun i => el (off + i)) else .c .unk
  | _ => .c .unk

def cellD (H : Heap) : V → D
  | .c d => d
  | .row o k off n => match vrow H o k off n with | .c d => d | _ => .unk
  | _ => .unk

def vptr (H : Heap) (o k i j : Nat) : V :=
  match H.get o with
  | some (.row _ k' _ el) => bif Nat.beq k' k then .dptr k (el i) j else .c .unk
  | some (.box cs) => bif Nat.beq cs.length k then .dptr k (cs.map (cellD H)) j else .c .unk
  | some (.raw _) => .c .unk
  | none => .c .unk

/-- Cells of plain values. -/
def eI64 (x : Int) : List D := [.lit (.int .i64 x)]
def dI64 : List D → Int
  | [.lit (.int .i64 x)] => x
  | _ => 0
def eU64 (x : Int) : List D := [.lit (.int .u64 x)]
def dU64 : List D → Int
  | [.lit (.int .u64 x)] => x
  | _ => 0
def eU32 (x : Int) : List D := [.lit (.int .u32 x)]
def dU32 : List D → Int
  | [.lit (.int .u32 x)] => x
  | _ => 0
def eI32 (x : Int) : List D := [.lit (.int .i32 x)]
def dI32 : List D → Int
  | [.lit (.int .i32 x)] => x
  | _ => 0
def eU16 (x : Int) : List D := [.lit (.int .u16 x)]
def dU16 : List D → Int
  | [.lit (.int .u16 x)] => x
  | _ => 0
def eI16 (x : Int) : List D := [.lit (.int .i16 x)]
def dI16 : List D → Int
  | [.lit (.int .i16 x)] => x
  | _ => 0
def eU8 (x : Int) : List D := [.lit (.int .u8 x)]
def dU8 : List D → Int
  | [.lit (.int .u8 x)] => x
  | _ => 0
def eI8 (x : Int) : List D := [.lit (.int .i8 x)]
def dI8 : List D → Int
  | [.lit (.int .i8 x)] => x
  | _ => 0
def eBool (x : Bool) : List D := [.lit (.bool x)]
def dBool : List D → Bool
  | [.lit (.bool x)] => x
  | _ => false
def bstr (l : List Nat) : ByteArray := ⟨(l.map UInt8.ofNat).toArray⟩
def eStr (x : ByteArray) : List D := [.lit (.string x)]
def dStr : List D → ByteArray
  | [.lit (.string x)] => x
  | _ => bstr []
/-- Cells, as a list. -/
def lst {T : Type} (dec : List D → T) (n : Nat) (el : Nat → List D) : List T := (List.range n).map fun i => dec (el i)
/-- Numbers, as bytes. -/
def bytesL (l : List Int) : ByteArray := ⟨(l.map fun x => UInt8.ofNat x.toNat).toArray⟩
def runeAt (s : ByteArray) (pos : Nat) : Int := (Utf8.decode s pos).1
def runeW (s : ByteArray) (pos : Nat) : Nat := (Utf8.decode s pos).2

mutual
def V.view (H : Heap) : V → V
  | .c .nil => .c (.sl 0 0 fun _ => [])
  | .c d => .c d
  | .agg vs => .agg (V.views H vs)
  | .tup vs => .tup (V.views H vs)
  | .ptr o k i j => vptr H o k i j
  | .row o k off n => vrow H o k off n
  | .dptr k cs j => .dptr k cs j
  | .fn f caps => .fn f (V.views H caps)
def V.views (H : Heap) : List V → List V
  | [] => []
  | v :: r => V.view H v :: V.views H r
end

mutual
/-- The own objects that a value names. -/
def V.refs : V → List Nat
  | .c _ => []
  | .agg vs => V.refss vs
  | .tup vs => V.refss vs
  | .ptr o _ _ _ => [o]
  | .row o _ _ _ => [o]
  | .dptr .. => []
  | .fn _ caps => V.refss caps
def V.refss : List V → List Nat
  | [] => []
  | v :: r => V.refs v ++ V.refss r
end

mutual
/-- References to object o are forgotten. -/
def V.kill (o : Nat) : V → V
  | .c d => .c d
  | .agg vs => .agg (V.kills o vs)
  | .tup vs => .tup (V.kills o vs)
  | .ptr o' k i j => bif Nat.beq o' o then .c .unk else .ptr o' k i j
  | .row o' k off n => bif Nat.beq o' o then .c .unk else .row o' k off n
  | .dptr k cs j => .dptr k cs j
  | .fn f caps => .fn f (V.kills o caps)
def V.kills (o : Nat) : List V → List V
  | [] => []
  | v :: r => V.kill o v :: V.kills o r
end

/-- What a contract gives: data, data in new memory alone, or a new row. -/
inductive Out where
  | data (v : V)
  | new (v : V)
  | own (fresh : Bool) (t : TypeId) (k n : Nat) (el : Nat → List D)

abbrev Con := List V → Option (List Prop × Out)

structure Res where
  pre : List Prop := []
  val : V
  eff : Heap := []
  kill : List Nat := []

/-- A contract: of a function that leaves the caller's objects alone, or of one that changes those that it is handed. -/
inductive CC where
  | pure (c : Con)
  | mut (m : Heap → Nat → List V → Option Res)

/-- The objects that the values name, and those that the boxes among them name. -/
def reachOf (H : Heap) (vs : List V) : List Nat :=
  V.refss vs ++ (V.refss vs).flatMap fun o => match H.get o with | some (.box cs) => V.refss cs | _ => []
/-- Some objects of a heap alone. -/
def restr : List Nat → Heap → Heap
  | [], _ => []
  | o :: r, H => match Heap.get H o with | some b => (o, some b) :: restr r H | none => restr r H

def isRow : Option Ob → Bool
  | some (.row ..) => true
  | _ => false
mutual
def V.noUnk : V → Bool
  | .c .unk => false
  | .c _ => true
  | .agg vs => V.noUnks vs
  | .tup vs => V.noUnks vs
  | .ptr .. => true
  | .row .. => true
  | .dptr .. => true
  | .fn _ vs => V.noUnks vs
def V.noUnks : List V → Bool
  | [] => true
  | v :: r => V.noUnk v && V.noUnks r
end

/-- Nothing in the object is forgotten. -/
def solid : Option Ob → Bool
  | some (.row ..) => true
  | some (.raw _) => true
  | some (.box cs) => V.noUnks cs
  | none => false
def boxRefs : Option Ob → List Nat
  | some (.box cs) => V.refss cs
  | _ => []
/-- Of the objects that the values reach: is nothing in them forgotten, and what do their boxes name? -/
def solidOf (H : Heap) (vs : List V) : Bool × List Nat := ((reachOf H vs).all fun o => solid (H.get o), (reachOf H vs).flatMap fun o => boxRefs (H.get o))
def effRefs (H : Heap) : List Nat := H.flatMap fun x => boxRefs x.2
/-- The objects that the values name are rows. -/
def rowsR (H : Heap) (vs : List V) : Bool := (V.refss vs).all fun o => isRow (H.get o)

section
variable (P : Program)

def sz (t : TypeId) : Nat := match P.underlying t, P.info? t with | some _, some i => i.size | _, _ => 0
def byt (t : TypeId) : Nat := match P.info? t with | some i => i.bytes | none => 0
def isAg (t : TypeId) : Bool := match P.underlying t with | some (.struct _) => true | some (.array _ _) => true | _ => false
/-- The type is known, and a value of it has a cell or is a struct or an array. -/
def tyOk (t : TypeId) : Bool := isAg P t || Nat.blt 0 (sz P t)
def zeroV (t : TypeId) : Option V := match P.info? t with | some i => (match i.zero with | some (.tuple _) => none | some v => some (V.ofValue v) | none => none) | none => none

def known (t : TypeId) : Bool := match P.underlying t with | some _ => true | none => false

/-- cells j .. j+n of a list of cells, as a value of a type. -/
def takeV (ag : Bool) (cs : List V) (j n : Nat) : V :=
  bif ag then .agg ((cs.drop j).take n) else (cs.drop j).headD (.c .unk)
def takeD (ag : Bool) (cs : List D) (j n : Nat) : V :=
  bif ag then .agg ((List.range n).map fun q => .c (cs.getD (j + q) .unk)) else .c (cs.getD j .unk)

def setL {α : Type} : List α → Nat → List α → List α
  | cs, _, [] => cs
  | cs, off, x :: r => setL (cs.set off x) (off + 1) r

def loadV (H : Heap) (t : TypeId) (a : V) : Option Res :=
  match a with
  | .ptr o k i j =>
    match H.get o with
    | some (.box cs) => bif Nat.beq cs.length k && Nat.ble (j + sz P t) k && tyOk P t then some { val := takeV (isAg P t) cs j (sz P t) } else none
    | some (.row _ k' m el) =>
      bif Nat.beq k' k && Nat.ble (j + sz P t) k && tyOk P t then some { val := takeD (isAg P t) (el i) j (sz P t) }
      else bif Nat.beq k' k && Nat.beq i 0 && Nat.beq j 0 && Nat.beq (m * k) (sz P t) && isAg P t then
        some { val := .agg ((List.range m).flatMap fun i => (List.range k).map fun q => .c ((el i).getD q .unk)) }
      else none
    | some (.raw _) => none
    | none => none
  | .dptr k cs j => bif Nat.ble (j + sz P t) k && tyOk P t then some { val := takeD (isAg P t) cs j (sz P t) } else none
  | _ => none

def storeV (H : Heap) (t : TypeId) (a x : V) : Option Res :=
  bif Nat.beq x.cells.length (sz P t) && x.cells.all V.isCell && known P t then
    match a with
    | .ptr o k i j =>
      match H.get o with
      | some (.box cs) => bif Nat.beq cs.length k && Nat.ble (j + sz P t) k then some { val := .c .unk, eff := [(o, some (.box (setL cs j x.cells)))] } else none
      | some (.row e k' n el) =>
        match x.cells.mapM V.toD with
        | some ds => bif Nat.beq k' k && Nat.ble (j + sz P t) k then some { val := .c .unk, eff := [(o, some (.row e k n fun q => bif Nat.beq q i then setL (el i) j ds else el q))] } else none
        | none => none
      | some (.raw _) => none
      | none => none
    | _ => none
  else none

def fieldOff (t : TypeId) (f : Nat) : Option (Nat × TypeId) :=
  match P.underlying t with
  | some (.struct fs) => (match fs[f]? with | some fl => some (fl.offset, fl.type) | none => none)
  | _ => none

def binInt (op : BinOp) (k : IntKind) (a b : Int) : Option Res :=
  match op with
  | .add => some { val := .c (.lit (.int k (k.wrap (a + b)))) }
  | .sub => some { val := .c (.lit (.int k (k.wrap (a - b)))) }
  | .mul => some { val := .c (.lit (.int k (k.wrap (a * b)))) }
  | .quo => some { pre := [b ≠ 0], val := .c (.lit (.int k (k.wrap (a.tdiv b)))) }
  | .rem => some { pre := [b ≠ 0], val := .c (.lit (.int k (a.tmod b))) }
  | .and => some { val := .c (.lit (.int k (k.wrap (BitVec.ofInt k.bits a &&& BitVec.ofInt k.bits b).toNat))) }
  | .or => some { val := .c (.lit (.int k (k.wrap (BitVec.ofInt k.bits a ||| BitVec.ofInt k.bits b).toNat))) }
  | .xor => some { val := .c (.lit (.int k (k.wrap (BitVec.ofInt k.bits a ^^^ BitVec.ofInt k.bits b).toNat))) }
  | .andNot => some { val := .c (.lit (.int k (k.wrap (BitVec.ofInt k.bits a &&& ~~~(BitVec.ofInt k.bits b)).toNat))) }
  | .eql => some { val := bl (a == b) }
  | .neq => some { val := bl (a != b) }
  | .lss => some { val := bl (decide (a < b)) }
  | .leq => some { val := bl (decide (a ≤ b)) }
  | .gtr => some { val := bl (decide (b < a)) }
  | .geq => some { val := bl (decide (b ≤ a)) }
  | _ => none

def binShift (op : BinOp) (k : IntKind) (a y : Int) : Option Res :=
  match op with
  | .shl => some { pre := [0 ≤ y], val := .c (.lit (.int k (k.wrap (a * 2 ^ min y.toNat k.bits)))) }
  | .shr => some { pre := [0 ≤ y], val := .c (.lit (.int k (a.fdiv (2 ^ min y.toNat k.bits)))) }
  | _ => none

def binStr (op : BinOp) (x y : ByteArray) : Option Res :=
  match op with
  | .add => some { pre := [x.size + y.size ≤ 9223372036854775807], val := str (x ++ y) }
  | .eql => some { val := bl (x.toList == y.toList) }
  | .neq => some { val := bl (!(x.toList == y.toList)) }
  | .lss => some { val := bl (Op.bytesLess x.toList y.toList) }
  | .leq => some { val := bl (Op.bytesLess x.toList y.toList || x.toList == y.toList) }
  | .gtr => some { val := bl (!(Op.bytesLess x.toList y.toList || x.toList == y.toList)) }
  | .geq => some { val := bl (!(Op.bytesLess x.toList y.toList)) }
  | _ => none

/-- Equality at a type: numbers, bools, strings, structs of such. -/
def eqV : Nat → TypeId → V → V → Option Bool
  | 0, _, _, _ => none
  | d + 1, t, x, y =>
    match P.underlying t, x, y with
    | some (.int _), .c (.lit (.int k a)), .c (.lit (.int k' b)) => if k = k' then some (a == b) else none
    | some .bool, .c (.lit (.bool a)), .c (.lit (.bool b)) => some (a == b)
    | some .string, .c (.lit (.string a)), .c (.lit (.string b)) => some (a.toList == b.toList)
    | some (.struct fs), .agg xs, .agg ys =>
      bif P.stoodInHeld t then none else
      fs.toList.foldr (fun f acc => bif f.name == "_" then none else
        bif Nat.ble (f.offset + sz P f.type) xs.length && Nat.ble (f.offset + sz P f.type) ys.length && tyOk P f.type then
        match eqV d f.type (takeV (isAg P f.type) xs f.offset (sz P f.type)) (takeV (isAg P f.type) ys f.offset (sz P f.type)), acc with
        | some a, some b => some (a && b)
        | _, _ => none
        else none) (some true)
    | _, _, _ => none

def binV (op : BinOp) (t : TypeId) (x y : V) : Option Res :=
  match x, y with
  | .c (.lit (.int k a)), .c (.lit (.int k' b)) =>
    match op with
    | .shl => binShift op k a b
    | .shr => binShift op k a b
    | op => if k = k' then binInt op k a b else none
  | .c (.lit (.string a)), .c (.lit (.string b)) => binStr op a b
  | .c (.lit (.bool a)), .c (.lit (.bool b)) =>
    match P.underlying t, op with
    | some .bool, .eql => some { val := bl (a == b) }
    | some .bool, .neq => some { val := bl (!(a == b)) }
    | _, _ => none
  | .agg xs, .agg ys =>
    bif P.eqGuardType P.depth t then none else
    match op, eqV P 10 t (.agg xs) (.agg ys) with
    | .eql, some b => some { val := bl b }
    | .neq, some b => some { val := bl (!b) }
    | _, _ => none
  | _, _ => none

def unV (op : UnOp) (x : V) : Option Res :=
  match op, x with
  | .neg, .c (.lit (.int k n)) => some { val := .c (.lit (.int k (k.wrap (0 - n)))) }
  | .not, .c (.lit (.bool b)) => some { val := bl (!b) }
  | _, _ => none

def convV (src dst : TypeId) (x : V) : Option Res :=
  match P.underlying src, P.underlying dst, x with
  | some (.int _), some (.int k), .c (.lit (.int _ n)) => some { val := .c (.lit (.int k (k.wrap n))) }
  | some .string, some .string, .c (.lit (.string s)) => some { val := str s }
  | _, _, _ => none

/-- A slice that is read: its cells an element, its length, its elements. -/
def asSl (H : Heap) : V → Option (Nat × Nat × (Nat → List D))
  | .c .nil => some (0, 0, fun _ => [])
  | .c (.sl k n el) => some (k, n, el)
  | .row o k off n => match H.get o with | some (.row _ k' _ el) => bif Nat.beq k' k then some (k, n, fun i => el (off + i)) else none | _ => none
  | _ => none

/-- Bytes, as a string. -/
def bytesV (H : Heap) (x : V) : Option Res :=
  match asSl H x with
  | some (k, n, el) => some { pre := [0 < n → k = 1, ∀ i, i < n → el i = eU8 (dU8 (el i))], val := str (bytesL (lst dU8 n el)) }
  | none => none
def lenV (t : TypeId) (x : V) : Option Res :=
  match P.underlying t, x with
  | some (.slice _), .c .nil => some { val := i64 0 }
  | some (.slice _), .c (.sl _ n _) => some { val := i64 n }
  | some (.slice _), .row _ _ _ n => some { val := i64 n }
  | some .string, .c (.lit (.string s)) => some { val := i64 s.size }
  | _, _ => none

def minStep (m x : V) : Option V :=
  match m, x with | .c (.lit (.int k a)), .c (.lit (.int _ b)) => some (V.c (.lit (.int k (if b < a then b else a)))) | _, _ => none
def maxStep (m x : V) : Option V :=
  match m, x with | .c (.lit (.int k a)), .c (.lit (.int _ b)) => some (V.c (.lit (.int k (if a < b then b else a)))) | _, _ => none
def minV : List V → Option V
  | [] => none
  | x :: r => r.foldlM minStep x
def maxV : List V → Option V
  | [] => none
  | x :: r => r.foldlM maxStep x

def zeroD (t : TypeId) : Option (List D) := match zeroV P t with | some v => v.cells.mapM V.toD | none => none

def appendV (H : Heap) (nid : Nat) (t : TypeId) (s x : V) : Option Res :=
  match P.underlying t, asSl H x with
  | some (.slice e), some (k2, n2, el2) =>
    match zeroD P e with
    | some z =>
    bif Nat.beq z.length (sz P e) && Nat.blt 0 (sz P e) && (Nat.beq k2 (sz P e) || Nat.beq k2 0 && Nat.beq n2 0) then
    match s with
    | .c .nil => some { pre := [n2 * byt P e ≤ 70368744177664, n2 ≤ 70368744177664], val := .row nid (sz P e) 0 n2, eff := [(nid, some (.row e (sz P e) n2 el2))] }
    | .row o k off n =>
      match H.get o with
      | some (.row e' k' m el) => bif Nat.beq off 0 && Nat.beq e' e && Nat.beq k' k && Nat.beq k (sz P e) then some { pre := [n = m, (n + n2) * byt P e ≤ 70368744177664, n + n2 ≤ 70368744177664], val := .row o k 0 (n + n2), eff := [(o, some (.row e k (n + n2) fun i => bif Nat.blt i n then el i else el2 (i - n)))], kill := [o] } else none
      | _ => none
    | _ => none
    else none
    | none => none
  | _, _ => none

/-- One part of a literal. -/
def partStep (place : Nat → Option (Nat × Nat)) (cs : List V) (p : Nat × V) : Option (List V) :=
  match place p.1 with
  | some (off, size) => bif Nat.beq p.2.cells.length size && p.2.cells.all V.isCell && Nat.ble (off + size) cs.length then some (setL cs off p.2.cells) else none
  | none => none

def placeS (fs : Array Field) (i : Nat) : Option (Nat × Nat) := match fs[i]? with | some f => some (f.offset, sz P f.type) | none => none

def buildV (t : TypeId) (parts : List (Nat × V)) : Option Res :=
  match P.underlying t, zeroV P t with
  | some (.struct fs), some z => bif fs.toList.all (fun f => known P f.type) then (match parts.foldlM (partStep (placeS P fs)) z.cells with | some cs => some { val := .agg cs } | none => none) else none
  | some (.array _ e), some z => bif known P e then (match parts.foldlM (partStep fun i => some (i * sz P e, sz P e)) z.cells with | some cs => some { val := .agg cs } | none => none) else none
  | _, _ => none

/-- The cells of n elements, each the zero value. -/
def zeros (z : List V) (k n : Nat) : List V := (List.range (n * k)).map fun q => z.getD (q % k) (.c .unk)

def buildSliceV (nid : Nat) (t : TypeId) (len : Nat) (parts : List (Nat × V)) : Option Res :=
  match P.underlying t with
  | some (.slice e) =>
    match zeroV P e with
    | some z =>
      bif Nat.beq z.cells.length (sz P e) && Nat.blt 0 (sz P e) && Nat.ble (len * sz P e) 16777216 && known P e then
      match parts.foldlM (partStep fun i => some (i * sz P e, sz P e)) (zeros z.cells (sz P e) len) with
      | some cs => match cs.mapM V.toD with
        | some ds => some { val := .row nid (sz P e) 0 len, eff := [(nid, some (.row e (sz P e) len fun i => (ds.drop (i * sz P e)).take (sz P e)))] }
        | none => none
      | none => none
      else none
    | none => none
  | _ => none

def makeSliceV (nid : Nat) (t : TypeId) (l c : V) : Option Res :=
  match P.underlying t, l, c with
  | some (.slice e), .c (.lit (.int .i64 a)), .c (.lit (.int .i64 b)) =>
    match zeroD P e with
    | some z => bif Nat.beq z.length (sz P e) && Nat.blt 0 (sz P e) && Nat.blt 0 (byt P e) && known P e then some { pre := [0 ≤ a, a ≤ b, b * byt P e ≤ 70368744177664], val := .row nid (sz P e) 0 a.toNat, eff := [(nid, some (.row e (sz P e) a.toNat fun _ => z))] } else none
    | none => none
  | _, _, _ => none

def toNatV : V → Option (Int)
  | .c (.lit (.int _ n)) => some n
  | _ => none

def loV : Option V → Option Int
  | none => some 0
  | some v => toNatV v
def hiV (n : Int) : Option V → Option Int
  | none => some n
  | some v => toNatV v

def sliceV (t : TypeId) (x : V) (lo hi : Option V) : Option Res :=
  match P.underlying t, x with
  | some (.slice e), .c .nil => match P.underlying e, loV lo, hiV 0 hi with | some _, some l, some h => some { pre := [l = 0, h = 0], val := .c .nil } | _, _, _ => none
  | some (.slice e), .c (.sl k n el) => bif Nat.beq (sz P e) k then (match P.underlying e, loV lo, hiV n hi with | some _, some l, some h => some { pre := [0 ≤ l, l ≤ h, h ≤ n], val := .c (.sl k (h - l).toNat fun i => el (l.toNat + i)) } | _, _, _ => none) else none
  | some (.slice e), .row o k off n => bif Nat.beq (sz P e) k then (match P.underlying e, loV lo, hiV n hi with | some _, some l, some h => some { pre := [0 ≤ l, l ≤ h, h ≤ n], val := .row o k (off + l.toNat) (h - l).toNat } | _, _, _ => none) else none
  | some .string, .c (.lit (.string s)) => match loV lo, hiV s.size hi with | some l, some h => some { pre := [0 ≤ l, l ≤ h, h ≤ s.size], val := str (s.extract l.toNat h.toNat) } | _, _ => none
  | _, _ => none

def indexAddrV (H : Heap) (t : TypeId) (x ix : V) : Option Res :=
  match P.underlying t, x, ix with
  | some (.slice e), .c (.sl k n el), .c (.lit (.int _ i)) => bif Nat.beq (sz P e) k then (match P.underlying e with | some _ => some { pre := [0 ≤ i, i < n], val := .dptr k (el i.toNat) 0 } | none => none) else none
  | some (.slice e), .c .nil, .c (.lit (.int _ _)) => some { pre := [False], val := .dptr (sz P e) (match zeroD P e with | some z => z | none => []) 0 }
  | some (.slice e), .row o k off n, .c (.lit (.int _ i)) => bif Nat.beq (sz P e) k then (match P.underlying e with | some _ => some { pre := [0 ≤ i, i < n], val := .ptr o k (off + i.toNat) 0 } | none => none) else none
  | some (.array len e), .ptr o k q j, .c (.lit (.int _ i)) =>
    (match H.get o with
    | some (.row _ k' m _) => bif Nat.beq q 0 && Nat.beq j 0 && Nat.beq k' k && Nat.beq k (sz P e) && Nat.beq m len then (match P.underlying e with | some _ => some { pre := [0 ≤ i, i < len], val := .ptr o k i.toNat 0 } | none => none) else none
    | some (.box _) => (match P.underlying e with | some _ => some { pre := [0 ≤ i, i < len], val := .ptr o k q (j + i.toNat * sz P e) } | none => none)
    | some (.raw _) => none
    | none => none)
  | some (.array len e), .dptr k cs j, .c (.lit (.int _ i)) => (match P.underlying e with | some _ => some { pre := [0 ≤ i, i < len], val := .dptr k cs (j + i.toNat * sz P e) } | none => none)
  | _, _, _ => none

def indexV (t : TypeId) (x ix : V) : Option Res :=
  match P.underlying t, x, ix with
  | some .string, .c (.lit (.string s)), .c (.lit (.int _ i)) => some { pre := [0 ≤ i, i < s.size], val := .c (.lit (.int .u8 (s.data.getD i.toNat 0).toNat)) }
  | some (.array len e), .agg cs, .c (.lit (.int _ i)) => bif Nat.ble (len * sz P e) cs.length && tyOk P e then some { pre := [0 ≤ i, i < len], val := takeV (isAg P e) cs (i.toNat * sz P e) (sz P e) } else none
  | _, _, _ => none

/-- A new variable: an array of data is a row, everything else a box. -/
def allocV (nid : Nat) (t : TypeId) (v : V) : Option Res :=
  bif v.cells.all V.isCell && Nat.beq v.cells.length (sz P t) then
    match P.underlying t, v.cells.mapM V.toD with
    | some (.array len e), some ds =>
      bif Nat.beq (len * sz P e) (sz P t) && Nat.blt 0 (sz P e) && Nat.blt 0 len && Nat.ble len 1000000 then
        some { val := .ptr nid (sz P e) 0 0, eff := [(nid, some (.row t (sz P e) len fun i => (ds.drop (i * sz P e)).take (sz P e)))] }
      else none
    | _, _ => some { val := .ptr nid v.cells.length 0 0, eff := [(nid, some (.box v.cells))] }
  else none

variable (C : FuncId → Option CC)

def anyRefs (vs : List V) : Bool := match V.refss vs with | [] => false | _ => true

mutual
/-- No address in it. -/
def V.scalar : V → Bool
  | .c (.lit (.int _ _)) => true
  | .c (.lit (.bool _)) => true
  | .c (.lit (.string _)) => true
  | .c .nil => true
  | .c .unk => true
  | .agg vs => V.scalars vs
  | .tup vs => V.scalars vs
  | _ => false
def V.scalars : List V → Bool
  | [] => true
  | v :: r => V.scalar v && V.scalars r
end

def callV (H : Heap) (nid : Nat) (f : FuncId) (args : List V) : Option Res :=
  match C f with
  | none => none
  | some (.mut m) => m (restr (reachOf H args) H) nid args
  | some (.pure con) => match con (V.views H args) with
    | none => none
    | some (p, .data v) => bif (!anyRefs args) || v.scalar then some { pre := p, val := v } else none
    | some (p, .new v) => some { pre := p, val := v }
    | some (p, .own fr t k n el) => bif (!anyRefs args) || fr then some { pre := p, val := .row nid k 0 n, eff := [(nid, some (.row t k n el))] } else none

def nilCheckV (x : V) : Option Res := match x with | .ptr .. => some { val := x } | .dptr .. => some { val := x } | .fn .. => some { val := x } | _ => none
def fieldAddrV (t : TypeId) (f : Nat) (a : V) : Option Res :=
  match fieldOff P t f with
  | some (off, ft) => bif Nat.beq (sz P ft) 0 then none else (match a with | .ptr o k i j => some { val := .ptr o k i (j + off) } | .dptr k cs j => some { val := .dptr k cs (j + off) } | _ => none)
  | none => none
def fieldV (t : TypeId) (f : Nat) (x : V) : Option Res :=
  match x, fieldOff P t f with
  | .agg cs, some (off, ft) => bif Nat.ble (off + sz P ft) cs.length && tyOk P ft then some { val := takeV (isAg P ft) cs off (sz P ft) } else none
  | _, _ => none
def extractV (ix : Nat) (x : V) : Option Res :=
  match x with
  | .tup vs => match vs[ix]? with | some v => some { val := v } | none => none
  | .c (.opt b us) => (match ix with
    | 0 => some { val := bl b }
    | i + 1 => match us[i]? with | some v => some { pre := [b = true], val := .c (.lit v) } | none => none)
  | _ => none

/-- A string, walked over. -/
def rangeV (nid : Nat) (t : TypeId) (x : V) : Option Res :=
  match P.underlying t, x with
  | some .string, .c (.lit (.string s)) => some { val := .ptr nid 1 0 0, eff := [(nid, some (.raw (.stringIter s 0)))] }
  | _, _ => none
def nextV (H : Heap) (x : V) : Option Res :=
  match x with
  | .ptr o k i j => match H.get o with
    | some (.raw (.stringIter s pos)) => bif Nat.beq (i * k + j) 0 then
        some { val := .c (.opt (Nat.blt pos s.size) [.int .i64 pos, .int .i32 (runeAt s pos)]), eff := [(o, some (.raw (.stringIter s (bif Nat.blt pos s.size then pos + runeW s pos else pos))))] } else none
    | _ => none
  | _ => none
/-- A row's part, set to zero. -/
def clearV (H : Heap) (t : TypeId) (x : V) : Option Res :=
  match P.underlying t, x with
  | some (.slice e), .row o k off n => match H.get o, zeroD P e with
    | some (.row e' k' m el), some z => bif Nat.beq e' e && Nat.beq k' k && Nat.beq k (sz P e) && Nat.beq z.length k && Nat.blt 0 k && known P e then
        some { val := .c .unk, eff := [(o, some (.row e' k m fun q => bif Nat.ble off q && Nat.blt q (off + n) then z else el q))] } else none
    | _, _ => none
  | _, _ => none

def opV (H : Heap) (nid : Nat) (o : Oper) (vs : List V) : Option Res :=
  match o.op, vs with
  | .move _, [x] => some { val := x }
  | .assign _, [x] => some { val := x }
  | .alloc t, [] => match zeroV P t with | some z => allocV P nid t z | none => none
  | .box t _, [x] => allocV P nid t x
  | .build t parts, vs => buildV P t ((parts.toList.map (·.1)).zip vs)
  | .buildSlice t len parts, vs => buildSliceV P nid t len ((parts.toList.map (·.1)).zip vs)
  | .load t _, [a] => loadV P H t a
  | .store t _ _, [a, x] => storeV P H t a x
  | .nilCheck _, [x] => nilCheckV x
  | .binOp op t _ _ _, [x, y] => binV P op t x y
  | .unOp op _ _, [x] => unV op x
  | .convert s d _, [x] => (match P.underlying s, P.underlying d with
    | some (.slice e), some .string => (match P.underlying e with | some (.int .u8) => bytesV H x | _ => none)
    | _, _ => convV P s d x)
  | .fieldAddr t _ f, [a] => fieldAddrV P t f a
  | .field t _ f, [x] => fieldV P t f x
  | .indexAddr t _ _, [x, i] => indexAddrV P H t x i
  | .index t _ _, [x, i] => indexV P t x i
  | .slice t _ none none none, [x] => sliceV P t x none none
  | .slice t _ (some _) none none, [x, l] => sliceV P t x (some l) none
  | .slice t _ none (some _) none, [x, h] => sliceV P t x none (some h)
  | .slice t _ (some _) (some _) none, [x, l, h] => sliceV P t x (some l) (some h)
  | .makeSlice t _ _, [l, c] => makeSliceV P nid t l c
  | .makeFunc (.func f) first _, vs => bif first.isEmpty then some { val := .fn f vs } else none
  | .extract _ ix, [x] => extractV ix x
  | .range t _, [x] => rangeV P nid t x
  | .next _ true, [x] => nextV H x
  | .call { callee := .builtin .len, argTypes, .. }, [x] => (match argTypes[0]? with | some t => lenV P t x | none => none)
  | .call { callee := .builtin .clear, argTypes, .. }, [x] => (match argTypes[0]? with | some t => clearV P H t x | none => none)
  | .call { callee := .builtin .min, .. }, vs => (minV vs).map fun v => { val := v }
  | .call { callee := .builtin .max, .. }, vs => (maxV vs).map fun v => { val := v }
  | .call { callee := .builtin .append, argTypes, .. }, [s, x] => (match argTypes.toList with | [t, t'] => bif Nat.beq t t' then appendV P H nid t s x else none | _ => none)
  | .call { callee := .value _, .. }, .fn f caps :: vs => callV C H nid f (vs ++ caps)
  | _, _ => none

end

/-! ### States -/

abbrev Chain := List (Nat × Bool)
structure Slot where
  ch : Chain
  v : V

structure St where
  tm : List (Nat × Slot)
  hp : Heap
  nx : Nat

def getT : List (Nat × Slot) → Nat → Option Slot
  | [], _ => none
  | (t', s) :: r, t => bif Nat.beq t' t then some s else getT r t

def putT : List (Nat × Slot) → Nat → Slot → List (Nat × Slot)
  | [], t, s => [(t, s)]
  | (t', s') :: r, t, s => bif Nat.beq t' t then (t, s) :: r else bif Nat.blt t t' then (t, s) :: (t', s') :: r else (t', s') :: putT r t s

def inCh (x : Nat × Bool) (ch : Chain) : Bool := ch.any fun y => Nat.beq x.1 y.1 && (x.2 == y.2)
def subCh (a b : Chain) : Bool := a.all fun x => inCh x b

def opndV (σ : St) (ch : Chain) : Operand → Option V
  | .tmp t => bif Nat.blt t 1000000 then (match getT σ.tm t with | some s => bif subCh s.ch ch then some s.v else none | none => none) else none
  | .const v => some (V.ofValue v)
  | .func f => some (.fn f [])
  | .global _ => none

def holds (tm : List (Nat × Slot)) : Chain → Bool
  | [] => true
  | (t, w) :: r => (match getT tm t with | some { v := .c (.lit (.bool b)), .. } => (bif w then b else !b) | _ => false) && holds tm r

def guardCh (ops : List Oper) (tm : List (Nat × Slot)) : Option (Nat × Bool) → Option Chain
  | none => some []
  | some (j, w) => match ops[j]? with
    | some o => match o.dst with
      | some t => bif Nat.blt t 1000000 then (match getT tm t with | some { ch, v := .c (.lit (.bool _)) } => some ((t, w) :: ch) | _ => none) else none
      | none => none
    | none => none

def opndsV (σ : St) (ch : Chain) (xs : List Operand) : Option (List V) := xs.mapM (opndV σ ch)

def chFor (c : Operand) (w : Bool) (ch : Chain) : Chain := match c with | .tmp t => (t, w) :: ch | _ => ch

def pickV (σ : St) (ch : Chain) (c a b : Operand) : Option V :=
  match opndV σ ch c with
  | some (.c (.lit (.bool x))) =>
    match opndV σ (chFor c true ch) a, opndV σ (chFor c false ch) b with
    | some (.c (.lit (.bool y))), some (.c (.lit (.bool z))) => some (bl (bif x then y else z))
    | _, _ => none
  | _ => none

/-- The operands in the order in which 'evalOp' reads them. -/
def opnds : Op → List Operand
  | .call c => (match c.callee with | .value f => f :: c.args.toList | _ => c.args.toList)
  | op => op.operands.toList

def evalOp (P : Program) (C : FuncId → Option CC) (σ : St) (nid : Nat) (ch : Chain) (o : Oper) : Option (List V × Res) :=
  match o.op with
  | .pick c a b => (pickV σ ch c a b).map fun v => ([], { val := v })
  | op => match opndsV σ ch (opnds op) with
    | some vs => (opV P C σ.hp nid o vs).map fun r => (vs, r)
    | none => none

def killT (os : List Nat) (tm : List (Nat × Slot)) : List (Nat × Slot) :=
  match os with
  | [] => tm
  | o :: r => killT r (tm.map fun x => (x.1, { ch := x.2.ch, v := x.2.v.kill o }))
def V.isBool : V → Bool
  | .c (.lit (.bool _)) => true
  | _ => false
def killOb (o : Nat) : Option Ob → Option Ob
  | some (.box cs) => some (.box (V.kills o cs))
  | b => b
def killH (os : List Nat) (H : Heap) : Heap :=
  match os with
  | [] => H
  | o :: r => killH r (H.map fun x => (x.1, killOb o x.2))

def imps (tm : List (Nat × Slot)) (ch : Chain) (ps : List Prop) : List Prop :=
  match ch with
  | [] => ps
  | ch => ps.map fun p => (holds tm ch = true → p)

/-- Slots that hang on the value of slot d are forgotten. -/
def clearCh (d : Nat) (tm : List (Nat × Slot)) : List (Nat × Slot) := tm.map fun x => (x.1, bif x.2.ch.any (fun y => Nat.beq y.1 d) then ⟨[], .c .unk⟩ else x.2)

def opTmps : List Operand → List Nat
  | [] => []
  | .tmp t :: r => t :: opTmps r
  | _ :: r => opTmps r

/-- What one operation read and did. -/
structure Rec where
  dst : Option Nat
  rds : List Nat
  ch : Chain
  nid : Nat
  vs : List V
  reach : List Nat
  rws : Bool × List Nat
  res : Res

/-- After an op. -/
def after (σ : St) (r : Rec) : St :=
  let tm := killT r.res.kill σ.tm
  { tm := match r.dst with | some t => putT (clearCh t tm) t { ch := r.ch, v := r.res.val } | none => tm
    hp := r.res.eff ++ killH r.res.kill σ.hp
    nx := σ.nx }

def notIn (dst : Option Nat) (ch : Chain) : Bool := match dst with | some t => ch.all fun y => !(Nat.beq y.1 t) | none => true
def dstOk (N : Nat) (dst : Option Nat) : Bool := match dst with | some t => Nat.blt t N | none => true
def boolSlot (tm : List (Nat × Slot)) (t : Nat) : Bool := match getT tm t with | some s => s.v.isBool | none => false
def guardOk (tm : List (Nat × Slot)) (ch : Chain) (t : Nat) : Bool := match getT tm t with | some s => s.v.isBool && subCh s.ch ch | none => false

def recOf (P : Program) (C : FuncId → Option CC) (N : Nat) (ops : List Oper) (σ : St) (nid : Nat) (o : Oper) : Option Rec :=
  bif dstOk N o.dst then
    match guardCh ops σ.tm o.guard with
    | some ch =>
      bif ch.all fun x => guardOk σ.tm ch x.1 then
      match evalOp P C σ nid ch o with
      | some (vs, r) => bif ch.isEmpty || (r.eff.isEmpty && r.kill.isEmpty && notIn o.dst ch) then
          some { dst := o.dst, rds := opTmps (opnds o.op) ++ ch.map (·.1), ch, nid, vs, reach := reachOf σ.hp vs, rws := solidOf σ.hp vs, res := r } else none
      | none => none
      else none
    | none => none
  else none

/-- Behind a region what hung on a guard is forgotten. -/
def dropCh (tm : List (Nat × Slot)) : List (Nat × Slot) := tm.map fun x => (x.1, bif x.2.ch.isEmpty then x.2 else ⟨[], .c .unk⟩)

def goOps (P : Program) (C : FuncId → Option CC) (N : Nat) (all : List Oper) : List Oper → St → Option (List Prop × St)
  | [], σ => some ([], { σ with tm := dropCh σ.tm })
  | o :: r, σ => match recOf P C N all σ σ.nx o with
    | some rc => match goOps P C N all r { after σ rc with nx := σ.nx + 1 } with
      | some (qs, σ'') => some (imps σ.tm rc.ch rc.res.pre ++ qs, σ'')
      | none => none
    | none => none

/-- All hold, and then what follows. -/
def allP : List Prop → Prop → Prop
  | [], k => k
  | p :: r, k => p ∧ allP r k

/-- An operation that runs, whatever its guard. -/
def stepS (P : Program) (C : FuncId → Option CC) (N : Nat) (all : List Oper) (σ : St) (o : Oper) (k : St → Prop) : Prop :=
  match recOf P C N all σ σ.nx { o with guard := none } with
  | some rc => allP rc.res.pre (k { after σ rc with nx := σ.nx + 1 })
  | none => False
def skipRec (o : Oper) (ch : Chain) (nid : Nat) : Rec := { dst := o.dst, rds := [], ch := ch, nid := nid, vs := [], reach := [], rws := (true, []), res := { val := bl false } }
/-- An operation that doesn't run. -/
def skipS (N : Nat) (σ : St) (o : Oper) (ch : Chain) (k : St → Prop) : Prop :=
  bif dstOk N o.dst && notIn o.dst ch then k { after σ (skipRec o ch σ.nx) with nx := σ.nx + 1 } else False
/-- A region, parted at its guards. -/
def goS (P : Program) (C : FuncId → Option CC) (N : Nat) (all : List Oper) : List Oper → St → (St → Prop) → Prop
  | [], σ, K => K { σ with tm := dropCh σ.tm }
  | o :: r, σ, K =>
    match o.guard with
    | none => stepS P C N all σ o fun σ' => goS P C N all r σ' K
    | some g =>
      match guardCh all σ.tm (some g) with
      | some ((t, w) :: ch) => bif ((t, w) :: ch).all (fun x => guardOk σ.tm ((t, w) :: ch) x.1) then
          (match getT σ.tm t with
          | some ⟨c0, .c (.lit (.bool b))⟩ =>
            bif holds σ.tm ch then
              (bif b then
                (bif w then stepS P C N all { σ with tm := putT σ.tm t ⟨c0, bl true⟩ } o fun σ' => goS P C N all r σ' K
                else skipS N { σ with tm := putT σ.tm t ⟨c0, bl true⟩ } o ((t, w) :: ch) fun σ' => goS P C N all r σ' K)
              else
                (bif w then skipS N { σ with tm := putT σ.tm t ⟨c0, bl false⟩ } o ((t, w) :: ch) fun σ' => goS P C N all r σ' K
                else stepS P C N all { σ with tm := putT σ.tm t ⟨c0, bl false⟩ } o fun σ' => goS P C N all r σ' K))
            else skipS N σ o ((t, w) :: ch) fun σ' => goS P C N all r σ' K
          | _ => False) else False
      | _ => False

def disj (a b : List Nat) : Bool := a.all fun x => !(b.any fun y => Nat.beq x y)
def dstL (d : Option Nat) : List Nat := match d with | some t => [t] | none => []
def keysOf (H : Heap) : List Nat := H.map (·.1)
/-- b does not see what a does. -/
def blind (a b : Rec) : Bool :=
  disj (dstL a.dst) (b.rds ++ dstL b.dst) && disj (keysOf a.res.eff) (b.reach ++ keysOf b.res.eff) &&
  (a.res.kill.isEmpty || (b.rws.1 && disj a.res.kill (b.reach ++ (b.rws.2 ++ (V.refs b.res.val ++ effRefs b.res.eff))) && b.res.kill.isEmpty))
def indep (a b : Rec) : Bool := blind a b && blind b a && V.noUnks a.vs && V.noUnks b.vs

/-- A region that draws: with numbers fixed ahead. -/
def goD (P : Program) (C : FuncId → Option CC) (N : Nat) (all : List Oper) : List Oper → Nat → St → Option (List Prop × List Rec × St)
  | [], _, σ => some ([], [], { σ with tm := dropCh σ.tm })
  | o :: r, nid, σ => match recOf P C N all σ nid o with
    | some rc => match goD P C N all r (nid + 1) (after σ rc) with
      | some (qs, rcs, σ'') => some (imps σ.tm rc.ch rc.res.pre ++ qs, rc :: rcs, σ'')
      | none => none
    | none => none

/-- Which operations come before an operation: as bits. -/
def maskOf (acc : List Nat) (o : Oper) : Nat := o.after.toList.foldl (fun s e => bif Region.binds .any e then s ||| (2 ^ e.on ||| acc.getD e.on 0) else s) 0
def masks : List Oper → List Nat → List Nat
  | [], acc => acc
  | o :: r, acc => masks r (acc ++ [maskOf acc o])

/-- Each pair: in order, or apart. -/
def pairOk (m : Nat) (r : Rec) : Nat → List Rec → Bool
  | _, [] => true
  | j, q :: l => (m.testBit j || indep q r) && pairOk m r (j + 1) l
def edgesOk (n : Nat) (o : Oper) : Bool := o.after.toList.all fun e => !(Region.binds .any e) || Nat.blt e.on n
def edgesAll : Nat → List Oper → Bool
  | _, [] => true
  | n, o :: r => edgesOk n o && edgesAll (n + 1) r
def drawOk (ms : List Nat) : List Rec → List Rec → Bool
  | _, [] => true
  | done, r :: l => pairOk (ms.getD done.length 0) r 0 done && drawOk ms (done ++ [r]) l

end Go.Ax
