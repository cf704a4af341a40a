/- The abstract machine: values, heap, operations (definitions alone). -/
import Derived.Still
import Derived.Calls
import Derived.Orders
import Derived.Below
namespace Go.Abs

/-- What is not known. -/
def unk : Value := .tuple #[.nilFunc]
/-- A value of one cell that holds no address. -/
def lit1 : Value → Bool
  | .bool _ | .int _ _ | .float _ _ | .complex _ _ _ | .string _ | .pointer none | .slice none 0 0 | .map none | .chan none | .nilFunc | .nilIface => true
  | _ => false
def lit : Value → Bool
  | .agg cs => cs.toList.all lit1
  | v => lit1 v
/-- A value of one cell. -/
def one : Value → Bool
  | .agg _ | .tuple _ => false
  | _ => true

inductive AObj where
  | cells (cs : List Value) (own : Bool)
  | map (es : List MapEntry) (clock : Nat)
  | iter (m : Option Nat) (since : Nat) (seen : List Nat) (stepped : Nat)

structure St where
  next : Nat
  objs : Nat → Option AObj

def St.set (h : St) (i : Nat) (o : AObj) : St := { next := h.next, objs := fun j => if j = i then some o else h.objs j }
def St.kill (h : St) (i : Nat) : St := { next := h.next, objs := fun j => if j = i then none else h.objs j }
def St.push (h : St) (o : AObj) : St := { next := h.next + 1, objs := fun j => if j = h.next then some o else h.objs j }

/-! ### the frame's slots -/
def getT : List Value → Nat → Value
  | [], _ => undef
  | v :: _, 0 => v
  | _ :: t, n + 1 => getT t n
def setT : List Value → Nat → Value → List Value
  | [], _, _ => []
  | _ :: t, 0, v => v :: t
  | x :: t, n + 1, v => x :: setT t n v
def putT (t : List Value) (d : Option Tmp) (v : Value) : List Value :=
  match d with
  | none => t
  | some d => setT t d v
/-- Of great height: whoever mentions it is unfolded by the kernel ahead of what does not (else it unfolds 'groupK', which has its rest twice). -/
def high0 : Nat := 0
def high1 : Nat := high0
def high2 : Nat := high1
def high3 : Nat := high2
def high4 : Nat := high3
def high5 : Nat := high4
def high6 : Nat := high5
def high7 : Nat := high6
def high8 : Nat := high7
def high9 : Nat := high8
def revF : List Value → List Value → (List Value → Prop) → Prop
  | [], acc, k => (fun _ : Nat => k acc) high9
  | v :: t, acc, k => revF t (v :: acc) k
/-- It says 'k t', and makes the kernel lay the list out, cell by cell. -/
def forceT (t : List Value) (k : List Value → Prop) : Prop := revF t [] fun r => revF r [] k
/-- The same, every twelfth time. -/
def tidyT (d : Option Nat) (t : List Value) (k : List Value → Prop) : Prop :=
  match d with
  | some d => (match Nat.beq (Nat.mod d 12) 11 with
    | true => forceT t k
    | false => k t)
  | none => k t
/-- Slots whose mark is false are forgotten. -/
def maskT : List Bool → List Value → List Value
  | [], t => t
  | _ :: _, [] => []
  | b :: bs, v :: t => (match b with | true => v | false => unk) :: maskT bs t

def evA (P : Program) (t : List Value) : Operand → Value
  | .tmp n => getT t n
  | .const v => match lit v with | true => v | false => unk
  | .global g => match Nat.blt g P.globals.size with | true => .pointer (some ⟨g, 0, none⟩) | false => unk
  | .func f => .func (.func f) #[] #[]

/-! ### what looks and does not touch -/
def bindV (o : Option Value) (k : Value → Prop) : Prop :=
  match o with
  | some v => k v
  | none => False

def takeN (cs : List Value) (off n : Nat) : Option (List Value) :=
  if off + n ≤ cs.length then some ((cs.drop off).take n) else none

def partV (agg : Bool) (n : Nat) (cs : List Value) (off : Nat) : Option Value :=
  match agg with
  | true => (takeN cs off n).map fun l => .agg l.toArray
  | false => cs[off]?

def loadV (agg : Bool) (n : Nat) (p : Value) (h : St) : Option Value :=
  match p with
  | .pointer (some ⟨i, off, none⟩) =>
    match h.objs i with
    | some (.cells cs _) => partV agg n cs off
    | _ => none
  | _ => none

def aggT (P : Program) (t : TypeId) : Option Bool :=
  match P.underlying t with
  | some (.struct _) | some (.array _ _) => some true
  | some _ => some false
  | none => none

def offV (o : Nat) (p : Value) : Option Value :=
  match p with
  | .pointer (some ⟨i, off, none⟩) => some (.pointer (some ⟨i, off + o, none⟩))
  | _ => none

/-- A field's place, its cells, whether it is an aggregate. -/
def fieldOf (P : Program) (s : TypeId) (f : Nat) : Option (Nat × Nat × Bool) :=
  match P.underlying s with
  | some (.struct fields) =>
    match fields[f]? with
    | some fd =>
      match P.info? fd.type, aggT P fd.type with
      | some i, some a => some (fd.offset, i.size, a)
      | _, _ => none
    | none => none
  | _ => none

def fieldV (o n : Nat) (agg : Bool) (x : Value) : Option Value :=
  match x with
  | .agg cs => partV agg n cs.toList o
  | _ => none

/-- 'xs[i]' as an address, xs a slice. -/
def idxS (size : Nat) (x i : Value) : Option Value :=
  match x, i with
  | .slice (some a) n _, .int _ j => if 0 ≤ j ∧ j < n then some (.pointer (some ⟨a.block, a.off + j.toNat * size, none⟩)) else none
  | _, _ => none
/-- .., x an array's address. -/
def idxA (len size : Nat) (x i : Value) : Option Value :=
  match x, i with
  | .pointer (some ⟨a, off, none⟩), .int _ j => if 0 ≤ j ∧ j < len then some (.pointer (some ⟨a, off + j.toNat * size, none⟩)) else none
  | _, _ => none
/-- .., an array's value. -/
def idxV (len size : Nat) (agg : Bool) (x i : Value) : Option Value :=
  match x, i with
  | .agg cs, .int _ j => if 0 ≤ j ∧ j < len then partV agg size cs.toList (j.toNat * size) else none
  | _, _ => none
/-- A text's byte. -/
def idxT (x i : Value) : Option Value :=
  match x, i with
  | .string s, .int _ j => if 0 ≤ j then (s[j.toNat]?).map fun b => .int .u8 b.toNat else none
  | _, _ => none

def loHi (n cap : Nat) (lo hi : Option Value) : Option (Nat × Nat) :=
  match hi with
  | none => match lo with
    | none => some (0, n)
    | some (.int _ l) => if 0 ≤ l ∧ l ≤ n then some (l.toNat, n) else none
    | some _ => none
  | some (.int _ e) => if 0 ≤ e ∧ e ≤ cap then (match lo with
    | none => some (0, e.toNat)
    | some (.int _ l) => if 0 ≤ l ∧ l ≤ e then some (l.toNat, e.toNat) else none
    | some _ => none) else none
  | some _ => none

/-- How far a slice may be cut: to its capacity, where that is known (one more than it stands there), else to its length. -/
def capOf (n c : Nat) : Nat :=
  match c with
  | 0 => n
  | c + 1 => c
def cutS (size : Nat) (x : Value) (lo hi : Option Value) : Option Value :=
  match x with
  | .slice none 0 0 => (loHi 0 0 lo hi).map fun _ => .slice none 0 0
  | .slice (some ⟨a, off, none⟩) n c => (loHi n n lo hi).map fun (l, e) => .slice (some ⟨a, off + l * size, none⟩) (e - l) c
  | .slice (some ⟨a, off, some z⟩) n c => if z = size then (loHi n (capOf n c) lo hi).map fun (l, e) => .slice (some ⟨a, off + l * size, some z⟩) (e - l) (c - l) else none
  | _ => none
/-- A cut that says how far the capacity goes: 's[l:e:m]'. -/
def loHi3 (cap : Nat) (lo hi mx : Option Value) : Option (Nat × Nat × Nat) :=
  match mx, hi with
  | some (.int _ m), some (.int _ e) => if 0 ≤ m ∧ m ≤ cap ∧ 0 ≤ e ∧ e ≤ m then (match lo with
    | none => some (0, e.toNat, m.toNat)
    | some (.int _ l) => if 0 ≤ l ∧ l ≤ e then some (l.toNat, e.toNat, m.toNat) else none
    | some _ => none) else none
  | _, _ => none
def cutS3 (size : Nat) (x : Value) (lo hi mx : Option Value) : Option Value :=
  match x with
  | .slice none 0 0 => (loHi3 0 lo hi mx).map fun _ => .slice none 0 0
  | .slice (some ⟨a, off, some z⟩) n c => if z = size then (loHi3 (capOf n c) lo hi mx).map fun (l, e, m) => .slice (some ⟨a, off + l * size, some z⟩) (e - l) (m - l + 1) else none
  | _ => none
def cutT (x : Value) (lo hi : Option Value) : Option Value :=
  match x with
  | .string s => (loHi s.size s.size lo hi).map fun (l, e) => .string (s.extract l e)
  | _ => none
def cutA (len size : Nat) (x : Value) (lo hi : Option Value) : Option Value :=
  match x with
  | .pointer (some ⟨a, off, none⟩) => (loHi len len lo hi).map fun (l, e) => .slice (some ⟨a, off + l * size, some size⟩) (e - l) 0
  | _ => none

/-- Equality of values that hold no address. -/
def eqOne : Value → Value → Option Bool
  | .bool a, .bool b => some (a == b)
  | .int k a, .int k' b => if k = k' then some (a == b) else none
  | .string a, .string b => some (a == b)
  | _, _ => none
/-- The kinds of flat cells. -/
inductive Ck where
  | b | i | s
def eqCk : Ck → Value → Value → Option Bool
  | .b, .bool a, .bool b => some (a == b)
  | .i, .int k a, .int k' b => if k = k' then some (a == b) else none
  | .s, .string a, .string b => some (a == b)
  | _, _, _ => none
def eqAll : List Ck → List Value → List Value → Option Bool
  | [], [], [] => some true
  | c :: cs, a :: as, b :: bs => match eqCk c a b with
    | some true => eqAll cs as bs
    | some false => some false
    | none => none
  | _, _, _ => none
/-- A struct's type whose fields are bools, whole numbers, texts, one behind the other. -/
def flatField (P : Program) (k : Nat) (f : Field) : Option Ck :=
  match f.name != "_" && Nat.beq f.offset k && (match P.info? f.type with | some i => Nat.beq i.size 1 | none => false), P.underlying f.type with
  | true, some .bool => some .b
  | true, some (.int _) => some .i
  | true, some .string => some .s
  | _, _ => none
def flatFrom (P : Program) : Nat → List Field → Option (List Ck)
  | _, [] => some []
  | k, f :: fs => match flatField P k f, flatFrom P (k + 1) fs with
    | some c, some cs => some (c :: cs)
    | _, _ => none
def flatT (P : Program) (t : TypeId) : Option (List Ck) :=
  match P.underlying t with
  | some (.struct fields) => match P.stoodInHeld t with
    | false => flatFrom P 0 fields.toList
    | true => none
  | _ => none

def isNilV : Value → Option Bool
  | .pointer a => some a.isNone
  | .map r => some r.isNone
  | .slice a _ _ => some a.isNone
  | .nilFunc => some true
  | .func _ _ _ => some false
  | .nilIface => some true
  | .iface _ _ => some false
  | _ => none

/-- What '==' needs to know of a type. -/
inductive Shp where
  | bool | ptr | map | slice | func | iface | flat (ks : List Ck) | other
def shapeOf (P : Program) (t : TypeId) : Shp :=
  match P.underlying t with
  | some .bool => .bool
  | some (.pointer _) => .ptr
  | some (.map _ _) => .map
  | some (.slice _) => .slice
  | some (.func _ _ _) => .func
  | some (.interface _) => .iface
  | some (.struct _) => match flatT P t, P.eqGuardType P.depth t with
    | some ks, false => .flat ks
    | _, _ => .other
  | _ => .other
/-- '==' beside whole numbers and texts. -/
def eqV (s : Shp) (x y : Value) : Option Bool :=
  match s, x, y with
  | .bool, .bool a, .bool b => some (a == b)
  | .flat ks, .agg xs, .agg ys => eqAll ks xs.toList ys.toList
  | .ptr, .pointer none, .pointer b => some b.isNone
  | .ptr, .pointer (some _), .pointer none => some false
  | .map, .map none, .map b => some b.isNone
  | .map, .map (some _), .map none => some false
  | .slice, .slice none 0 0, .slice b _ _ => some b.isNone
  | .slice, .slice (some _) _ _, .slice none 0 0 => some false
  | .func, .nilFunc, .nilFunc => some true
  | .func, .nilFunc, .func _ _ _ => some false
  | .func, .func _ _ _, .nilFunc => some false
  | .iface, .iface _ _, .nilIface => some false
  | .iface, .nilIface, .iface _ _ => some false
  | _, _, _ => none

def intV (op : BinOp) (k : IntKind) (x y : Int) : Option Value :=
  match op with
  | .add => some (.int k (k.wrap (x + y)))
  | .sub => some (.int k (k.wrap (x - y)))
  | .mul => some (.int k (k.wrap (x * y)))
  | .quo => if y = 0 then none else some (.int k (k.wrap (x.tdiv y)))
  | .rem => if y = 0 then none else some (.int k (x.tmod y))
  | .and => some (.int k (k.wrap (BitVec.ofInt k.bits x &&& BitVec.ofInt k.bits y).toNat))
  | .or => some (.int k (k.wrap (BitVec.ofInt k.bits x ||| BitVec.ofInt k.bits y).toNat))
  | .xor => some (.int k (k.wrap (BitVec.ofInt k.bits x ^^^ BitVec.ofInt k.bits y).toNat))
  | .andNot => some (.int k (k.wrap (BitVec.ofInt k.bits x &&& ~~~(BitVec.ofInt k.bits y)).toNat))
  | .eql => some (.bool (x == y))
  | .neq => some (.bool (x != y))
  | .lss => some (.bool (decide (x < y)))
  | .leq => some (.bool (decide (x ≤ y)))
  | .gtr => some (.bool (decide (x > y)))
  | .geq => some (.bool (decide (x ≥ y)))
  | _ => none
def shiftV (op : BinOp) (k : IntKind) (x y : Int) : Option Value :=
  if y < 0 then none else
  match op with
  | .shl => some (.int k (k.wrap (x * 2 ^ (min y.toNat k.bits))))
  | .shr => some (.int k (x.fdiv (2 ^ (min y.toNat k.bits))))
  | _ => none
def textV (op : BinOp) (x y : ByteArray) : Option Value :=
  match op with
  | .add => if x.size + y.size ≤ 9223372036854775807 then some (.string (x ++ y)) else none
  | .eql => some (.bool (x.toList == y.toList))
  | .neq => some (.bool (!(x.toList == y.toList)))
  | .lss => some (.bool (Op.bytesLess x.toList y.toList))
  | .leq => some (.bool (Op.bytesLess x.toList y.toList || x.toList == y.toList))
  | .gtr => some (.bool (!(Op.bytesLess x.toList y.toList || x.toList == y.toList)))
  | .geq => some (.bool (!(Op.bytesLess x.toList y.toList)))
  | _ => none
def isShift : BinOp → Bool
  | .shl | .shr => true
  | _ => false
def binV (op : BinOp) (sh : Shp) (x y : Value) : Option Value :=
  match x, y with
  | .int k a, .int k' b => match isShift op with
    | true => shiftV op k a b
    | false => if k = k' then intV op k a b else none
  | .string a, .string b => match isShift op with | true => none | false => textV op a b
  | x, y => match op with
    | .eql => (eqV sh x y).map fun b => .bool b
    | .neq => (eqV sh x y).map fun b => .bool (!b)
    | _ => none
/-- Beside a constant: two nil interface values may be compared. -/
def binNil (op : BinOp) (sh : Shp) (x y : Value) : Option Value :=
  match op, sh, x, y with
  | .eql, .iface, .nilIface, .nilIface => some (.bool true)
  | .neq, .iface, .nilIface, .nilIface => some (.bool false)
  | op, sh, x, y => binV op sh x y
def unV (op : UnOp) (x : Value) : Option Value :=
  match op, x with
  | .neg, .int k n => some (.int k (k.wrap (0 - n)))
  | .xor, .int k n => some (.int k (k.wrap (BitVec.ofInt k.bits (if k.signed then -1 else k.max) ^^^ BitVec.ofInt k.bits n).toNat))
  | .not, .bool b => some (.bool !b)
  | _, _ => none

def byteOf : Value → Option UInt8
  | .int .u8 n => some (UInt8.ofNat n.toNat)
  | _ => none
def bytesOf : List Value → Option (List UInt8)
  | [] => some []
  | v :: r => match byteOf v, bytesOf r with
    | some b, some l => some (b :: l)
    | _, _ => none
/-- 'string(b)', b bytes. -/
def textOf (x : Value) (h : St) : Option Value :=
  match x with
  | .slice none 0 0 => some (.string .empty)
  | .slice (some a) n _ => (match n with
    | 0 => some (.string .empty)
    | _ => match h.objs a.block with
      | some (.cells cs _) => ((takeN cs a.off n).bind bytesOf).map fun l => .string ⟨l.toArray⟩
      | _ => none)
  | _ => none

def wrapV (k : IntKind) (x : Value) : Option Value :=
  match x with
  | .int _ n => some (.int k (k.wrap n))
  | _ => none
def sameText (x : Value) : Option Value :=
  match x with
  | .string s => some (.string s)
  | _ => none
def convV (P : Program) (src dst : TypeId) (x : Value) (h : St) : Option Value :=
  match P.underlying src, P.underlying dst with
  | some _, some (.int k) => wrapV k x
  | some (.slice e), some .string => match P.underlying e with
    | some (.int .u8) => textOf x h
    | _ => none
  | some _, some .string => sameText x
  | _, _ => none

/-- The entry of a key: its number and the entry. -/
def findE (k : Value) : List MapEntry → Nat → Option (Option (Nat × MapEntry))
  | [], _ => some none
  | e :: es, i => match eqOne k e.key with
    | some true => some (some (i, e))
    | some false => findE k es (i + 1)
    | none => none
def findF (ks : List Ck) (k : List Value) : List MapEntry → Nat → Option (Option (Nat × MapEntry))
  | [], _ => some none
  | e :: es, i => match e.key with
    | .agg c => (match eqAll ks k c.toList with
      | some true => some (some (i, e))
      | some false => findF ks k es (i + 1)
      | none => none)
    | _ => none
/-- How a map's keys are told apart. -/
inductive KeyMode where
  | bad | int (k : IntKind) | text | bool | flat (ks : List Ck)
def keyMode (P : Program) (t : TypeId) : KeyMode :=
  match P.underlying t with
  | some (.int k) => .int k
  | some .string => .text
  | some .bool => .bool
  | some (.struct _) => match flatT P t with | some ks => .flat ks | none => .bad
  | _ => .bad
def find (m : KeyMode) (k : Value) (es : List MapEntry) : Option (Option (Nat × MapEntry)) :=
  match m, k with
  | .int q, .int q' _ => if q = q' then findE k es 0 else none
  | .text, .string _ => findE k es 0
  | .bool, .bool _ => findE k es 0
  | .flat ks, .agg c => if (eqAll ks c.toList c.toList).isSome then findF ks c.toList es 0 else none
  | _, _ => none

def outV (ok : Bool) (v : Value) (b : Bool) : Value := match ok with | true => .tuple #[v, .bool b] | false => v
def lookV (key : KeyMode) (zero : Value) (ok : Bool) (m k : Value) (h : St) : Option Value :=
  match m with
  | .map none => (find key k []).map fun _ => outV ok zero false
  | .map (some r) => match h.objs r with
    | some (.map es _) => (find key k es).map fun
      | some (_, e) => outV ok e.val true
      | none => outV ok zero false
    | _ => none
  | _ => none

def extV (i : Nat) (x : Value) : Option Value :=
  match x with
  | .tuple vs => match vs.toList with
    | [.nilFunc] => none
    | l => l[i]?
  | _ => none

def lenT (x : Value) : Option Value :=
  match x with
  | .string s => some (.int .i64 s.size)
  | _ => none
def lenS (x : Value) : Option Value :=
  match x with
  | .slice _ n _ => some (.int .i64 n)
  | _ => none
def lenM (x : Value) (h : St) : Option Value :=
  match x with
  | .map none => some (.int .i64 0)
  | .map (some r) => match h.objs r with
    | some (.map es _) => some (.int .i64 es.length)
    | _ => none
  | _ => none

def minV : List Value → Option Value
  | [.int k x, .int k' y] => if k = k' then some (.int k (if y < x then y else x)) else none
  | [.int k x, .int k' y, .int k'' z] => if k = k' ∧ k = k'' then some (.int k (if z < (if y < x then y else x) then z else (if y < x then y else x))) else none
  | _ => none
def maxV : List Value → Option Value
  | [.int k x, .int k' y] => if k = k' then some (.int k (if y > x then y else x)) else none
  | [.int k x, .int k' y, .int k'' z] => if k = k' ∧ k = k'' then some (.int k (if z > (if y > x then y else x) then z else (if y > x then y else x))) else none
  | _ => none

/-- Parts laid into cells, each at its place. -/
def fillL : List (Nat × Nat × Value) → List Value → Option (List Value)
  | [], cs => some cs
  | (off, n, v) :: r, cs => if v.cells.size = n ∧ off + n ≤ cs.length then fillL r (cs.take off ++ v.cells.toList ++ cs.drop (off + n)) else none

def placesOf (P : Program) (fields : Array Field) (ev : Operand → Value) : List (Nat × Operand) → Option (List (Nat × Nat × Value))
  | [] => some []
  | (i, x) :: r => match fields[i]?, placesOf P fields ev r with
    | some f, some l => match P.info? f.type with
      | some ti => some ((f.offset, ti.size, ev x) :: l)
      | none => none
    | _, _ => none
def isUnk : Value → Bool
  | .tuple vs => (match vs.toList with | [.nilFunc] => true | _ => false)
  | _ => false
def buildV (zero : List Value) (parts : Option (List (Nat × Nat × Value))) : Option Value :=
  match parts with
  | some l => if (l.all fun p => !isUnk p.2.2) = true then (fillL l zero).map fun cs => .agg cs.toArray else none
  | none => none
def zeroOf (P : Program) (t : TypeId) : Option (List Value) :=
  match P.info? t with
  | some i => match i.zero with
    | some z => match z.cells.toList.all lit1 with | true => some z.cells.toList | false => none
    | none => none
  | none => none
def sizesOk (P : Program) (fields : Array Field) : Bool := fields.toList.all fun f => (P.info? f.type).isSome

def assertV (t : TypeId) (zero : Option Value) (ok : Bool) (x : Value) : Option Value :=
  match x with
  | .iface u v => match Nat.beq u t with
    | true => some (match ok with | true => .tuple #[v, .bool true] | false => v)
    | false => match ok, zero with
      | true, some z => some (.tuple #[z, .bool false])
      | _, _ => none
  | .nilIface => match ok, zero with
    | true, some z => some (.tuple #[z, .bool false])
    | _, _ => none
  | _ => none

def nilV (x : Value) : Option Value :=
  match x with
  | .pointer none | .nilIface | .nilFunc | .tuple _ => none
  | .func (.method _) _ _ => none
  | x => some x

def ifaceV (t : TypeId) (x : Value) : Option Value :=
  match x with
  | .tuple _ => none
  | v => some (.iface t v)
def pickV (c a b : Value) : Option Value :=
  match c with
  | .bool t => some (if t then a else b)
  | _ => none
def isConstO : Operand → Bool
  | .const _ => true
  | _ => false

def partsV (P : Program) (elem : TypeId) (ev : Operand → Value) : List (Nat × Operand) → Nat → List (Nat × Nat × Value)
  | [], _ => []
  | (i, x) :: r, n => (i * n, n, ev x) :: partsV P elem ev r n
def buildOp (P : Program) (t : TypeId) (parts : Array (Nat × Operand)) (ev : Operand → Value) : Option Value :=
  match P.underlying t with
  | some (.struct fields) => match sizesOk P fields, zeroOf P t with
    | true, some z => buildV z (placesOf P fields ev parts.toList)
    | _, _ => none
  | some (.array _ elem) => match P.info? elem, zeroOf P t with
    | some i, some z => buildV z (some (partsV P elem ev parts.toList i.size))
    | _, _ => none
  | _ => none
def loadOp (P : Program) (t : TypeId) (a : Value) (h : St) : Option Value :=
  match aggT P t, P.info? t with
  | some g, some i => loadV g i.size a h
  | _, _ => none
def binOpV (P : Program) (b : BinOp) (t : TypeId) (c : Bool) (x y : Value) : Option Value :=
  match c with
  | true => binNil b (shapeOf P t) x y
  | false => binV b (shapeOf P t) x y
def ifaceOp (P : Program) (t : TypeId) (x : Value) : Option Value :=
  match P.underlying t with
  | some (.interface _) => none
  | some _ => ifaceV t x
  | none => none
def sliceOp (P : Program) (t : TypeId) (x : Value) (lo hi : Option Value) : Option Value :=
  match P.underlying t with
  | some .string => cutT x lo hi
  | some (.slice e) => match P.info? e with
    | some i => cutS i.size x lo hi
    | none => none
  | _ => none
def sliceOp3 (P : Program) (t : TypeId) (x : Value) (lo hi mx : Option Value) : Option Value :=
  match P.underlying t with
  | some (.slice e) => match P.info? e with
    | some i => cutS3 i.size x lo hi mx
    | none => none
  | _ => none
def fieldAddrOp (P : Program) (s : TypeId) (f : Nat) (x : Value) : Option Value :=
  match fieldOf P s f with
  | some (o, n, _) => match n with
    | 0 => none
    | _ + 1 => offV o x
  | none => none
def fieldOp (P : Program) (s : TypeId) (f : Nat) (x : Value) : Option Value :=
  match fieldOf P s f with
  | some (o, n, g) => fieldV o n g x
  | none => none
def indexAddrOp (P : Program) (t : TypeId) (x i : Value) : Option Value :=
  match P.underlying t with
  | some (.slice e) => match P.info? e with
    | some ti => idxS ti.size x i
    | none => none
  | some (.array n e) => match P.info? e with
    | some ti => idxA n ti.size x i
    | none => none
  | _ => none
def indexOp (P : Program) (t : TypeId) (x i : Value) : Option Value :=
  match P.underlying t with
  | some .string => idxT x i
  | some (.array n e) => match P.info? e, aggT P e with
    | some ti, some g => idxV n ti.size g x i
    | _, _ => none
  | _ => none
def zeroV (P : Program) (t : TypeId) : Option Value :=
  match P.info? t with
  | some i => match i.zero with
    | some z => match lit z with | true => some z | false => none
    | none => none
  | none => none
def lookupOp (P : Program) (t : TypeId) (m k : Value) (ok : Bool) (h : St) : Option Value :=
  match P.underlying t with
  | some (.map key elem) => match zeroV P elem with
    | some z => lookV (keyMode P key) z ok m k h
    | none => none
  | _ => none
def assertOp (P : Program) (t : TypeId) (ok : Bool) (x : Value) : Option Value :=
  match P.underlying t with
  | some (.interface _) => none
  | some _ => assertV t (zeroV P t) ok x
  | none => none
def lenOp (P : Program) (t : TypeId) (x : Value) (h : St) : Option Value :=
  match P.underlying t with
  | some .string => lenT x
  | some (.slice _) => lenS x
  | some (.map _ _) => lenM x h
  | some (.array n _) => some (.int .i64 n)
  | _ => none
/-- Of a slice that is nil, or whose capacity is known. -/
def capS (x : Value) : Option Value :=
  match x with
  | .slice none 0 0 => some (.int .i64 0)
  | .slice (some ⟨_, _, some _⟩) _ (c + 1) => some (.int .i64 c)
  | _ => none
def capOp (P : Program) (t : TypeId) (x : Value) : Option Value :=
  match P.underlying t with
  | some (.slice _) => capS x
  | _ => none
def builtinV (P : Program) (b : Builtin) (ts : List TypeId) (xs : List Value) (h : St) : Option Value :=
  match b with
  | .len => match ts, xs with
    | t :: _, x :: _ => lenOp P t x h
    | _, _ => none
  | .min => minV xs
  | .max => maxV xs
  | .cap => match ts, xs with
    | t :: _, x :: _ => capOp P t x
    | _, _ => none
  | _ => none
def callV (P : Program) (c : Call) (ev : Operand → Value) (h : St) : Option Value :=
  match c.callee with
  | .builtin b => builtinV P b c.argTypes.toList (c.args.toList.map ev) h
  | _ => none

/-- The key and the value that a range's step gave. -/
def entryV (x : Value) (h : St) : Option Value :=
  match x with
  | .pointer (some ⟨i, 0, none⟩) => match h.objs i with
    | some (.iter (some r) _ seen stepped) => match seen.getLast?, h.objs r with
      | some b, some (.map es clock) => match Nat.beq clock stepped with
        | true => (match es.find? fun e => e.born == b with
          | some e => (match lit e.key with | true => some (.tuple #[e.key, e.val]) | false => none)
          | none => none)
        | false => none
      | _, _ => none
    | _ => none
  | _ => none
/-- The values of operations that leave the heap alone. -/
def opV (P : Program) (op : Op) (ev : Operand → Value) (h : St) : Option Value :=
  match op with
  | .move x => some (ev x)
  | .assign x => some (ev x)
  | .pick c a b => pickV (ev c) (ev a) (ev b)
  | .build t parts => buildOp P t parts ev
  | .load t a => loadOp P t (ev a) h
  | .nilCheck x => nilV (ev x)
  | .binOp b t x y _ => binOpV P b t (isConstO x || isConstO y) (ev x) (ev y)
  | .unOp u _ x => unV u (ev x)
  | .convert s d x => convV P s d (ev x) h
  | .makeInterface t x => ifaceOp P t (ev x)
  | .makeFunc fn first captured => some (.func fn (first.map ev) (captured.map ev))
  | .slice t x lo hi mx => match mx with
    | none => sliceOp P t (ev x) (lo.map ev) (hi.map ev)
    | some m => sliceOp3 P t (ev x) (lo.map ev) (hi.map ev) (some (ev m))
  | .fieldAddr s x f => fieldAddrOp P s f (ev x)
  | .field s x f => fieldOp P s f (ev x)
  | .indexAddr t x i => indexAddrOp P t (ev x) (ev i)
  | .index t x i => indexOp P t (ev x) (ev i)
  | .lookup t m k ok => lookupOp P t (ev m) (ev k) ok h
  | .extract x i => extV i (ev x)
  | .typeAssert x _ t ok => assertOp P t ok (ev x)
  | .entry x => entryV (ev x) h
  | .call c => callV P c ev h
  | _ => none

/-! ### what touches the heap -/
abbrev Cont := Value → St → Prop
abbrev Oracle := FuncId → List Value → St → Cont → Prop

def allocE (cells : Option (List Value)) (h : St) (k : Cont) : Prop :=
  match cells with
  | some cs => k (.pointer (some ⟨h.next, 0, none⟩)) (h.push (.cells cs true))
  | none => False
def boxE (v : Value) (h : St) (k : Cont) : Prop :=
  v.cells.toList.all one = true ∧ k (.pointer (some ⟨h.next, 0, none⟩)) (h.push (.cells v.cells.toList true))
def repL (z : List Value) : Nat → List Value
  | 0 => []
  | n + 1 => z ++ repL z n
def buildSliceE (size len : Nat) (z : List Value) (parts : List (Nat × Nat × Value)) (h : St) (k : Cont) : Prop :=
  match fillL parts (repL z len) with
  | some cs => cs.all one = true ∧ (parts.all fun p => !isUnk p.2.2) = true ∧ k (.slice (some ⟨h.next, 0, some size⟩) len 0) (h.push (.cells cs true))
  | none => False
def storeE (n : Nat) (p v : Value) (h : St) (k : Cont) : Prop :=
  match p with
  | .pointer (some ⟨i, off, none⟩) => match h.objs i with
    | some (.cells cs true) => (v.cells.size = n ∧ off + n ≤ cs.length ∧ v.cells.toList.all one = true) ∧
        k undef (h.set i (.cells (cs.take off ++ v.cells.toList ++ cs.drop (off + n)) true))
    | _ => False
  | _ => False
def makeMapE (h : St) (k : Cont) : Prop := k (.map (some h.next)) (h.push (.map [] 0))
def makeSliceE (size bytes : Nat) (z : List Value) (l c : Value) (h : St) (k : Cont) : Prop :=
  match l, c with
  | .int _ l, .int _ c => (0 ≤ l ∧ l ≤ c ∧ c * bytes ≤ 140737488355328 ∧ c ≤ 140737488355328) ∧
      k (.slice (some ⟨h.next, 0, some size⟩) l.toNat 0) (h.push (.cells (repL z c.toNat) true))
  | _, _ => False
def entrySet (es : List MapEntry) (i : Nat) (k v : Value) : List MapEntry := es.modify i fun e => { e with key := k, val := v }
def mapUpdateE (key : KeyMode) (m k x : Value) (h : St) (K : Cont) : Prop :=
  match m with
  | .map (some r) => match h.objs r with
    | some (.map es clock) => match find key k es with
      | some (some (i, _)) => K undef (h.set r (.map (entrySet es i k x) clock))
      | some none => K undef (h.set r (.map (es ++ [⟨k, x, clock⟩]) (clock + 1)))
      | none => False
    | _ => False
  | _ => False
def mapEntryE (key : KeyMode) (zero : Value) (m k : Value) (h : St) (K : Cont) : Prop :=
  match m with
  | .map (some r) => match h.objs r with
    | some (.map es clock) => match find key k es with
      | some (some (i, e)) => K (.tuple #[e.val, .int .i64 e.born]) (h.set r (.map (entrySet es i k e.val) clock))
      | some none => K (.tuple #[zero, .int .i64 clock]) (h.set r (.map (es ++ [⟨k, zero, clock⟩]) (clock + 1)))
      | none => False
    | _ => False
  | _ => False
def entryStoreE (m s x : Value) (h : St) (K : Cont) : Prop :=
  match m, s with
  | .map (some r), .int _ b => match h.objs r with
    | some (.map es clock) => match es.findIdx? (fun e => (e.born : Int) == b) with
      | some i => K undef (h.set r (.map (es.modify i fun e => { e with val := x }) clock))
      | none => False
    | _ => False
  | _, _ => False
def deleteE (key : KeyMode) (m k : Value) (h : St) (K : Cont) : Prop :=
  match m with
  | .map none => (find key k []).isSome = true ∧ K undef h
  | .map (some r) => match h.objs r with
    | some (.map es clock) => match find key k es with
      | some (some (i, _)) => K undef (h.set r (.map (es.eraseIdx i) clock))
      | some none => K undef h
      | none => False
    | _ => False
  | _ => False
/-- The cells that are appended. -/
def newCells (size : Nat) (x : Value) (h : St) : Option (List Value × Nat) :=
  match x with
  | .slice none 0 0 => some ([], 0)
  | .slice (some a) n _ => (match n with
    | 0 => some ([], 0)
    | _ => match h.objs a.block with
      | some (.cells cs _) => (takeN cs a.off (n * size)).map fun l => (l, n)
      | _ => none)
  | .string s => (match Nat.beq size 1 with
    | true => some (s.data.toList.map fun b => .int .u8 b.toNat, s.size)
    | false => none)
  | _ => none
def appendE (size bytes : Nat) (s x : Value) (h : St) (k : Cont) : Prop :=
  match newCells size x h with
  | none => False
  | some (new, m) =>
    match s with
    | .slice none 0 0 => (new.all one = true ∧ m * bytes ≤ 140737488355328 ∧ m ≤ 140737488355328) ∧
        (match m with
        | 0 => k (.slice none 0 0) h
        | _ => k (.slice (some ⟨h.next, 0, some size⟩) m 0) (h.push (.cells new true)))
    | .slice (some ⟨i, off, some z⟩) n c => (match h.objs i with
      | some (.cells cs true) => (match c with
        | 0 => (new.all one = true ∧ z = size ∧ off = 0 ∧ n * size ≤ cs.length ∧ (n + m) * bytes ≤ 140737488355328 ∧ n + m ≤ 140737488355328) ∧
          k (.slice (some ⟨h.next, 0, some size⟩) (n + m) 0) ((h.kill i).push (.cells (cs.take (n * size) ++ new) true))
        | cap + 1 => (match Nat.ble (n + m) cap with
          | true => (new.all one = true ∧ z = size ∧ off + n * size ≤ cs.length) ∧
            k (.slice (some ⟨i, off, some z⟩) (n + m) (cap + 1)) (h.set i (.cells (cs.take (off + n * size) ++ new ++ cs.drop (off + n * size + m * size)) true))
          | false => (new.all one = true ∧ z = size ∧ off + n * size ≤ cs.length ∧ (n + m) * bytes ≤ 140737488355328 ∧ n + m ≤ 140737488355328) ∧
            k (.slice (some ⟨h.next, 0, some size⟩) (n + m) 0) (h.push (.cells ((cs.drop off).take (n * size) ++ new) true))))
      | _ => False)
    | _ => False
def toBytesE (x : Value) (h : St) (k : Cont) : Prop :=
  match x with
  | .string s => s.size ≤ 140737488355328 ∧ k (.slice (some ⟨h.next, 0, none⟩) s.size 0) (h.push (.cells (s.data.toList.map fun b => .int .u8 b.toNat) false))
  | _ => False
def callE (C : Oracle) (f : Value) (args : List Value) (h : St) (k : Cont) : Prop :=
  match f with
  | .func (.func g) first captured => C g (first.toList ++ args ++ captured.toList) h k
  | _ => False

/-- The function behind a method's name at a type of pointers; whether the receiver is read through the pointer. -/
def methOf (P : Program) (t : TypeId) (name : String) : Option (FuncId × Option (Bool × Nat)) :=
  match P.info? t with
  | some i => match i.methods.find? (fun m => m.name == name), P.underlying t with
    | some m, some (.pointer e) => match m.path.toList, m.func with
      | [], some (f, true) => some (f, none)
      | [], some (f, false) => match aggT P e, P.info? e with
        | some g, some j => some (f, some (g, j.size))
        | _, _ => none
      | _, _ => none
    | _, _ => none
  | none => none
def invokeE (P : Program) (C : Oracle) (name : String) (recv : Value) (args : List Value) (h : St) (k : Cont) : Prop :=
  match recv with
  | .iface t v => match methOf P t name with
    | some (f, none) => C f (v :: args) h k
    | some (f, some (g, n)) => bindV (loadV g n v h) fun x => C f (x :: args) h k
    | none => False
  | _ => False

def effB : Builtin → Bool
  | .len | .min | .max | .cap => false
  | _ => true
/-- Does an operation touch the heap? -/
def isEff (P : Program) (op : Op) : Bool :=
  match op with
  | .alloc _ => true
  | .box _ _ => true
  | .buildSlice _ _ _ => true
  | .store _ _ _ => true
  | .makeMap _ _ => true
  | .makeSlice _ _ _ => true
  | .mapUpdate _ _ _ _ => true
  | .insert _ _ _ _ => true
  | .mapEntry _ _ _ => true
  | .entryStore _ _ _ _ => true
  | .range _ _ => true
  | .next _ _ => true
  | .convert s d _ => match P.underlying s, P.underlying d with
    | some .string, some (.slice _) => true
    | _, _ => false
  | .call c => match c.callee with
    | .builtin b => effB b
    | _ => true
  | _ => false
def readB (P : Program) (b : Builtin) (ts : List TypeId) : Bool :=
  match b, ts with
  | .len, t :: _ => match P.underlying t with
    | some (.map _ _) => true
    | _ => false
  | _, _ => false
/-- Does it look at the heap? -/
def isRead (P : Program) (op : Op) : Bool :=
  match op with
  | .load _ _ => true
  | .lookup _ _ _ _ => true
  | .entry _ => true
  | .call c => match c.callee with
    | .builtin b => readB P b c.argTypes.toList
    | _ => false
  | .convert s d _ => match P.underlying s, P.underlying d with
    | some (.slice _), some .string => true
    | _, _ => false
  | _ => false

def buildSliceOp (P : Program) (t : TypeId) (len : Nat) (parts : Array (Nat × Operand)) (ev : Operand → Value) (h : St) (k : Cont) : Prop :=
  match P.underlying t with
  | some (.slice e) => match P.info? e, zeroOf P e with
    | some i, some z => match Nat.ble (len * i.size) 16777216 && Nat.ble len 16777216 && Nat.beq z.length i.size with
      | true => buildSliceE i.size len z (partsV P e ev parts.toList i.size) h k
      | false => False
    | _, _ => False
  | _ => False
def storeOp (P : Program) (t : TypeId) (a x : Value) (h : St) (k : Cont) : Prop :=
  match P.info? t with
  | some i => storeE i.size a x h k
  | none => False
def makeMapOp (P : Program) (t : TypeId) (r : Option Operand) (h : St) (k : Cont) : Prop :=
  match r, P.underlying t with
  | none, some (.map _ _) => makeMapE h k
  | _, _ => False
def makeSliceOp (P : Program) (t : TypeId) (l c : Value) (h : St) (k : Cont) : Prop :=
  match P.underlying t with
  | some (.slice e) => match P.info? e, zeroOf P e with
    | some i, some z => match Nat.beq z.length i.size with
      | true => makeSliceE i.size i.bytes z l c h k
      | false => False
    | _, _ => False
  | _ => False
def mapUpdateOp (P : Program) (t : TypeId) (m x v : Value) (h : St) (k : Cont) : Prop :=
  match P.underlying t with
  | some (.map key _) => mapUpdateE (keyMode P key) m x v h k
  | _ => False
def mapEntryOp (P : Program) (t : TypeId) (m x : Value) (h : St) (k : Cont) : Prop :=
  match P.underlying t with
  | some (.map key elem) => match zeroV P elem with
    | some z => mapEntryE (keyMode P key) z m x h k
    | none => False
  | _ => False
def toBytesOp (P : Program) (d : TypeId) (x : Value) (h : St) (k : Cont) : Prop :=
  match P.underlying d with
  | some (.slice e) => match P.underlying e with
    | some (.int .u8) => toBytesE x h k
    | _ => False
  | _ => False
def isSeq : Option TypeDesc → Bool
  | some (.slice _) => true
  | some .string => true
  | _ => false
/-- 'append(nil, make([]T, n)...)': what stands in it is not known. -/
def appendZ (size bytes : Nat) (s x : Value) (h : St) (k : Cont) : Prop :=
  match s, x with
  | .slice none 0 0, .int _ n => (0 < n ∧ n * bytes ≤ 140737488355328 ∧ n ≤ 140737488355328) ∧ k (.slice (some ⟨h.next, 0, some size⟩) n.toNat 0) (h.push (.cells [] true))
  | .slice (some ⟨i, off, some z⟩) m (cap + 1), .int _ n => (match h.objs i with
    | some (.cells cs true) => (0 < n ∧ (cap : Int) < m + n ∧ z = size ∧ off + m * size ≤ cs.length ∧ (m + n) * bytes ≤ 140737488355328 ∧ m + n ≤ 140737488355328) ∧
      k (.slice (some ⟨h.next, 0, some size⟩) (m + n.toNat) 0) (h.push (.cells ((cs.drop off).take (m * size)) true))
    | _ => False)
  | _, _ => False
def isIntT : Option TypeDesc → Bool
  | some (.int _) => true
  | _ => false
def appendOp (P : Program) (t u : TypeId) (s x : Value) (h : St) (k : Cont) : Prop :=
  match P.underlying t with
  | some (.slice e) => match P.info? e, zeroOf P e with
    | some i, some z => match Nat.blt 0 i.size && Nat.beq z.length i.size with
      | true => (match isSeq (P.underlying u) with
        | true => appendE i.size i.bytes s x h k
        | false => match isIntT (P.underlying u) with
          | true => appendZ i.size i.bytes s x h k
          | false => False)
      | false => False
    | _, _ => False
  | _ => False
def deleteOp (P : Program) (t : TypeId) (m x : Value) (h : St) (k : Cont) : Prop :=
  match P.underlying t with
  | some (.map key _) => deleteE (keyMode P key) m x h k
  | _ => False
/-- 'copy(d, x)': into one's own cells; what is read is read first. -/
def copyE (size : Nat) (d x : Value) (h : St) (k : Cont) : Prop :=
  match d, x with
  | .slice (some ⟨i, off, some z⟩) n _, .slice a m c => (match h.objs i with
    | some (.cells cs true) => (match newCells size (.slice a (min m n) c) h with
      | some (new, _) => (new.all one = true ∧ z = size ∧ off ≤ cs.length) ∧ k (.int .i64 ((min m n : Nat) : Int)) (h.set i (.cells (cs.take off ++ new ++ cs.drop (off + (min m n) * size)) true))
      | none => False)
    | _ => False)
  | _, _ => False
def copyOp (P : Program) (t u : TypeId) (d x : Value) (h : St) (k : Cont) : Prop :=
  match P.underlying t, P.underlying u with
  | some (.slice e), some (.slice _) => match P.info? e with
    | some i => copyE i.size d x h k
    | none => False
  | _, _ => False
/-- 'clear(x)', x a slice of one's own. -/
def clearE (size : Nat) (z : List Value) (x : Value) (h : St) (k : Cont) : Prop :=
  match x with
  | .slice none 0 0 => k undef h
  | .slice (some ⟨i, off, some s⟩) n _ => (match h.objs i with
    | some (.cells cs true) => (z.length = size ∧ s = size ∧ off ≤ cs.length) ∧ k undef (h.set i (.cells (cs.take off ++ repL z n ++ cs.drop (off + n * size)) true))
    | _ => False)
  | _ => False
def clearOp (P : Program) (t : TypeId) (x : Value) (h : St) (k : Cont) : Prop :=
  match P.underlying t with
  | some (.slice e) => match P.info? e, zeroOf P e with
    | some i, some z => clearE i.size z x h k
    | _, _ => False
  | _ => False
/-- A range over a map begins. -/
def rangeE (x : Value) (h : St) (k : Cont) : Prop :=
  match x with
  | .map none => k (.pointer (some ⟨h.next, 0, none⟩)) (h.push (.iter none 0 [] 0))
  | .map (some r) => (match h.objs r with
    | some (.map _ clock) => k (.pointer (some ⟨h.next, 0, none⟩)) (h.push (.iter (some r) clock [] clock))
    | _ => False)
  | _ => False
def rangeOp (P : Program) (t : TypeId) (x : Value) (h : St) (k : Cont) : Prop :=
  match P.underlying t with
  | some (.map _ _) => rangeE x h k
  | _ => False
/-- The entries that are left. -/
def leftE (es : List MapEntry) (seen : List Nat) : List MapEntry := es.filter fun e => !seen.contains e.born
/-- The next entry, whichever of those that are left; nothing was laid into the map since the range began. -/
def nextE (x : Value) (isString : Bool) (h : St) (k : Cont) : Prop :=
  match isString, x with
  | false, .pointer (some ⟨i, 0, none⟩) => (match h.objs i with
    | some (.iter none _ _ _) => k (.tuple #[.bool false]) h
    | some (.iter (some r) since seen last) => (match h.objs r with
      | some (.map es clock) => ((∀ e ∈ es, e.born < since ∧ lit e.key = true) ∧ since ≤ last) ∧ (leftE es seen = [] → k (.tuple #[.bool false]) h) ∧
          ∀ e ∈ leftE es seen, k (.tuple #[.bool true, e.key, e.val]) (h.set i (.iter (some r) since (seen ++ [e.born]) clock))
      | _ => False)
    | _ => False)
  | _, _ => False
def builtinE (P : Program) (b : Builtin) (ts : List TypeId) (xs : List Value) (h : St) (k : Cont) : Prop :=
  match b with
  | .append => match ts, xs with
    | [t, u], [s, x] => appendOp P t u s x h k
    | _, _ => False
  | .delete => match ts, xs with
    | t :: _, [m, x] => deleteOp P t m x h k
    | _, _ => False
  | .copy => match ts, xs with
    | [t, u], [d, x] => copyOp P t u d x h k
    | _, _ => False
  | .clear => match ts, xs with
    | [t], [x] => clearOp P t x h k
    | _, _ => False
  | _ => False
def callOp (P : Program) (C : Oracle) (c : Call) (ev : Operand → Value) (h : St) (k : Cont) : Prop :=
  match c.callee with
  | .value f => callE C (ev f) (c.args.toList.map ev) h k
  | .builtin b => builtinE P b c.argTypes.toList (c.args.toList.map ev) h k
  | .invoke r n => invokeE P C n (ev r) (c.args.toList.map ev) h k

def opE (P : Program) (C : Oracle) (op : Op) (ev : Operand → Value) (h : St) (k : Cont) : Prop :=
  match op with
  | .alloc t => allocE (zeroOf P t) h k
  | .box _ x => boxE (ev x) h k
  | .buildSlice t len parts => buildSliceOp P t len parts ev h k
  | .store t a x => storeOp P t (ev a) (ev x) h k
  | .makeMap t r => makeMapOp P t r h k
  | .makeSlice t l c => makeSliceOp P t (ev l) (ev c) h k
  | .mapUpdate t m kk x => mapUpdateOp P t (ev m) (ev kk) (ev x) h k
  | .insert t m kk x => mapUpdateOp P t (ev m) (ev kk) (ev x) h k
  | .mapEntry t m kk => mapEntryOp P t (ev m) (ev kk) h k
  | .entryStore _ m s x => entryStoreE (ev m) (ev s) (ev x) h k
  | .range t x => rangeOp P t (ev x) h k
  | .next x b => nextE (ev x) b h k
  | .convert _ d x => toBytesOp P d (ev x) h k
  | .call c => callOp P C c ev h k
  | _ => False

def opK (P : Program) (C : Oracle) (op : Op) (ev : Operand → Value) (h : St) (k : Cont) : Prop :=
  match isEff P op with
  | true => opE P C op ev h k
  | false => bindV (opV P op ev h) fun v => k v h

/-! ### statements -/
def guardK (v : Value) (want : Bool) (yes no : Prop) : Prop :=
  match v with
  | .bool b => match b, want with
    | true, true | false, false => yes
    | _, _ => no
  | .tuple vs => match vs.toList with
    | [] => no
    | _ => False
  | _ => False
/-- Operations under one guard, one behind the other, go together. -/
inductive Group where
  | one (o : Oper)
  | many (j : Nat) (want : Bool) (l : List Oper)
def sameG (i : Nat) (a : Bool) (j : Nat) (b : Bool) : Bool :=
  match a, b with
  | true, true => Nat.beq i j
  | false, false => Nat.beq i j
  | _, _ => false
def addG (o : Oper) (r : List Group) : List Group :=
  match o.guard, r with
  | some (i, a), .many j b l :: r' => match sameG i a j b with
    | true => .many j b (o :: l) :: r'
    | false => .many i a [o] :: .many j b l :: r'
  | some (i, a), r => .many i a [o] :: r
  | none, r => .one o :: r
def groupsOf : List Oper → List Group
  | [] => []
  | o :: r => addG o (groupsOf r)
/-- What a group writes. -/
def putsT (xs : List Value) : List Oper → Nat → List Value → List Value
  | [], _, t => t
  | o :: l, k, t => putsT xs l (k + 1) (putT t o.dst (getT xs k))
def undefs : List Oper → List Value
  | [] => []
  | _ :: l => undef :: undefs l
def free (d : Nat) : List Oper → Bool
  | [] => true
  | o :: l => (match o.dst with | some e => !(Nat.beq e d) | none => true) && free d l
def guardSlot (ops : Array Oper) (j : Nat) (l : List Oper) : Option Nat :=
  match (ops[j]?).bind (·.dst) with
  | some d => match free d l with
    | true => some d
    | false => none
  | none => none
def moved : Op → Option Operand
  | .move x => some x
  | .assign x => some x
  | _ => none
def getK : List Value → Nat → (Value → Prop) → Prop
  | [], _, k => k undef
  | v :: _, 0, k => k v
  | _ :: t, n + 1, k => getK t n k
def evK (P : Program) (t : List Value) (x : Operand) (k : Value → Prop) : Prop :=
  match x with
  | .tmp n => getK t n k
  | x => k (evA P t x)

def groupK (v : Value) (want : Bool) (none : List Value) (h : St) (body : (List Value → St → Prop) → Prop) (J : List Value → St → Prop) : Prop :=
  guardK v want (body J) (J none h)
def stepK (P : Program) (C : Oracle) (o : Op) (t : List Value) (h : St) (k : Cont) : Prop :=
  match moved o with
  | some x => evK P t x fun v => k v h
  | none => opK P C o (evA P t) h k
def runG (P : Program) (C : Oracle) : List Oper → List Value → St → List Value → (List Value → St → Prop) → Prop
  | [], _, h, acc, J => J acc h
  | o :: l, t, h, acc, J => stepK P C o.op t h fun v h' => runG P C l (putT t o.dst v) h' (acc ++ [v]) J

def regK (P : Program) (C : Oracle) (G : Prop → Prop) (ops : Array Oper) : List Group → List Value → St → (List Value → St → Prop) → Prop
  | [], t, h, K => K t h
  | .one o :: r, t, h, K => stepK P C o.op t h fun v h' => tidyT o.dst (putT t o.dst v) fun t' => regK P C G ops r t' h' K
  | .many j want l :: r, t, h, K => match guardSlot ops j l with
    | some d => groupK (getT t d) want (undefs l) h (fun J => runG P C l t h [] J) fun xs h' => G (forceT (putsT xs l 0 t) fun t' => regK P C G ops r t' h' K)
    | none => False

/-- Is the operation 'i' made to wait for 'e'? -/
def waits (bef : List Nat) (e i : Nat) : Bool := (bef.getD i 0).testBit e
/-- What was read: under what guard, by what, what came of it. -/
structure Seen where
  idx : Nat
  guard : Option (Value × Bool)
  op : Op
  ev : Operand → Value
  v : Value
/-- What was seen reads the same behind what the operation 'i' did, as far as it need not come ahead of it. -/
def seenOk (P : Program) (bef : List Nat) (i : Nat) (h : St) : List Seen → Prop
  | [] => True
  | r :: rs => (match waits bef r.idx i with
    | true => True
    | false => match r.guard with
      | none => opV P r.op r.ev h = some r.v
      | some (g, want) => guardK g want (opV P r.op r.ev h = some r.v) True) ∧ seenOk P bef i h rs
def pastOk (P : Program) (bef : List Nat) (i : Nat) (op : Op) (ev : Operand → Value) (v : Value) : List (Nat × Option St) → Prop
  | [] => True
  | (e, h) :: rs => (match waits bef e i with | true => True | false => match h with | some h => opV P op ev h = some v | none => False) ∧ pastOk P bef i op ev v rs
/-- Whatever was done, the operation waits for. -/
def effWaits (bef : List Nat) (i : Nat) : List (Nat × Option St) → Bool
  | [] => true
  | (e, _) :: rs => waits bef e i && effWaits bef i rs
/-- One operation of a statement whose order Go leaves open: what was seen so far, what was done so far. -/
def stepD (P : Program) (C : Oracle) (bef : List Nat) (o : Op) (i : Nat) (t : List Value) (h : St) (seen : List Seen) (past : List (Nat × Option St)) (k : Cont) : Prop :=
  match moved o with
  | some x => evK P t x fun v => k v h
  | none => match isEff P o with
    | true => (match effWaits bef i past with
      | true => opE P C o (evA P t) h fun v h' => seenOk P bef i h' seen ∧ k v h'
      | false => False)
    | false => match isRead P o with
      | true => bindV (opV P o (evA P t) h) fun v => pastOk P bef i o (evA P t) v past ∧ k v h
      | false => bindV (opV P o (evA P t) h) fun v => k v h
def addSeen (P : Program) (g : Option (Value × Bool)) (o : Op) (i : Nat) (t : List Value) (v : Value) (seen : List Seen) : List Seen :=
  match isRead P o with
  | true => ⟨i, g, o, evA P t, v⟩ :: seen
  | false => seen
def addPast (P : Program) (o : Op) (i : Nat) (h : Option St) (past : List (Nat × Option St)) : List (Nat × Option St) :=
  match isEff P o with
  | true => (i, h) :: past
  | false => past
/-- A group of a statement whose order Go leaves open. -/
def runD (P : Program) (C : Oracle) (bef : List Nat) : List Oper → Nat → List Value → St → List Seen → List (Nat × Option St) → List Value → (List Value → St → Prop) → Prop
  | [], _, _, h, _, _, acc, J => J acc h
  | o :: l, i, t, h, seen, past, acc, J => stepD P C bef o.op i t h seen past fun v h' =>
      runD P C bef l (i + 1) (putT t o.dst v) h' (addSeen P none o.op i t v seen) (addPast P o.op i (some h) past) (acc ++ [v]) J
/-- What was read in a group, and what was done in it (ahead of the second and later things the heap is not known). -/
def seenIn (P : Program) (g : Value × Bool) (xs : List Value) : List Oper → Nat → Nat → List Value → List Seen → List Seen
  | [], _, _, _, seen => seen
  | o :: l, i, k, t, seen => seenIn P g xs l (i + 1) (k + 1) (putT t o.dst (getT xs k)) (addSeen P (some g) o.op i t (getT xs k) seen)
def restH (P : Program) (o : Op) (h : Option St) : Option St :=
  match isEff P o with
  | true => none
  | false => h
def doneIn (P : Program) : Option St → List Oper → Nat → List (Nat × Option St) → List (Nat × Option St)
  | _, [], _, past => past
  | h, o :: l, i, past => doneIn P (restH P o.op h) l (i + 1) (addPast P o.op i h past)
/-- A statement whose order Go leaves open: in the order of the text; what was read reads the same behind whatever is done later, and would have read the same ahead of what was done. -/
def regD (P : Program) (C : Oracle) (G : Prop → Prop) (ops : Array Oper) (bef : List Nat) : List Group → Nat → List Value → St → List Seen → List (Nat × Option St) → (List Value → St → Prop) → Prop
  | [], _, t, h, _, _, K => K t h
  | .one o :: r, i, t, h, seen, past, K => stepD P C bef o.op i t h seen past fun v h' =>
      regD P C G ops bef r (i + 1) (putT t o.dst v) h' (addSeen P none o.op i t v seen) (addPast P o.op i (some h) past) K
  | .many j want l :: r, i, t, h, seen, past, K => match guardSlot ops j l with
    | some d => groupK (getT t d) want (undefs l) h (fun J => runD P C bef l i t h seen past [] J)
          fun xs h' => G (forceT (putsT xs l 0 t) fun t' => regD P C G ops bef r (i + l.length) t' h' (seenIn P (getT t d, want) xs l i 0 t seen) (doneIn P (some h) l i past) K)
    | none => False

/-! ### things done in an order that Go leaves open: each order that they may come in -/
/-- The operation 'f' is made to wait for 'e' too. -/
def addEdge (ops : Array Oper) (f e : Nat) : Array Oper :=
  match ops[f]? with
  | some o => ops.setIfInBounds f { o with after := o.after.push ⟨e, .data⟩ }
  | none => ops
def effAt (P : Program) (ops : Array Oper) (i : Nat) : Bool :=
  match ops[i]? with
  | some o => isEff P o.op
  | none => false
/-- Of what is done ahead of 'f': the first for which 'f' does not wait. -/
def openTo (bef : List Nat) (f : Nat) : List Nat → Option Nat
  | [] => none
  | e :: l => match waits bef e f with
    | true => openTo bef f l
    | false => some e
def openIn (P : Program) (ops : Array Oper) (bef : List Nat) : List Nat → List Nat → Option (Nat × Nat)
  | [], _ => none
  | f :: l, done => match effAt P ops f with
    | true => (match openTo bef f done with
      | some e => some (e, f)
      | none => openIn P ops bef l (done ++ [f]))
    | false => openIn P ops bef l done
def upTo (f : Nat) : List Nat → List Nat
  | [] => []
  | x :: l => match Nat.beq x f with
    | true => []
    | false => x :: upTo f l
def behind (f : Nat) : List Nat → List Nat
  | [] => []
  | x :: l => match Nat.beq x f with
    | true => l
    | false => behind f l
def thoseW (bef : List Nat) (f : Nat) (want : Bool) : List Nat → List Nat
  | [] => []
  | x :: l => match waits bef x f, want with
    | true, true => x :: thoseW bef f want l
    | false, false => x :: thoseW bef f want l
    | _, _ => thoseW bef f want l
/-- 'f', with what it waits for, ahead of 'e'. -/
def moveUp (bef : List Nat) (e f : Nat) (order : List Nat) : List Nat :=
  upTo e order ++ thoseW bef f true (upTo f (behind e order)) ++ [f, e] ++ thoseW bef f false (upTo f (behind e order)) ++ behind f order
def ordOk (ops : Array Oper) : List Nat → Array Bool → Bool
  | [], listed => (Region.ready .any ops listed).isEmpty
  | k :: l, listed => (Region.ready .any ops listed).contains k && Region.free .any ops listed k && ordOk ops l (listed.setIfInBounds k true)
/-- Operations without guards, in an order. -/
def runO (P : Program) (C : Oracle) (ops : Array Oper) (bef : List Nat) : List Nat → List Value → St → List Seen → List (Nat × Option St) → (List Value → St → Prop) → Prop
  | [], t, h, _, _, K => K t h
  | i :: l, t, h, seen, past, K => match ops[i]? with
    | some o => (match o.guard with
      | none => stepD P C bef o.op i t h seen past fun v h' => runO P C ops bef l (putT t o.dst v) h' (addSeen P none o.op i t v seen) (addPast P o.op i (some h) past) K
      | some _ => False)
    | none => False
def regS (P : Program) (C : Oracle) : Nat → Array Oper → List Nat → List Value → St → (List Value → St → Prop) → Prop
  | 0, _, _, _, _, _ => False
  | n + 1, ops, order, t, h, K => match openIn P ops (Region.before ops).toList order [] with
    | none => (match ordOk ops order (Array.replicate ops.size false) && Nat.beq order.length ops.size with
      | true => runO P C ops (Region.before ops).toList order t h [] [] K
      | false => False)
    | some (e, f) => (match Nat.beq e f with
      | true => False
      | false => regS P C n (addEdge ops f e) order t h K ∧ regS P C n (addEdge ops e f) (moveUp (Region.before ops).toList e f order) t h K)
def bare : List Oper → Bool
  | [] => true
  | o :: l => match o.guard with
    | none => bare l
    | some _ => false
/-- Is anything done in an order that is open? -/
def anyOpen (P : Program) (ops : Array Oper) : Bool :=
  match bare ops.toList with
  | true => (match openIn P ops (Region.before ops).toList (List.range ops.size) [] with
    | none => false
    | some _ => true)
  | false => false
def drawK (P : Program) (C : Oracle) (G : Prop → Prop) (ops : Array Oper) (t : List Value) (h : St) (K : List Value → St → Prop) : Prop :=
  match anyOpen P ops with
  | true => regS P C 8 ops (List.range ops.size) t h K
  | false => regD P C G ops (Region.before ops).toList (groupsOf ops.toList) 0 t h [] [] K

abbrev Kont := Exit → List Value → St → Prop
abbrev Looper := Code → List Value → St → Kont → Prop

def isReg : Code → Bool
  | .region _ _ _ => true
  | _ => false
def condK (v : Value) (yes no : Prop) : Prop :=
  match v with
  | .bool true => yes
  | .bool false => no
  | _ => False

def seqC (run : List Value → St → Prop) (K : Kont) : Kont := fun e t h => (fun _ : Nat =>
  match e with
  | .normal => run t h
  | e => K e t h) high9
def blockC (id : Nat) (K : Kont) : Kont := fun e t h => (fun _ : Nat =>
  match e with
  | .exit j => (match Nat.beq j id with | true => K .normal t h | false => K (.exit j) t h)
  | e => K e t h) high9
def loopC (G : Prop → Prop) (keep : List Bool) (again : List Value → St → Prop) (K : Kont) : Kont := fun e t h => (fun _ : Nat =>
  match e with
  | .normal => G (again (maskT keep t) h)
  | e => K e (maskT keep t) h) high9
/-- What stands behind a statement: G marks the places where a printed text may stop. -/
def nextK (G : Prop → Prop) (keep : List Bool) (a : Code) (run : List Value → Prop) (t : List Value) : Prop :=
  match isReg a with
  | true => forceT t run
  | false => G (forceT (maskT keep t) run)

def codeK (P : Program) (C : Oracle) (G : Prop → Prop) (keep : List Bool) (L : Looper) : Code → List Value → St → Kont → Prop
  | .skip, t, h, K => K .normal t h
  | .region _ ops false, t, h, K => regK P C G ops (groupsOf ops.toList) t h (K .normal)
  | .region _ ops true, t, h, K => (match Region.lexB .any ops with
    | true => drawK P C G ops t h (K .normal)
    | false => False)
  | .seq a b, t, h, K => codeK P C G keep L a t h (seqC (fun t h => nextK G keep a (fun t => codeK P C G keep L b t h K) t) K)
  | .cond c a b, t, h, K => condK (evA P t c) (codeK P C G keep L a t h K) (codeK P C G keep L b t h K)
  | .block id c, t, h, K => codeK P C G keep L c t h (blockC id K)
  | .loop c, t, h, K => G (L c (maskT keep t) h K)
  | .exit id, t, h, K => K (.exit id) t h
  | .ret, t, h, K => K .ret t h
  | .label _, t, h, K => K .normal t h
  | _, _, _, _ => False

def loopK (P : Program) (C : Oracle) (G : Prop → Prop) (keep : List Bool) : Nat → Looper
  | 0, _, _, _, _ => False
  | n + 1, c, t, h, K => codeK P C G keep (loopK P C G keep n) c t h (loopC G keep (fun t h => loopK P C G keep n c t h K) K)

def resultK (P : Program) (t : List Value) (h : St) : List ResultVar → List Value → (List Value → Prop) → Prop
  | [], acc, K => K acc
  | .tmp n :: r, acc, K => resultK P t h r (acc ++ [getT t n]) K
  | .cell a ty :: r, acc, K => match aggT P ty, P.info? ty with
    | some g, some i => bindV (loadV g i.size (getT t a) h) fun v => resultK P t h r (acc ++ [v]) K
    | _, _ => False
def packL : List Value → Value
  | [v] => v
  | l => .tuple l.toArray
def padL (args : List Value) (n : Nat) : List Value := args ++ List.replicate (n - args.length) undef
def funcC (P : Program) (rs : List ResultVar) (K : Cont) : Kont := fun e t h =>
  match e with
  | .normal | .ret => resultK P t h rs [] fun l => K (packL l) h
  | _ => False

def bodyOf (fn : Func) : Code := fn.body.getD (.refuse "")
def funcK (P : Program) (C : Oracle) (G : Prop → Prop) (keep : List Bool) (n : Nat) (fn : Func) (args : List Value) (h : St) (K : Cont) : Prop :=
  codeK P C G keep (loopK P C G keep n) (bodyOf fn) (padL args fn.ntmps) h (funcC P fn.results.toList K)
/-- No mark. -/
def idG : Prop → Prop := fun p => p

/-- A part of a code: false the first, true the second. -/
def pathC : List Bool → Code → Code
  | [], c => c
  | false :: p, .seq a _ => pathC p a
  | true :: p, .seq _ b => pathC p b
  | false :: p, .cond _ a _ => pathC p a
  | true :: p, .cond _ _ b => pathC p b
  | _ :: p, .block _ c => pathC p c
  | _ :: p, .loop c => pathC p c
  | _ :: _, c => c

end Go.Abs
