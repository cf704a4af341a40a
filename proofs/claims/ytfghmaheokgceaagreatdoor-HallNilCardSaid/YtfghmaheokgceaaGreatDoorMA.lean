/- The abstract machine: values, heap, operations (definitions alone). | The relation between the abstract machine's states and the worlds. | What the abstract machine's looking operations answer, the machine's answer. | What the abstract machine's looking operations answer, the machine's answer (cuts, arithmetic, equality, maps). | Equality; maps. | Comparisons, conversions, maps' entries, parts. | Maps' entries; parts; the rest. | Every operation that leaves the heap alone. | Parts laid into cells; all looking operations in one. | Every operation that leaves the heap alone, carried out. -/
import Derived.Still
import Derived.Calls
import Derived.Orders
import Derived.Below
import Derived.OwnWalk
import Derived.Laws.AppendOwn
import Derived.Laws.Cells
import Derived.Laws.CopyRow
import Derived.Lib.AppendStr
import Derived.ChangeKeysEq
import Derived.Laws.StructEq
section
namespace Go.Abs

/-- What is not known. -/
def unk : Value := .tuple #[.nilFunc]
/-- A value of one cell that holds no address. -/
def lit1 : Value → Bool
  | .bool _ | .int _ _ | .float _ _ | .complex _ _ _ | .string _ | .pointer none | .slice none 0 0 | .map none | .chan none | .nilFunc | .nilIface => true
  | _ => false
def lit : Value → Bool
  | .agg cs => cs.toList.all lit1
  | v => lit1 v
/-- A value of one cell. -/
def one : Value → Bool
  | .agg _ | .tuple _ => false
  | _ => true

inductive AObj where
  | cells (cs : List Value) (own : Bool)
  | map (es : List MapEntry) (clock : Nat)
  | iter (m : Option Nat) (since : Nat) (seen : List Nat) (stepped : Nat)

structure St where
  next : Nat
  objs : Nat → Option AObj

def St.set (h : St) (i : Nat) (o : AObj) : St := { next := h.next, objs := fun j => if j = i then some o else h.objs j }
def St.kill (h : St) (i : Nat) : St := { next := h.next, objs := fun j => if j = i then none else h.objs j }
def St.push (h : St) (o : AObj) : St := { next := h.next + 1, objs := fun j => if j = h.next then some o else h.objs j }

/-! ### the frame's slots -/
def getT : List Value → Nat → Value
  | [], _ => undef
  | v :: _, 0 => v
  | _ :: t, n + 1 => getT t n
def setT : List Value → Nat → Value → List Value
  | [], _, _ => []
  | _ :: t, 0, v => v :: t
  | x :: t, n + 1, v => x :: setT t n v
def putT (t : List Value) (d : Option Tmp) (v : Value) : List Value :=
  match d with
  | none => t
  | some d => setT t d v
/-- Of great height: whoever mentions it is unfolded by the kernel ahead of what does not (else it unfolds 'groupK', which has its rest twice). -/
def high0 : Nat := 0
def high1 : Nat := high0
def high2 : Nat := high1
def high3 : Nat := high2
def high4 : Nat := high3
def high5 : Nat := high4
def high6 : Nat := high5
def high7 : Nat := high6
def high8 : Nat := high7
def high9 : Nat := high8
def revF : List Value → List Value → (List Value → Prop) → Prop
  | [], acc, k => (fun _ : Nat => k acc) high9
  | v :: t, acc, k => revF t (v :: acc) k
/-- It says 'k t', and makes the kernel lay the list out, cell by cell. -/
def forceT (t : List Value) (k : List Value → Prop) : Prop := revF t [] fun r => revF r [] k
/-- The same, every twelfth time. -/
def tidyT (d : Option Nat) (t : List Value) (k : List Value → Prop) : Prop :=
  match d with
  | some d => (match Nat.beq (Nat.mod d 12) 11 with
    | true => forceT t k
    | false => k t)
  | none => k t
/-- Slots whose mark is false are forgotten. -/
def maskT : List Bool → List Value → List Value
  | [], t => t
  | _ :: _, [] => []
  | b :: bs, v :: t => (match b with | true => v | false => unk) :: maskT bs t

def evA (P : Program) (t : List Value) : Operand → Value
  | .tmp n => getT t n
  | .const v => match lit v with | true => v | false => unk
  | .global g => match Nat.blt g P.globals.size with | true => .pointer (some ⟨g, 0, none⟩) | false => unk
  | .func f => .func (.func f) #[] #[]

/-! ### what looks and does not touch -/
def bindV (o : Option Value) (k : Value → Prop) : Prop :=
  match o with
  | some v => k v
  | none => False

def takeN (cs : List Value) (off n : Nat) : Option (List Value) :=
  if off + n ≤ cs.length then some ((cs.drop off).take n) else none

def partV (agg : Bool) (n : Nat) (cs : List Value) (off : Nat) : Option Value :=
  match agg with
  | true => (takeN cs off n).map fun l => .agg l.toArray
  | false => cs[off]?

def loadV (agg : Bool) (n : Nat) (p : Value) (h : St) : Option Value :=
  match p with
  | .pointer (some ⟨i, off, none⟩) =>
    match h.objs i with
    | some (.cells cs _) => partV agg n cs off
    | _ => none
  | _ => none

def aggT (P : Program) (t : TypeId) : Option Bool :=
  match P.underlying t with
  | some (.struct _) | some (.array _ _) => some true
  | some _ => some false
  | none => none

def offV (o : Nat) (p : Value) : Option Value :=
  match p with
  | .pointer (some ⟨i, off, none⟩) => some (.pointer (some ⟨i, off + o, none⟩))
  | _ => none

/-- A field's place, its cells, whether it is an aggregate. -/
def fieldOf (P : Program) (s : TypeId) (f : Nat) : Option (Nat × Nat × Bool) :=
  match P.underlying s with
  | some (.struct fields) =>
    match fields[f]? with
    | some fd =>
      match P.info? fd.type, aggT P fd.type with
      | some i, some a => some (fd.offset, i.size, a)
      | _, _ => none
    | none => none
  | _ => none

def fieldV (o n : Nat) (agg : Bool) (x : Value) : Option Value :=
  match x with
  | .agg cs => partV agg n cs.toList o
  | _ => none

/-- 'xs[i]' as an address, xs a slice. -/
def idxS (size : Nat) (x i : Value) : Option Value :=
  match x, i with
  | .slice (some a) n _, .int _ j => if 0 ≤ j ∧ j < n then some (.pointer (some ⟨a.block, a.off + j.toNat * size, none⟩)) else none
  | _, _ => none
/-- .., x an array's address. -/
def idxA (len size : Nat) (x i : Value) : Option Value :=
  match x, i with
  | .pointer (some ⟨a, off, none⟩), .int _ j => if 0 ≤ j ∧ j < len then some (.pointer (some ⟨a, off + j.toNat * size, none⟩)) else none
  | _, _ => none
/-- .., an array's value. -/
def idxV (len size : Nat) (agg : Bool) (x i : Value) : Option Value :=
  match x, i with
  | .agg cs, .int _ j => if 0 ≤ j ∧ j < len then partV agg size cs.toList (j.toNat * size) else none
  | _, _ => none
/-- A text's byte. -/
def idxT (x i : Value) : Option Value :=
  match x, i with
  | .string s, .int _ j => if 0 ≤ j then (s[j.toNat]?).map fun b => .int .u8 b.toNat else none
  | _, _ => none

def loHi (n cap : Nat) (lo hi : Option Value) : Option (Nat × Nat) :=
  match hi with
  | none => match lo with
    | none => some (0, n)
    | some (.int _ l) => if 0 ≤ l ∧ l ≤ n then some (l.toNat, n) else none
    | some _ => none
  | some (.int _ e) => if 0 ≤ e ∧ e ≤ cap then (match lo with
    | none => some (0, e.toNat)
    | some (.int _ l) => if 0 ≤ l ∧ l ≤ e then some (l.toNat, e.toNat) else none
    | some _ => none) else none
  | some _ => none

/-- How far a slice may be cut: to its capacity, where that is known (one more than it stands there), else to its length. -/
def capOf (n c : Nat) : Nat :=
  match c with
  | 0 => n
  | c + 1 => c
def cutS (size : Nat) (x : Value) (lo hi : Option Value) : Option Value :=
  match x with
  | .slice none 0 0 => (loHi 0 0 lo hi).map fun _ => .slice none 0 0
  | .slice (some ⟨a, off, none⟩) n c => (loHi n n lo hi).map fun (l, e) => .slice (some ⟨a, off + l * size, none⟩) (e - l) c
  | .slice (some ⟨a, off, some z⟩) n c => if z = size then (loHi n (capOf n c) lo hi).map fun (l, e) => .slice (some ⟨a, off + l * size, some z⟩) (e - l) (c - l) else none
  | _ => none
/-- A cut that says how far the capacity goes: 's[l:e:m]'. -/
def loHi3 (cap : Nat) (lo hi mx : Option Value) : Option (Nat × Nat × Nat) :=
  match mx, hi with
  | some (.int _ m), some (.int _ e) => if 0 ≤ m ∧ m ≤ cap ∧ 0 ≤ e ∧ e ≤ m then (match lo with
    | none => some (0, e.toNat, m.toNat)
    | some (.int _ l) => if 0 ≤ l ∧ l ≤ e then some (l.toNat, e.toNat, m.toNat) else none
    | some _ => none) else none
  | _, _ => none
def cutS3 (size : Nat) (x : Value) (lo hi mx : Option Value) : Option Value :=
  match x with
  | .slice none 0 0 => (loHi3 0 lo hi mx).map fun _ => .slice none 0 0
  | .slice (some ⟨a, off, some z⟩) n c => if z = size then (loHi3 (capOf n c) lo hi mx).map fun (l, e, m) => .slice (some ⟨a, off + l * size, some z⟩) (e - l) (m - l + 1) else none
  | _ => none
def cutT (x : Value) (lo hi : Option Value) : Option Value :=
  match x with
  | .string s => (loHi s.size s.size lo hi).map fun (l, e) => .string (s.extract l e)
  | _ => none
def cutA (len size : Nat) (x : Value) (lo hi : Option Value) : Option Value :=
  match x with
  | .pointer (some ⟨a, off, none⟩) => (loHi len len lo hi).map fun (l, e) => .slice (some ⟨a, off + l * size, some size⟩) (e - l) 0
  | _ => none

/-- The same of an array that is not one's own. -/
def cutN (len size : Nat) (x : Value) (lo hi : Option Value) : Option Value :=
  match x with
  | .pointer (some ⟨a, off, none⟩) => (loHi len len lo hi).map fun (l, e) => .slice (some ⟨a, off + l * size, none⟩) (e - l) 0
  | _ => none
/-- Equality of values that hold no address. -/
def eqOne : Value → Value → Option Bool
  | .bool a, .bool b => some (a == b)
  | .int k a, .int k' b => if k = k' then some (a == b) else none
  | .string a, .string b => some (a == b)
  | _, _ => none
/-- The kinds of flat cells. -/
inductive Ck where
  | b | i | s
def eqCk : Ck → Value → Value → Option Bool
  | .b, .bool a, .bool b => some (a == b)
  | .i, .int k a, .int k' b => if k = k' then some (a == b) else none
  | .s, .string a, .string b => some (a == b)
  | _, _, _ => none
def eqAll : List Ck → List Value → List Value → Option Bool
  | [], [], [] => some true
  | c :: cs, a :: as, b :: bs => match eqCk c a b with
    | some true => eqAll cs as bs
    | some false => some false
    | none => none
  | _, _, _ => none
/-- A struct's type whose fields are bools, whole numbers, texts, one behind the other. -/
def flatField (P : Program) (k : Nat) (f : Field) : Option Ck :=
  match f.name != "_" && Nat.beq f.offset k && (match P.info? f.type with | some i => Nat.beq i.size 1 | none => false), P.underlying f.type with
  | true, some .bool => some .b
  | true, some (.int _) => some .i
  | true, some .string => some .s
  | _, _ => none
def flatFrom (P : Program) : Nat → List Field → Option (List Ck)
  | _, [] => some []
  | k, f :: fs => match flatField P k f, flatFrom P (k + 1) fs with
    | some c, some cs => some (c :: cs)
    | _, _ => none
def flatT (P : Program) (t : TypeId) : Option (List Ck) :=
  match P.underlying t with
  | some (.struct fields) => match P.stoodInHeld t with
    | false => flatFrom P 0 fields.toList
    | true => none
  | _ => none

/-- The same for '==': a field may be such a struct itself. -/
def nestFrom (P : Program) : Nat → List Field → Option (List Ck)
  | _, [] => some []
  | k, f :: fs => match flatField P k f with
    | some c => (match nestFrom P (k + 1) fs with
      | some cs => some (c :: cs)
      | none => none)
    | none => match f.name != "_" && Nat.beq f.offset k, flatT P f.type, P.info? f.type with
      | true, some cs, some i => (match Nat.beq i.size cs.length, nestFrom P (k + i.size) fs with
        | true, some ds => some (cs ++ ds)
        | _, _ => none)
      | _, _, _ => none
def eqT (P : Program) (t : TypeId) : Option (List Ck) :=
  match P.underlying t with
  | some (.struct fields) => match P.stoodInHeld t with
    | false => nestFrom P 0 fields.toList
    | true => none
  | _ => none

def isNilV : Value → Option Bool
  | .pointer a => some a.isNone
  | .map r => some r.isNone
  | .slice a _ _ => some a.isNone
  | .nilFunc => some true
  | .func _ _ _ => some false
  | .nilIface => some true
  | .iface _ _ => some false
  | _ => none

/-- What '==' needs to know of a type. -/
inductive Shp where
  | bool | ptr | map | slice | func | iface | flat (ks : List Ck) | other
def shapeOf (P : Program) (t : TypeId) : Shp :=
  match P.underlying t with
  | some .bool => .bool
  | some (.pointer _) => .ptr
  | some (.map _ _) => .map
  | some (.slice _) => .slice
  | some (.func _ _ _) => .func
  | some (.interface _) => .iface
  | some (.struct _) => match eqT P t, P.eqGuardType P.depth t with
    | some ks, false => .flat ks
    | _, _ => .other
  | _ => .other
/-- '==' beside whole numbers and texts. -/
def eqV (s : Shp) (x y : Value) : Option Bool :=
  match s, x, y with
  | .bool, .bool a, .bool b => some (a == b)
  | .flat ks, .agg xs, .agg ys => eqAll ks xs.toList ys.toList
  | .ptr, .pointer none, .pointer b => some b.isNone
  | .ptr, .pointer (some _), .pointer none => some false
  | .map, .map none, .map b => some b.isNone
  | .map, .map (some _), .map none => some false
  | .slice, .slice none 0 0, .slice b _ _ => some b.isNone
  | .slice, .slice (some _) _ _, .slice none 0 0 => some false
  | .func, .nilFunc, .nilFunc => some true
  | .func, .nilFunc, .func _ _ _ => some false
  | .func, .func _ _ _, .nilFunc => some false
  | .iface, .iface _ _, .nilIface => some false
  | .iface, .nilIface, .iface _ _ => some false
  | _, _, _ => none

def intV (op : BinOp) (k : IntKind) (x y : Int) : Option Value :=
  match op with
  | .add => some (.int k (k.wrap (x + y)))
  | .sub => some (.int k (k.wrap (x - y)))
  | .mul => some (.int k (k.wrap (x * y)))
  | .quo => if y = 0 then none else some (.int k (k.wrap (x.tdiv y)))
  | .rem => if y = 0 then none else some (.int k (x.tmod y))
  | .and => some (.int k (k.wrap (BitVec.ofInt k.bits x &&& BitVec.ofInt k.bits y).toNat))
  | .or => some (.int k (k.wrap (BitVec.ofInt k.bits x ||| BitVec.ofInt k.bits y).toNat))
  | .xor => some (.int k (k.wrap (BitVec.ofInt k.bits x ^^^ BitVec.ofInt k.bits y).toNat))
  | .andNot => some (.int k (k.wrap (BitVec.ofInt k.bits x &&& ~~~(BitVec.ofInt k.bits y)).toNat))
  | .eql => some (.bool (x == y))
  | .neq => some (.bool (x != y))
  | .lss => some (.bool (decide (x < y)))
  | .leq => some (.bool (decide (x ≤ y)))
  | .gtr => some (.bool (decide (x > y)))
  | .geq => some (.bool (decide (x ≥ y)))
  | _ => none
def shiftV (op : BinOp) (k : IntKind) (x y : Int) : Option Value :=
  if y < 0 then none else
  match op with
  | .shl => some (.int k (k.wrap (x * 2 ^ (min y.toNat k.bits))))
  | .shr => some (.int k (x.fdiv (2 ^ (min y.toNat k.bits))))
  | _ => none
def textV (op : BinOp) (x y : ByteArray) : Option Value :=
  match op with
  | .add => if x.size + y.size ≤ 9223372036854775807 then some (.string (x ++ y)) else none
  | .eql => some (.bool (x.toList == y.toList))
  | .neq => some (.bool (!(x.toList == y.toList)))
  | .lss => some (.bool (Op.bytesLess x.toList y.toList))
  | .leq => some (.bool (Op.bytesLess x.toList y.toList || x.toList == y.toList))
  | .gtr => some (.bool (!(Op.bytesLess x.toList y.toList || x.toList == y.toList)))
  | .geq => some (.bool (!(Op.bytesLess x.toList y.toList)))
  | _ => none
def isShift : BinOp → Bool
  | .shl | .shr => true
  | _ => false
def binV (op : BinOp) (sh : Shp) (x y : Value) : Option Value :=
  match x, y with
  | .int k a, .int k' b => match isShift op with
    | true => shiftV op k a b
    | false => if k = k' then intV op k a b else none
  | .string a, .string b => match isShift op with | true => none | false => textV op a b
  | x, y => match op with
    | .eql => (eqV sh x y).map fun b => .bool b
    | .neq => (eqV sh x y).map fun b => .bool (!b)
    | _ => none
/-- Beside a constant: two nil interface values may be compared. -/
def binNil (op : BinOp) (sh : Shp) (x y : Value) : Option Value :=
  match op, sh, x, y with
  | .eql, .iface, .nilIface, .nilIface => some (.bool true)
  | .neq, .iface, .nilIface, .nilIface => some (.bool false)
  | op, sh, x, y => binV op sh x y
def unV (op : UnOp) (x : Value) : Option Value :=
  match op, x with
  | .neg, .int k n => some (.int k (k.wrap (0 - n)))
  | .xor, .int k n => some (.int k (k.wrap (BitVec.ofInt k.bits (if k.signed then -1 else k.max) ^^^ BitVec.ofInt k.bits n).toNat))
  | .not, .bool b => some (.bool !b)
  | _, _ => none

def byteOf : Value → Option UInt8
  | .int .u8 n => some (UInt8.ofNat n.toNat)
  | _ => none
def bytesOf : List Value → Option (List UInt8)
  | [] => some []
  | v :: r => match byteOf v, bytesOf r with
    | some b, some l => some (b :: l)
    | _, _ => none
/-- 'string(b)', b bytes. -/
def textOf (x : Value) (h : St) : Option Value :=
  match x with
  | .slice none 0 0 => some (.string .empty)
  | .slice (some a) n _ => (match n with
    | 0 => some (.string .empty)
    | _ => match h.objs a.block with
      | some (.cells cs _) => ((takeN cs a.off n).bind bytesOf).map fun l => .string ⟨l.toArray⟩
      | _ => none)
  | _ => none

def wrapV (k : IntKind) (x : Value) : Option Value :=
  match x with
  | .int _ n => some (.int k (k.wrap n))
  | _ => none
def sameText (x : Value) : Option Value :=
  match x with
  | .string s => some (.string s)
  | _ => none
def convV (P : Program) (src dst : TypeId) (x : Value) (h : St) : Option Value :=
  match P.underlying src, P.underlying dst with
  | some _, some (.int k) => wrapV k x
  | some (.slice e), some .string => match P.underlying e with
    | some (.int .u8) => textOf x h
    | _ => none
  | some _, some .string => sameText x
  | _, _ => none

/-- The entry of a key: its number and the entry. -/
def findE (k : Value) : List MapEntry → Nat → Option (Option (Nat × MapEntry))
  | [], _ => some none
  | e :: es, i => match eqOne k e.key with
    | some true => some (some (i, e))
    | some false => findE k es (i + 1)
    | none => none
def findF (ks : List Ck) (k : List Value) : List MapEntry → Nat → Option (Option (Nat × MapEntry))
  | [], _ => some none
  | e :: es, i => match e.key with
    | .agg c => (match eqAll ks k c.toList with
      | some true => some (some (i, e))
      | some false => findF ks k es (i + 1)
      | none => none)
    | _ => none
/-- How a map's keys are told apart. -/
inductive KeyMode where
  | bad | int (k : IntKind) | text | bool | flat (ks : List Ck)
def keyMode (P : Program) (t : TypeId) : KeyMode :=
  match P.underlying t with
  | some (.int k) => .int k
  | some .string => .text
  | some .bool => .bool
  | some (.struct _) => match flatT P t with | some ks => .flat ks | none => .bad
  | _ => .bad
def find (m : KeyMode) (k : Value) (es : List MapEntry) : Option (Option (Nat × MapEntry)) :=
  match m, k with
  | .int q, .int q' _ => if q = q' then findE k es 0 else none
  | .text, .string _ => findE k es 0
  | .bool, .bool _ => findE k es 0
  | .flat ks, .agg c => if (eqAll ks c.toList c.toList).isSome then findF ks c.toList es 0 else none
  | _, _ => none

def outV (ok : Bool) (v : Value) (b : Bool) : Value := match ok with | true => .tuple #[v, .bool b] | false => v
def lookV (key : KeyMode) (zero : Value) (ok : Bool) (m k : Value) (h : St) : Option Value :=
  match m with
  | .map none => (find key k []).map fun _ => outV ok zero false
  | .map (some r) => match h.objs r with
    | some (.map es _) => (find key k es).map fun
      | some (_, e) => outV ok e.val true
      | none => outV ok zero false
    | _ => none
  | _ => none

def extV (i : Nat) (x : Value) : Option Value :=
  match x with
  | .tuple vs => match vs.toList with
    | [.nilFunc] => none
    | l => l[i]?
  | _ => none

def lenT (x : Value) : Option Value :=
  match x with
  | .string s => some (.int .i64 s.size)
  | _ => none
def lenS (x : Value) : Option Value :=
  match x with
  | .slice _ n _ => some (.int .i64 n)
  | _ => none
def lenM (x : Value) (h : St) : Option Value :=
  match x with
  | .map none => some (.int .i64 0)
  | .map (some r) => match h.objs r with
    | some (.map es _) => some (.int .i64 es.length)
    | _ => none
  | _ => none

def minV : List Value → Option Value
  | [.int k x, .int k' y] => if k = k' then some (.int k (if y < x then y else x)) else none
  | [.int k x, .int k' y, .int k'' z] => if k = k' ∧ k = k'' then some (.int k (if z < (if y < x then y else x) then z else (if y < x then y else x))) else none
  | _ => none
def maxV : List Value → Option Value
  | [.int k x, .int k' y] => if k = k' then some (.int k (if y > x then y else x)) else none
  | [.int k x, .int k' y, .int k'' z] => if k = k' ∧ k = k'' then some (.int k (if z > (if y > x then y else x) then z else (if y > x then y else x))) else none
  | _ => none

/-- Parts laid into cells, each at its place. -/
def fillL : List (Nat × Nat × Value) → List Value → Option (List Value)
  | [], cs => some cs
  | (off, n, v) :: r, cs => if v.cells.size = n ∧ off + n ≤ cs.length then fillL r (cs.take off ++ v.cells.toList ++ cs.drop (off + n)) else none

def placesOf (P : Program) (fields : Array Field) (ev : Operand → Value) : List (Nat × Operand) → Option (List (Nat × Nat × Value))
  | [] => some []
  | (i, x) :: r => match fields[i]?, placesOf P fields ev r with
    | some f, some l => match P.info? f.type with
      | some ti => some ((f.offset, ti.size, ev x) :: l)
      | none => none
    | _, _ => none
def isUnk : Value → Bool
  | .tuple vs => (match vs.toList with | [.nilFunc] => true | _ => false)
  | _ => false
def buildV (zero : List Value) (parts : Option (List (Nat × Nat × Value))) : Option Value :=
  match parts with
  | some l => if (l.all fun p => !isUnk p.2.2) = true then (fillL l zero).map fun cs => .agg cs.toArray else none
  | none => none
def zeroOf (P : Program) (t : TypeId) : Option (List Value) :=
  match P.info? t with
  | some i => match i.zero with
    | some z => match z.cells.toList.all lit1 with | true => some z.cells.toList | false => none
    | none => none
  | none => none
def sizesOk (P : Program) (fields : Array Field) : Bool := fields.toList.all fun f => (P.info? f.type).isSome

def assertV (t : TypeId) (zero : Option Value) (ok : Bool) (x : Value) : Option Value :=
  match x with
  | .iface u v => match Nat.beq u t with
    | true => some (match ok with | true => .tuple #[v, .bool true] | false => v)
    | false => match ok, zero with
      | true, some z => some (.tuple #[z, .bool false])
      | _, _ => none
  | .nilIface => match ok, zero with
    | true, some z => some (.tuple #[z, .bool false])
    | _, _ => none
  | _ => none

def nilV (x : Value) : Option Value :=
  match x with
  | .pointer none | .nilIface | .nilFunc | .tuple _ => none
  | .func (.method _) _ _ => none
  | x => some x

def ifaceV (t : TypeId) (x : Value) : Option Value :=
  match x with
  | .tuple _ => none
  | v => some (.iface t v)
def pickV (c a b : Value) : Option Value :=
  match c with
  | .bool t => some (if t then a else b)
  | _ => none
def isConstO : Operand → Bool
  | .const _ => true
  | _ => false

def partsV (P : Program) (elem : TypeId) (ev : Operand → Value) : List (Nat × Operand) → Nat → List (Nat × Nat × Value)
  | [], _ => []
  | (i, x) :: r, n => (i * n, n, ev x) :: partsV P elem ev r n
def buildOp (P : Program) (t : TypeId) (parts : Array (Nat × Operand)) (ev : Operand → Value) : Option Value :=
  match P.underlying t with
  | some (.struct fields) => match sizesOk P fields, zeroOf P t with
    | true, some z => buildV z (placesOf P fields ev parts.toList)
    | _, _ => none
  | some (.array _ elem) => match P.info? elem, zeroOf P t with
    | some i, some z => buildV z (some (partsV P elem ev parts.toList i.size))
    | _, _ => none
  | _ => none
def loadOp (P : Program) (t : TypeId) (a : Value) (h : St) : Option Value :=
  match aggT P t, P.info? t with
  | some g, some i => loadV g i.size a h
  | _, _ => none
def binOpV (P : Program) (b : BinOp) (t : TypeId) (c : Bool) (x y : Value) : Option Value :=
  match c with
  | true => binNil b (shapeOf P t) x y
  | false => binV b (shapeOf P t) x y
def ifaceOp (P : Program) (t : TypeId) (x : Value) : Option Value :=
  match P.underlying t with
  | some (.interface _) => none
  | some _ => ifaceV t x
  | none => none
/-- An array of one's own, as a slice. -/
def cutR (len size : Nat) (x : Value) (lo hi : Option Value) (h : St) : Option Value :=
  match x with
  | .pointer (some ⟨a, off, none⟩) => match h.objs a with
    | some (.cells cs true) => if off + len * size ≤ cs.length ∧ len ≤ maxLen then cutA len size x lo hi else none
    | some (.cells _ false) => if len ≤ maxLen then cutN len size x lo hi else none
    | _ => none
  | _ => none
def sliceOp (P : Program) (t : TypeId) (x : Value) (lo hi : Option Value) (h : St) : Option Value :=
  match P.underlying t with
  | some .string => cutT x lo hi
  | some (.slice e) => match P.info? e with
    | some i => cutS i.size x lo hi
    | none => none
  | some (.array n e) => match P.info? e with
    | some i => cutR n i.size x lo hi h
    | none => none
  | _ => none
def sliceOp3 (P : Program) (t : TypeId) (x : Value) (lo hi mx : Option Value) : Option Value :=
  match P.underlying t with
  | some (.slice e) => match P.info? e with
    | some i => cutS3 i.size x lo hi mx
    | none => none
  | _ => none
/-- A slice as an array's address. -/
def arrP (n : Nat) (x : Value) : Option Value :=
  match x with
  | .slice (some ⟨a, off, _⟩) len _ => if 0 < n ∧ n ≤ len then some (.pointer (some ⟨a, off, none⟩)) else none
  | _ => none
def arrOp (P : Program) (t : TypeId) (x : Value) : Option Value :=
  match P.underlying t with
  | some (.array n _) => arrP n x
  | _ => none
def fieldAddrOp (P : Program) (s : TypeId) (f : Nat) (x : Value) : Option Value :=
  match fieldOf P s f with
  | some (o, n, _) => match n with
    | 0 => none
    | _ + 1 => offV o x
  | none => none
def fieldOp (P : Program) (s : TypeId) (f : Nat) (x : Value) : Option Value :=
  match fieldOf P s f with
  | some (o, n, g) => fieldV o n g x
  | none => none
def indexAddrOp (P : Program) (t : TypeId) (x i : Value) : Option Value :=
  match P.underlying t with
  | some (.slice e) => match P.info? e with
    | some ti => idxS ti.size x i
    | none => none
  | some (.array n e) => match P.info? e with
    | some ti => idxA n ti.size x i
    | none => none
  | _ => none
def indexOp (P : Program) (t : TypeId) (x i : Value) : Option Value :=
  match P.underlying t with
  | some .string => idxT x i
  | some (.array n e) => match P.info? e, aggT P e with
    | some ti, some g => idxV n ti.size g x i
    | _, _ => none
  | _ => none
def zeroV (P : Program) (t : TypeId) : Option Value :=
  match P.info? t with
  | some i => match i.zero with
    | some z => match lit z with | true => some z | false => none
    | none => none
  | none => none
def lookupOp (P : Program) (t : TypeId) (m k : Value) (ok : Bool) (h : St) : Option Value :=
  match P.underlying t with
  | some (.map key elem) => match zeroV P elem with
    | some z => lookV (keyMode P key) z ok m k h
    | none => none
  | _ => none
def assertOp (P : Program) (t : TypeId) (ok : Bool) (x : Value) : Option Value :=
  match P.underlying t with
  | some (.interface _) => none
  | some _ => assertV t (zeroV P t) ok x
  | none => none
def lenOp (P : Program) (t : TypeId) (x : Value) (h : St) : Option Value :=
  match P.underlying t with
  | some .string => lenT x
  | some (.slice _) => lenS x
  | some (.map _ _) => lenM x h
  | some (.array n _) => some (.int .i64 n)
  | _ => none
/-- Of a slice that is nil, or whose capacity is known. -/
def capS (x : Value) : Option Value :=
  match x with
  | .slice none 0 0 => some (.int .i64 0)
  | .slice (some ⟨_, _, some _⟩) _ (c + 1) => some (.int .i64 c)
  | _ => none
def capOp (P : Program) (t : TypeId) (x : Value) : Option Value :=
  match P.underlying t with
  | some (.slice _) => capS x
  | _ => none
def builtinV (P : Program) (b : Builtin) (ts : List TypeId) (xs : List Value) (h : St) : Option Value :=
  match b with
  | .len => match ts, xs with
    | t :: _, x :: _ => lenOp P t x h
    | _, _ => none
  | .min => minV xs
  | .max => maxV xs
  | .cap => match ts, xs with
    | t :: _, x :: _ => capOp P t x
    | _, _ => none
  | _ => none
def callV (P : Program) (c : Call) (ev : Operand → Value) (h : St) : Option Value :=
  match c.callee with
  | .builtin b => builtinV P b c.argTypes.toList (c.args.toList.map ev) h
  | _ => none

/-- The key and the value that a range's step gave. -/
def entryV (x : Value) (h : St) : Option Value :=
  match x with
  | .pointer (some ⟨i, 0, none⟩) => match h.objs i with
    | some (.iter (some r) _ seen stepped) => match seen.getLast?, h.objs r with
      | some b, some (.map es clock) => match Nat.beq clock stepped with
        | true => (match es.find? fun e => e.born == b with
          | some e => (match lit e.key with | true => some (.tuple #[e.key, e.val]) | false => none)
          | none => none)
        | false => none
      | _, _ => none
    | _ => none
  | _ => none
/-- The values of operations that leave the heap alone. -/
def opV (P : Program) (op : Op) (ev : Operand → Value) (h : St) : Option Value :=
  match op with
  | .move x => some (ev x)
  | .assign x => some (ev x)
  | .pick c a b => pickV (ev c) (ev a) (ev b)
  | .build t parts => buildOp P t parts ev
  | .load t a => loadOp P t (ev a) h
  | .nilCheck x => nilV (ev x)
  | .binOp b t x y _ => binOpV P b t (isConstO x || isConstO y) (ev x) (ev y)
  | .unOp u _ x => unV u (ev x)
  | .convert s d x => convV P s d (ev x) h
  | .makeInterface t x => ifaceOp P t (ev x)
  | .makeFunc fn first captured => some (.func fn (first.map ev) (captured.map ev))
  | .slice t x lo hi mx => match mx with
    | none => sliceOp P t (ev x) (lo.map ev) (hi.map ev) h
    | some m => sliceOp3 P t (ev x) (lo.map ev) (hi.map ev) (some (ev m))
  | .sliceToArrayPointer t x => arrOp P t (ev x)
  | .fieldAddr s x f => fieldAddrOp P s f (ev x)
  | .field s x f => fieldOp P s f (ev x)
  | .indexAddr t x i => indexAddrOp P t (ev x) (ev i)
  | .index t x i => indexOp P t (ev x) (ev i)
  | .lookup t m k ok => lookupOp P t (ev m) (ev k) ok h
  | .extract x i => extV i (ev x)
  | .typeAssert x _ t ok => assertOp P t ok (ev x)
  | .entry x => entryV (ev x) h
  | .call c => callV P c ev h
  | _ => none

/-! ### what touches the heap -/
abbrev Cont := Value → St → Prop
abbrev Oracle := FuncId → List Value → St → Cont → Prop

def allocE (cells : Option (List Value)) (h : St) (k : Cont) : Prop :=
  match cells with
  | some cs => k (.pointer (some ⟨h.next, 0, none⟩)) (h.push (.cells cs true))
  | none => False
def boxE (v : Value) (h : St) (k : Cont) : Prop :=
  v.cells.toList.all one = true ∧ k (.pointer (some ⟨h.next, 0, none⟩)) (h.push (.cells v.cells.toList true))
def repL (z : List Value) : Nat → List Value
  | 0 => []
  | n + 1 => z ++ repL z n
def buildSliceE (size len : Nat) (z : List Value) (parts : List (Nat × Nat × Value)) (h : St) (k : Cont) : Prop :=
  match fillL parts (repL z len) with
  | some cs => cs.all one = true ∧ (parts.all fun p => !isUnk p.2.2) = true ∧ k (.slice (some ⟨h.next, 0, some size⟩) len 0) (h.push (.cells cs true))
  | none => False
def storeE (n : Nat) (p v : Value) (h : St) (k : Cont) : Prop :=
  match p with
  | .pointer (some ⟨i, off, none⟩) => match h.objs i with
    | some (.cells cs true) => (v.cells.size = n ∧ off + n ≤ cs.length ∧ v.cells.toList.all one = true) ∧
        k undef (h.set i (.cells (cs.take off ++ v.cells.toList ++ cs.drop (off + n)) true))
    | _ => False
  | _ => False
def makeMapE (h : St) (k : Cont) : Prop := k (.map (some h.next)) (h.push (.map [] 0))
def makeSliceE (size bytes : Nat) (z : List Value) (l c : Value) (h : St) (k : Cont) : Prop :=
  match l, c with
  | .int _ l, .int _ c => (0 ≤ l ∧ l ≤ c ∧ c * bytes ≤ 140737488355328 ∧ c ≤ 140737488355328) ∧
      k (.slice (some ⟨h.next, 0, some size⟩) l.toNat 0) (h.push (.cells (repL z c.toNat) true))
  | _, _ => False
def entrySet (es : List MapEntry) (i : Nat) (k v : Value) : List MapEntry := es.modify i fun e => { e with key := k, val := v }
def mapUpdateE (key : KeyMode) (m k x : Value) (h : St) (K : Cont) : Prop :=
  match m with
  | .map (some r) => match h.objs r with
    | some (.map es clock) => match find key k es with
      | some (some (i, _)) => K undef (h.set r (.map (entrySet es i k x) clock))
      | some none => K undef (h.set r (.map (es ++ [⟨k, x, clock⟩]) (clock + 1)))
      | none => False
    | _ => False
  | _ => False
def mapEntryE (key : KeyMode) (zero : Value) (m k : Value) (h : St) (K : Cont) : Prop :=
  match m with
  | .map (some r) => match h.objs r with
    | some (.map es clock) => match find key k es with
      | some (some (i, e)) => K (.tuple #[e.val, .int .i64 e.born]) (h.set r (.map (entrySet es i k e.val) clock))
      | some none => K (.tuple #[zero, .int .i64 clock]) (h.set r (.map (es ++ [⟨k, zero, clock⟩]) (clock + 1)))
      | none => False
    | _ => False
  | _ => False
def entryStoreE (m s x : Value) (h : St) (K : Cont) : Prop :=
  match m, s with
  | .map (some r), .int _ b => match h.objs r with
    | some (.map es clock) => match es.findIdx? (fun e => (e.born : Int) == b) with
      | some i => K undef (h.set r (.map (es.modify i fun e => { e with val := x }) clock))
      | none => False
    | _ => False
  | _, _ => False
def deleteE (key : KeyMode) (m k : Value) (h : St) (K : Cont) : Prop :=
  match m with
  | .map none => (find key k []).isSome = true ∧ K undef h
  | .map (some r) => match h.objs r with
    | some (.map es clock) => match find key k es with
      | some (some (i, _)) => K undef (h.set r (.map (es.eraseIdx i) clock))
      | some none => K undef h
      | none => False
    | _ => False
  | _ => False
/-- The cells that are appended. -/
def newCells (size : Nat) (x : Value) (h : St) : Option (List Value × Nat) :=
  match x with
  | .slice none 0 0 => some ([], 0)
  | .slice (some a) n _ => (match n with
    | 0 => some ([], 0)
    | _ => match h.objs a.block with
      | some (.cells cs _) => (takeN cs a.off (n * size)).map fun l => (l, n)
      | _ => none)
  | .string s => (match Nat.beq size 1 with
    | true => some (s.data.toList.map fun b => .int .u8 b.toNat, s.size)
    | false => none)
  | _ => none
def appendE0 (size bytes : Nat) (s x : Value) (h : St) (k : Cont) : Prop :=
  match newCells size x h with
  | none => False
  | some (new, m) =>
    match s with
    | .slice none 0 0 => (new.all one = true ∧ m * bytes ≤ 140737488355328 ∧ m ≤ 140737488355328) ∧
        (match m with
        | 0 => k (.slice none 0 0) h
        | _ => k (.slice (some ⟨h.next, 0, some size⟩) m 0) (h.push (.cells new true)))
    | .slice (some ⟨i, off, some z⟩) n c => (match h.objs i with
      | some (.cells cs true) => (match c with
        | 0 => (new.all one = true ∧ z = size ∧ off = 0 ∧ n * size ≤ cs.length ∧ (n + m) * bytes ≤ 140737488355328 ∧ n + m ≤ 140737488355328) ∧
          k (.slice (some ⟨h.next, 0, some size⟩) (n + m) 0) ((h.kill i).push (.cells (cs.take (n * size) ++ new) true))
        | cap + 1 => (match Nat.ble (n + m) cap with
          | true => (new.all one = true ∧ z = size ∧ off + n * size ≤ cs.length) ∧
            k (.slice (some ⟨i, off, some z⟩) (n + m) (cap + 1)) (h.set i (.cells (cs.take (off + n * size) ++ new ++ cs.drop (off + n * size + m * size)) true))
          | false => (new.all one = true ∧ z = size ∧ off + n * size ≤ cs.length ∧ (n + m) * bytes ≤ 140737488355328 ∧ n + m ≤ 140737488355328) ∧
            k (.slice (some ⟨h.next, 0, some size⟩) (n + m) 0) (h.push (.cells ((cs.drop off).take (n * size) ++ new) true))))
      | _ => False)
    | _ => False
/-- What is known of a capacity is forgotten. -/
def forget : Value → Value
  | .slice (some ⟨q, off, some z⟩) n _ => .slice (some ⟨q, off, some z⟩) n 0
  | v => v
/-- Append; at an inner place, where the capacity is not known, whatever it may be. -/
def appendE (size bytes : Nat) (s x : Value) (h : St) (k : Cont) : Prop :=
  match s with
  | .slice (some ⟨i, off + 1, some z⟩) n 0 => n ≤ maxLen ∧ ∀ c, n ≤ c → c ≤ maxLen → appendE0 size bytes (.slice (some ⟨i, off + 1, some z⟩) n (c + 1)) x h fun v h' => k (forget v) h'
  | _ => appendE0 size bytes s x h k
def toBytesE (x : Value) (h : St) (k : Cont) : Prop :=
  match x with
  | .string s => s.size ≤ 140737488355328 ∧ k (.slice (some ⟨h.next, 0, none⟩) s.size 0) (h.push (.cells (s.data.toList.map fun b => .int .u8 b.toNat) false))
  | _ => False
def callE (C : Oracle) (f : Value) (args : List Value) (h : St) (k : Cont) : Prop :=
  match f with
  | .func (.func g) first captured => C g (first.toList ++ args ++ captured.toList) h k
  | _ => False

/-- The function behind a method's name at a type of pointers; whether the receiver is read through the pointer. -/
def methOf (P : Program) (t : TypeId) (name : String) : Option (FuncId × Option (Bool × Nat)) :=
  match P.info? t with
  | some i => match i.methods.find? (fun m => m.name == name), P.underlying t with
    | some m, some (.pointer e) => match m.path.toList, m.func with
      | [], some (f, true) => some (f, none)
      | [], some (f, false) => match aggT P e, P.info? e with
        | some g, some j => some (f, some (g, j.size))
        | _, _ => none
      | _, _ => none
    | _, _ => none
  | none => none
def invokeE (P : Program) (C : Oracle) (name : String) (recv : Value) (args : List Value) (h : St) (k : Cont) : Prop :=
  match recv with
  | .iface t v => match methOf P t name with
    | some (f, none) => C f (v :: args) h k
    | some (f, some (g, n)) => bindV (loadV g n v h) fun x => C f (x :: args) h k
    | none => False
  | _ => False

def effB : Builtin → Bool
  | .len | .min | .max | .cap => false
  | _ => true
/-- Does an operation touch the heap? -/
def isEff (P : Program) (op : Op) : Bool :=
  match op with
  | .alloc _ => true
  | .box _ _ => true
  | .buildSlice _ _ _ => true
  | .store _ _ _ => true
  | .makeMap _ _ => true
  | .makeSlice _ _ _ => true
  | .mapUpdate _ _ _ _ => true
  | .insert _ _ _ _ => true
  | .mapEntry _ _ _ => true
  | .entryStore _ _ _ _ => true
  | .range _ _ => true
  | .next _ _ => true
  | .convert s d _ => match P.underlying s, P.underlying d with
    | some .string, some (.slice _) => true
    | _, _ => false
  | .call c => match c.callee with
    | .builtin b => effB b
    | _ => true
  | _ => false
def readB (P : Program) (b : Builtin) (ts : List TypeId) : Bool :=
  match b, ts with
  | .len, t :: _ => match P.underlying t with
    | some (.map _ _) => true
    | _ => false
  | _, _ => false
/-- Does it look at the heap? -/
def isRead (P : Program) (op : Op) : Bool :=
  match op with
  | .slice t _ _ _ mx => match mx, P.underlying t with
    | none, some (.array _ _) => true
    | _, _ => false
  | .load _ _ => true
  | .lookup _ _ _ _ => true
  | .entry _ => true
  | .call c => match c.callee with
    | .builtin b => readB P b c.argTypes.toList
    | _ => false
  | .convert s d _ => match P.underlying s, P.underlying d with
    | some (.slice _), some .string => true
    | _, _ => false
  | _ => false

def buildSliceOp (P : Program) (t : TypeId) (len : Nat) (parts : Array (Nat × Operand)) (ev : Operand → Value) (h : St) (k : Cont) : Prop :=
  match P.underlying t with
  | some (.slice e) => match P.info? e, zeroOf P e with
    | some i, some z => match Nat.ble (len * i.size) 16777216 && Nat.ble len 16777216 && Nat.beq z.length i.size with
      | true => buildSliceE i.size len z (partsV P e ev parts.toList i.size) h k
      | false => False
    | _, _ => False
  | _ => False
def storeOp (P : Program) (t : TypeId) (a x : Value) (h : St) (k : Cont) : Prop :=
  match P.info? t with
  | some i => storeE i.size a x h k
  | none => False
def makeMapOp (P : Program) (t : TypeId) (r : Option Operand) (h : St) (k : Cont) : Prop :=
  match r, P.underlying t with
  | none, some (.map _ _) => makeMapE h k
  | _, _ => False
def makeSliceOp (P : Program) (t : TypeId) (l c : Value) (h : St) (k : Cont) : Prop :=
  match P.underlying t with
  | some (.slice e) => match P.info? e, zeroOf P e with
    | some i, some z => match Nat.beq z.length i.size with
      | true => makeSliceE i.size i.bytes z l c h k
      | false => False
    | _, _ => False
  | _ => False
def mapUpdateOp (P : Program) (t : TypeId) (m x v : Value) (h : St) (k : Cont) : Prop :=
  match P.underlying t with
  | some (.map key _) => mapUpdateE (keyMode P key) m x v h k
  | _ => False
def mapEntryOp (P : Program) (t : TypeId) (m x : Value) (h : St) (k : Cont) : Prop :=
  match P.underlying t with
  | some (.map key elem) => match zeroV P elem with
    | some z => mapEntryE (keyMode P key) z m x h k
    | none => False
  | _ => False
def toBytesOp (P : Program) (d : TypeId) (x : Value) (h : St) (k : Cont) : Prop :=
  match P.underlying d with
  | some (.slice e) => match P.underlying e with
    | some (.int .u8) => toBytesE x h k
    | _ => False
  | _ => False
def isSeq : Option TypeDesc → Bool
  | some (.slice _) => true
  | some .string => true
  | _ => false
/-- 'append(nil, make([]T, n)...)': what stands in it is not known. -/
def appendZ (size bytes : Nat) (s x : Value) (h : St) (k : Cont) : Prop :=
  match s, x with
  | .slice none 0 0, .int _ n => (0 < n ∧ n * bytes ≤ 140737488355328 ∧ n ≤ 140737488355328) ∧ k (.slice (some ⟨h.next, 0, some size⟩) n.toNat 0) (h.push (.cells [] true))
  | .slice (some ⟨i, off, some z⟩) m (cap + 1), .int _ n => (match h.objs i with
    | some (.cells cs true) => (0 < n ∧ (cap : Int) < m + n ∧ z = size ∧ off + m * size ≤ cs.length ∧ (m + n) * bytes ≤ 140737488355328 ∧ m + n ≤ 140737488355328) ∧
      k (.slice (some ⟨h.next, 0, some size⟩) (m + n.toNat) 0) (h.push (.cells ((cs.drop off).take (m * size)) true))
    | _ => False)
  | _, _ => False
def isIntT : Option TypeDesc → Bool
  | some (.int _) => true
  | _ => false
def appendOp (P : Program) (t u : TypeId) (s x : Value) (h : St) (k : Cont) : Prop :=
  match P.underlying t with
  | some (.slice e) => match P.info? e, zeroOf P e with
    | some i, some z => match Nat.blt 0 i.size && Nat.beq z.length i.size with
      | true => (match isSeq (P.underlying u) with
        | true => appendE i.size i.bytes s x h k
        | false => match isIntT (P.underlying u) with
          | true => appendZ i.size i.bytes s x h k
          | false => False)
      | false => False
    | _, _ => False
  | _ => False
def deleteOp (P : Program) (t : TypeId) (m x : Value) (h : St) (k : Cont) : Prop :=
  match P.underlying t with
  | some (.map key _) => deleteE (keyMode P key) m x h k
  | _ => False
/-- 'copy(d, x)': into one's own cells; what is read is read first. -/
def copyE (size : Nat) (d x : Value) (h : St) (k : Cont) : Prop :=
  match d, x with
  | .slice (some ⟨i, off, some z⟩) n _, .slice a m c => (match h.objs i with
    | some (.cells cs true) => (match newCells size (.slice a (min m n) c) h with
      | some (new, _) => (new.all one = true ∧ z = size ∧ off ≤ cs.length) ∧ k (.int .i64 ((min m n : Nat) : Int)) (h.set i (.cells (cs.take off ++ new ++ cs.drop (off + (min m n) * size)) true))
      | none => False)
    | _ => False)
  | _, _ => False
def copyOp (P : Program) (t u : TypeId) (d x : Value) (h : St) (k : Cont) : Prop :=
  match P.underlying t, P.underlying u with
  | some (.slice e), some (.slice _) => match P.info? e with
    | some i => copyE i.size d x h k
    | none => False
  | _, _ => False
/-- 'clear(x)', x a slice of one's own. -/
def clearE (size : Nat) (z : List Value) (x : Value) (h : St) (k : Cont) : Prop :=
  match x with
  | .slice none 0 0 => k undef h
  | .slice (some ⟨i, off, some s⟩) n _ => (match h.objs i with
    | some (.cells cs true) => (z.length = size ∧ s = size ∧ off ≤ cs.length) ∧ k undef (h.set i (.cells (cs.take off ++ repL z n ++ cs.drop (off + n * size)) true))
    | _ => False)
  | _ => False
def clearOp (P : Program) (t : TypeId) (x : Value) (h : St) (k : Cont) : Prop :=
  match P.underlying t with
  | some (.slice e) => match P.info? e, zeroOf P e with
    | some i, some z => clearE i.size z x h k
    | _, _ => False
  | _ => False
/-- A range over a map begins. -/
def rangeE (x : Value) (h : St) (k : Cont) : Prop :=
  match x with
  | .map none => k (.pointer (some ⟨h.next, 0, none⟩)) (h.push (.iter none 0 [] 0))
  | .map (some r) => (match h.objs r with
    | some (.map _ clock) => k (.pointer (some ⟨h.next, 0, none⟩)) (h.push (.iter (some r) clock [] clock))
    | _ => False)
  | _ => False
def rangeOp (P : Program) (t : TypeId) (x : Value) (h : St) (k : Cont) : Prop :=
  match P.underlying t with
  | some (.map _ _) => rangeE x h k
  | _ => False
/-- The entries that are left. -/
def leftE (es : List MapEntry) (seen : List Nat) : List MapEntry := es.filter fun e => !seen.contains e.born
/-- The next entry, whichever of those that are left; nothing was laid into the map since the range began. -/
def nextE (x : Value) (isString : Bool) (h : St) (k : Cont) : Prop :=
  match isString, x with
  | false, .pointer (some ⟨i, 0, none⟩) => (match h.objs i with
    | some (.iter none _ _ _) => k (.tuple #[.bool false]) h
    | some (.iter (some r) since seen last) => (match h.objs r with
      | some (.map es clock) => ((∀ e ∈ es, e.born < since ∧ lit e.key = true) ∧ since ≤ last) ∧ (leftE es seen = [] → k (.tuple #[.bool false]) h) ∧
          ∀ e ∈ leftE es seen, k (.tuple #[.bool true, e.key, e.val]) (h.set i (.iter (some r) since (seen ++ [e.born]) clock))
      | _ => False)
    | _ => False)
  | _, _ => False
def builtinE (P : Program) (b : Builtin) (ts : List TypeId) (xs : List Value) (h : St) (k : Cont) : Prop :=
  match b with
  | .append => match ts, xs with
    | [t, u], [s, x] => appendOp P t u s x h k
    | _, _ => False
  | .delete => match ts, xs with
    | t :: _, [m, x] => deleteOp P t m x h k
    | _, _ => False
  | .copy => match ts, xs with
    | [t, u], [d, x] => copyOp P t u d x h k
    | _, _ => False
  | .clear => match ts, xs with
    | [t], [x] => clearOp P t x h k
    | _, _ => False
  | _ => False
def callOp (P : Program) (C : Oracle) (c : Call) (ev : Operand → Value) (h : St) (k : Cont) : Prop :=
  match c.callee with
  | .value f => callE C (ev f) (c.args.toList.map ev) h k
  | .builtin b => builtinE P b c.argTypes.toList (c.args.toList.map ev) h k
  | .invoke r n => invokeE P C n (ev r) (c.args.toList.map ev) h k

def opE (P : Program) (C : Oracle) (op : Op) (ev : Operand → Value) (h : St) (k : Cont) : Prop :=
  match op with
  | .alloc t => allocE (zeroOf P t) h k
  | .box _ x => boxE (ev x) h k
  | .buildSlice t len parts => buildSliceOp P t len parts ev h k
  | .store t a x => storeOp P t (ev a) (ev x) h k
  | .makeMap t r => makeMapOp P t r h k
  | .makeSlice t l c => makeSliceOp P t (ev l) (ev c) h k
  | .mapUpdate t m kk x => mapUpdateOp P t (ev m) (ev kk) (ev x) h k
  | .insert t m kk x => mapUpdateOp P t (ev m) (ev kk) (ev x) h k
  | .mapEntry t m kk => mapEntryOp P t (ev m) (ev kk) h k
  | .entryStore _ m s x => entryStoreE (ev m) (ev s) (ev x) h k
  | .range t x => rangeOp P t (ev x) h k
  | .next x b => nextE (ev x) b h k
  | .convert _ d x => toBytesOp P d (ev x) h k
  | .call c => callOp P C c ev h k
  | _ => False

def opK (P : Program) (C : Oracle) (op : Op) (ev : Operand → Value) (h : St) (k : Cont) : Prop :=
  match isEff P op with
  | true => opE P C op ev h k
  | false => bindV (opV P op ev h) fun v => k v h

/-! ### statements -/
def guardK (v : Value) (want : Bool) (yes no : Prop) : Prop :=
  match v with
  | .bool b => match b, want with
    | true, true | false, false => yes
    | _, _ => no
  | .tuple vs => match vs.toList with
    | [] => no
    | _ => False
  | _ => False
/-- Operations under one guard, one behind the other, go together. -/
inductive Group where
  | one (o : Oper)
  | many (j : Nat) (want : Bool) (l : List Oper)
def sameG (i : Nat) (a : Bool) (j : Nat) (b : Bool) : Bool :=
  match a, b with
  | true, true => Nat.beq i j
  | false, false => Nat.beq i j
  | _, _ => false
def addG (o : Oper) (r : List Group) : List Group :=
  match o.guard, r with
  | some (i, a), .many j b l :: r' => match sameG i a j b with
    | true => .many j b (o :: l) :: r'
    | false => .many i a [o] :: .many j b l :: r'
  | some (i, a), r => .many i a [o] :: r
  | none, r => .one o :: r
def groupsOf : List Oper → List Group
  | [] => []
  | o :: r => addG o (groupsOf r)
/-- What a group writes. -/
def putsT (xs : List Value) : List Oper → Nat → List Value → List Value
  | [], _, t => t
  | o :: l, k, t => putsT xs l (k + 1) (putT t o.dst (getT xs k))
def undefs : List Oper → List Value
  | [] => []
  | _ :: l => undef :: undefs l
def free (d : Nat) : List Oper → Bool
  | [] => true
  | o :: l => (match o.dst with | some e => !(Nat.beq e d) | none => true) && free d l
def guardSlot (ops : Array Oper) (j : Nat) (l : List Oper) : Option Nat :=
  match (ops[j]?).bind (·.dst) with
  | some d => match free d l with
    | true => some d
    | false => none
  | none => none
def moved : Op → Option Operand
  | .move x => some x
  | .assign x => some x
  | _ => none
def getK : List Value → Nat → (Value → Prop) → Prop
  | [], _, k => k undef
  | v :: _, 0, k => k v
  | _ :: t, n + 1, k => getK t n k
def evK (P : Program) (t : List Value) (x : Operand) (k : Value → Prop) : Prop :=
  match x with
  | .tmp n => getK t n k
  | x => k (evA P t x)

def groupK (v : Value) (want : Bool) (none : List Value) (h : St) (body : (List Value → St → Prop) → Prop) (J : List Value → St → Prop) : Prop :=
  guardK v want (body J) (J none h)
def stepK (P : Program) (C : Oracle) (o : Op) (t : List Value) (h : St) (k : Cont) : Prop :=
  match moved o with
  | some x => evK P t x fun v => k v h
  | none => opK P C o (evA P t) h k
def runG (P : Program) (C : Oracle) : List Oper → List Value → St → List Value → (List Value → St → Prop) → Prop
  | [], _, h, acc, J => J acc h
  | o :: l, t, h, acc, J => stepK P C o.op t h fun v h' => runG P C l (putT t o.dst v) h' (acc ++ [v]) J

def regK (P : Program) (C : Oracle) (G : Prop → Prop) (ops : Array Oper) : List Group → List Value → St → (List Value → St → Prop) → Prop
  | [], t, h, K => K t h
  | .one o :: r, t, h, K => stepK P C o.op t h fun v h' => tidyT o.dst (putT t o.dst v) fun t' => regK P C G ops r t' h' K
  | .many j want l :: r, t, h, K => match guardSlot ops j l with
    | some d => groupK (getT t d) want (undefs l) h (fun J => runG P C l t h [] J) fun xs h' => G (forceT (putsT xs l 0 t) fun t' => regK P C G ops r t' h' K)
    | none => False

/-- Is the operation 'i' made to wait for 'e'? -/
def waits (bef : List Nat) (e i : Nat) : Bool := (bef.getD i 0).testBit e
/-- What was read: under what guard, by what, what came of it. -/
structure Seen where
  idx : Nat
  guard : Option (Value × Bool)
  op : Op
  ev : Operand → Value
  v : Value
/-- What was seen reads the same behind what the operation 'i' did, as far as it need not come ahead of it. -/
def seenOk (P : Program) (bef : List Nat) (i : Nat) (h : St) : List Seen → Prop
  | [] => True
  | r :: rs => (match waits bef r.idx i with
    | true => True
    | false => match r.guard with
      | none => opV P r.op r.ev h = some r.v
      | some (g, want) => guardK g want (opV P r.op r.ev h = some r.v) True) ∧ seenOk P bef i h rs
def pastOk (P : Program) (bef : List Nat) (i : Nat) (op : Op) (ev : Operand → Value) (v : Value) : List (Nat × Option St) → Prop
  | [] => True
  | (e, h) :: rs => (match waits bef e i with | true => True | false => match h with | some h => opV P op ev h = some v | none => False) ∧ pastOk P bef i op ev v rs
/-- Whatever was done, the operation waits for. -/
def effWaits (bef : List Nat) (i : Nat) : List (Nat × Option St) → Bool
  | [] => true
  | (e, _) :: rs => waits bef e i && effWaits bef i rs
/-- One operation of a statement whose order Go leaves open: what was seen so far, what was done so far. -/
def stepD (P : Program) (C : Oracle) (bef : List Nat) (o : Op) (i : Nat) (t : List Value) (h : St) (seen : List Seen) (past : List (Nat × Option St)) (k : Cont) : Prop :=
  match moved o with
  | some x => evK P t x fun v => k v h
  | none => match isEff P o with
    | true => (match effWaits bef i past with
      | true => opE P C o (evA P t) h fun v h' => seenOk P bef i h' seen ∧ k v h'
      | false => False)
    | false => match isRead P o with
      | true => bindV (opV P o (evA P t) h) fun v => pastOk P bef i o (evA P t) v past ∧ k v h
      | false => bindV (opV P o (evA P t) h) fun v => k v h
def addSeen (P : Program) (g : Option (Value × Bool)) (o : Op) (i : Nat) (t : List Value) (v : Value) (seen : List Seen) : List Seen :=
  match isRead P o with
  | true => ⟨i, g, o, evA P t, v⟩ :: seen
  | false => seen
def addPast (P : Program) (o : Op) (i : Nat) (h : Option St) (past : List (Nat × Option St)) : List (Nat × Option St) :=
  match isEff P o with
  | true => (i, h) :: past
  | false => past
/-- A group of a statement whose order Go leaves open. -/
def runD (P : Program) (C : Oracle) (bef : List Nat) : List Oper → Nat → List Value → St → List Seen → List (Nat × Option St) → List Value → (List Value → St → Prop) → Prop
  | [], _, _, h, _, _, acc, J => J acc h
  | o :: l, i, t, h, seen, past, acc, J => stepD P C bef o.op i t h seen past fun v h' =>
      runD P C bef l (i + 1) (putT t o.dst v) h' (addSeen P none o.op i t v seen) (addPast P o.op i (some h) past) (acc ++ [v]) J
/-- What was read in a group, and what was done in it (ahead of the second and later things the heap is not known). -/
def seenIn (P : Program) (g : Value × Bool) (xs : List Value) : List Oper → Nat → Nat → List Value → List Seen → List Seen
  | [], _, _, _, seen => seen
  | o :: l, i, k, t, seen => seenIn P g xs l (i + 1) (k + 1) (putT t o.dst (getT xs k)) (addSeen P (some g) o.op i t (getT xs k) seen)
def restH (P : Program) (o : Op) (h : Option St) : Option St :=
  match isEff P o with
  | true => none
  | false => h
def doneIn (P : Program) : Option St → List Oper → Nat → List (Nat × Option St) → List (Nat × Option St)
  | _, [], _, past => past
  | h, o :: l, i, past => doneIn P (restH P o.op h) l (i + 1) (addPast P o.op i h past)
/-- A statement whose order Go leaves open: in the order of the text; what was read reads the same behind whatever is done later, and would have read the same ahead of what was done. -/
def regD (P : Program) (C : Oracle) (G : Prop → Prop) (ops : Array Oper) (bef : List Nat) : List Group → Nat → List Value → St → List Seen → List (Nat × Option St) → (List Value → St → Prop) → Prop
  | [], _, t, h, _, _, K => K t h
  | .one o :: r, i, t, h, seen, past, K => stepD P C bef o.op i t h seen past fun v h' =>
      regD P C G ops bef r (i + 1) (putT t o.dst v) h' (addSeen P none o.op i t v seen) (addPast P o.op i (some h) past) K
  | .many j want l :: r, i, t, h, seen, past, K => match guardSlot ops j l with
    | some d => groupK (getT t d) want (undefs l) h (fun J => runD P C bef l i t h seen past [] J)
          fun xs h' => G (forceT (putsT xs l 0 t) fun t' => regD P C G ops bef r (i + l.length) t' h' (seenIn P (getT t d, want) xs l i 0 t seen) (doneIn P (some h) l i past) K)
    | none => False

/-! ### things done in an order that Go leaves open: each order that they may come in -/
/-- The operation 'f' is made to wait for 'e' too. -/
def addEdge (ops : Array Oper) (f e : Nat) : Array Oper :=
  match ops[f]? with
  | some o => ops.setIfInBounds f { o with after := o.after.push ⟨e, .data⟩ }
  | none => ops
def effAt (P : Program) (ops : Array Oper) (i : Nat) : Bool :=
  match ops[i]? with
  | some o => isEff P o.op
  | none => false
/-- Of what is done ahead of 'f': the first for which 'f' does not wait. -/
def openTo (bef : List Nat) (f : Nat) : List Nat → Option Nat
  | [] => none
  | e :: l => match waits bef e f with
    | true => openTo bef f l
    | false => some e
def openIn (P : Program) (ops : Array Oper) (bef : List Nat) : List Nat → List Nat → Option (Nat × Nat)
  | [], _ => none
  | f :: l, done => match effAt P ops f with
    | true => (match openTo bef f done with
      | some e => some (e, f)
      | none => openIn P ops bef l (done ++ [f]))
    | false => openIn P ops bef l done
def upTo (f : Nat) : List Nat → List Nat
  | [] => []
  | x :: l => match Nat.beq x f with
    | true => []
    | false => x :: upTo f l
def behind (f : Nat) : List Nat → List Nat
  | [] => []
  | x :: l => match Nat.beq x f with
    | true => l
    | false => behind f l
def thoseW (bef : List Nat) (f : Nat) (want : Bool) : List Nat → List Nat
  | [] => []
  | x :: l => match waits bef x f, want with
    | true, true => x :: thoseW bef f want l
    | false, false => x :: thoseW bef f want l
    | _, _ => thoseW bef f want l
/-- 'f', with what it waits for, ahead of 'e'. -/
def moveUp (bef : List Nat) (e f : Nat) (order : List Nat) : List Nat :=
  upTo e order ++ thoseW bef f true (upTo f (behind e order)) ++ [f, e] ++ thoseW bef f false (upTo f (behind e order)) ++ behind f order
def ordOk (ops : Array Oper) : List Nat → Array Bool → Bool
  | [], listed => (Region.ready .any ops listed).isEmpty
  | k :: l, listed => (Region.ready .any ops listed).contains k && Region.free .any ops listed k && ordOk ops l (listed.setIfInBounds k true)
/-- Operations without guards, in an order. -/
def runO (P : Program) (C : Oracle) (ops : Array Oper) (bef : List Nat) : List Nat → List Value → St → List Seen → List (Nat × Option St) → (List Value → St → Prop) → Prop
  | [], t, h, _, _, K => K t h
  | i :: l, t, h, seen, past, K => match ops[i]? with
    | some o => (match o.guard with
      | none => stepD P C bef o.op i t h seen past fun v h' => runO P C ops bef l (putT t o.dst v) h' (addSeen P none o.op i t v seen) (addPast P o.op i (some h) past) K
      | some _ => False)
    | none => False
/-- Is the operation 'f' made to wait for 'm' itself? -/
def edgeB (ops : Array Oper) (f m : Nat) : Bool :=
  match ops[f]? with
  | some o => o.after.toList.any fun x => Nat.beq x.on m && Region.binds .any x
  | none => false
/-- .. or for something that waits for it? -/
def linked (ops : Array Oper) (e f : Nat) : Bool := (List.range ops.size).any fun m => edgeB ops f m && edgeB ops m e
def regS (P : Program) (C : Oracle) : Nat → Array Oper → List Nat → List Value → St → (List Value → St → Prop) → Prop
  | 0, _, _, _, _, _ => False
  | n + 1, ops, order, t, h, K => match openIn P ops (Region.before ops).toList order [] with
    | none => (match ordOk ops order (Array.replicate ops.size false) && Nat.beq order.length ops.size with
      | true => runO P C ops (Region.before ops).toList order t h [] [] K
      | false => False)
    | some (e, f) => (match Nat.beq e f with
      | true => False
      | false => match linked ops e f with
        | true => regS P C n (addEdge ops f e) order t h K
        | false => regS P C n (addEdge ops f e) order t h K ∧ regS P C n (addEdge ops e f) (moveUp (Region.before ops).toList e f order) t h K)
def bare : List Oper → Bool
  | [] => true
  | o :: l => match o.guard with
    | none => bare l
    | some _ => false
/-- Is anything done in an order that is open? -/
def anyOpen (P : Program) (ops : Array Oper) : Bool :=
  match bare ops.toList with
  | true => (match openIn P ops (Region.before ops).toList (List.range ops.size) [] with
    | none => false
    | some _ => true)
  | false => false
def drawK (P : Program) (C : Oracle) (G : Prop → Prop) (ops : Array Oper) (t : List Value) (h : St) (K : List Value → St → Prop) : Prop :=
  match anyOpen P ops with
  | true => G (regS P C 8 ops (List.range ops.size) t h K)
  | false => regD P C G ops (Region.before ops).toList (groupsOf ops.toList) 0 t h [] [] K

abbrev Kont := Exit → List Value → St → Prop
abbrev Looper := Code → List Value → St → Kont → Prop

def isReg : Code → Bool
  | .region _ _ _ => true
  | _ => false
def condK (v : Value) (yes no : Prop) : Prop :=
  match v with
  | .bool true => yes
  | .bool false => no
  | _ => False

def seqC (run : List Value → St → Prop) (K : Kont) : Kont := fun e t h => (fun _ : Nat =>
  match e with
  | .normal => run t h
  | e => K e t h) high9
def blockC (id : Nat) (K : Kont) : Kont := fun e t h => (fun _ : Nat =>
  match e with
  | .exit j => (match Nat.beq j id with | true => K .normal t h | false => K (.exit j) t h)
  | e => K e t h) high9
def loopC (G : Prop → Prop) (keep : List Bool) (again : List Value → St → Prop) (K : Kont) : Kont := fun e t h => (fun _ : Nat =>
  match e with
  | .normal => G (again (maskT keep t) h)
  | e => K e (maskT keep t) h) high9
/-- What stands behind a statement: G marks the places where a printed text may stop. -/
def nextK (G : Prop → Prop) (keep : List Bool) (a : Code) (run : List Value → Prop) (t : List Value) : Prop :=
  match isReg a with
  | true => forceT t run
  | false => G (forceT (maskT keep t) run)

def codeK (P : Program) (C : Oracle) (G : Prop → Prop) (keep : List Bool) (L : Looper) : Code → List Value → St → Kont → Prop
  | .skip, t, h, K => K .normal t h
  | .region _ ops false, t, h, K => regK P C G ops (groupsOf ops.toList) t h (K .normal)
  | .region _ ops true, t, h, K => (match Region.lexB .any ops with
    | true => drawK P C G ops t h (K .normal)
    | false => False)
  | .seq a b, t, h, K => codeK P C G keep L a t h (seqC (fun t h => nextK G keep a (fun t => codeK P C G keep L b t h K) t) K)
  | .cond c a b, t, h, K => condK (evA P t c) (codeK P C G keep L a t h K) (codeK P C G keep L b t h K)
  | .block id c, t, h, K => codeK P C G keep L c t h (blockC id K)
  | .loop c, t, h, K => G (L c (maskT keep t) h K)
  | .exit id, t, h, K => K (.exit id) t h
  | .ret, t, h, K => K .ret t h
  | .label _, t, h, K => K .normal t h
  | _, _, _, _ => False

def loopK (P : Program) (C : Oracle) (G : Prop → Prop) (keep : List Bool) : Nat → Looper
  | 0, _, _, _, _ => False
  | n + 1, c, t, h, K => codeK P C G keep (loopK P C G keep n) c t h (loopC G keep (fun t h => loopK P C G keep n c t h K) K)

def resultK (P : Program) (t : List Value) (h : St) : List ResultVar → List Value → (List Value → Prop) → Prop
  | [], acc, K => K acc
  | .tmp n :: r, acc, K => resultK P t h r (acc ++ [getT t n]) K
  | .cell a ty :: r, acc, K => match aggT P ty, P.info? ty with
    | some g, some i => bindV (loadV g i.size (getT t a) h) fun v => resultK P t h r (acc ++ [v]) K
    | _, _ => False
def packL : List Value → Value
  | [v] => v
  | l => .tuple l.toArray
def padL (args : List Value) (n : Nat) : List Value := args ++ List.replicate (n - args.length) undef
def funcC (P : Program) (rs : List ResultVar) (K : Cont) : Kont := fun e t h =>
  match e with
  | .normal | .ret => resultK P t h rs [] fun l => K (packL l) h
  | _ => False

def bodyOf (fn : Func) : Code := fn.body.getD (.refuse "")
def funcK (P : Program) (C : Oracle) (G : Prop → Prop) (keep : List Bool) (n : Nat) (fn : Func) (args : List Value) (h : St) (K : Cont) : Prop :=
  codeK P C G keep (loopK P C G keep n) (bodyOf fn) (padL args fn.ntmps) h (funcC P fn.results.toList K)
/-- No mark. -/
def idG : Prop → Prop := fun p => p

/-- A part of a code: false the first, true the second. -/
def pathC : List Bool → Code → Code
  | [], c => c
  | false :: p, .seq a _ => pathC p a
  | true :: p, .seq _ b => pathC p b
  | false :: p, .cond _ a _ => pathC p a
  | true :: p, .cond _ _ b => pathC p b
  | _ :: p, .block _ c => pathC p c
  | _ :: p, .loop c => pathC p c
  | _ :: _, c => c

end Go.Abs
end

section
namespace Go.Abs
open Go.RowKit (Below)

/-- Where an object lies: its block, how many cells may be used, whether it is the call's own. -/
structure Loc where
  blk : Nat
  lim : Nat
  own : Bool
abbrev Rho := Nat → Option Loc

/-- An abstract value stands for a value. -/
inductive VRel (ρ : Rho) : Value → Value → Prop
  | unk (v : Value) : VRel ρ unk v
  | lit (v : Value) (h : lit1 v = true) : VRel ρ v v
  | ptr (i off : Nat) (l : Loc) (h : ρ i = some l) : VRel ρ (.pointer (some ⟨i, off, none⟩)) (.pointer (some ⟨l.blk, off, none⟩))
  | slice (i off n c cap : Nat) (l : Loc) (h : ρ i = some l) (ho : l.own = false) (hn : n ≤ cap) (hc : cap ≤ maxLen) :
      VRel ρ (.slice (some ⟨i, off, none⟩) n c) (.slice (some ⟨l.blk, off, none⟩) n cap)
  | owned (i off n c cap z : Nat) (l : Loc) (h : ρ i = some l) (hn : n ≤ cap) (hc : cap ≤ maxLen) (hl : off + cap * z ≤ l.lim) (hk : c ≠ 0 → c = cap + 1) :
      VRel ρ (.slice (some ⟨i, off, some z⟩) n c) (.slice (some ⟨l.blk, off, none⟩) n cap)
  | empty (a : Addr) (c : Nat) (b : Addr) (hk : a.spot ≠ none → c ≤ 1) : VRel ρ (.slice (some a) 0 c) (.slice (some b) 0 0)
  | map (i : Nat) (l : Loc) (h : ρ i = some l) : VRel ρ (.map (some i)) (.map (some l.blk))
  | func (fn : Fn) (a b a' b' : Array Value) (ha : a.size = a'.size) (hb : b.size = b'.size)
      (h : ∀ i (h1 : i < a.size) (h2 : i < a'.size), VRel ρ a[i] a'[i]) (h' : ∀ i (h1 : i < b.size) (h2 : i < b'.size), VRel ρ b[i] b'[i]) : VRel ρ (.func fn a b) (.func fn a' b')
  | iface (t : TypeId) (v v' : Value) (h : VRel ρ v v') : VRel ρ (.iface t v) (.iface t v')
  | agg (a a' : Array Value) (ha : a.size = a'.size) (h : ∀ i (h1 : i < a.size) (h2 : i < a'.size), VRel ρ a[i] a'[i]) : VRel ρ (.agg a) (.agg a')
  | tuple (a a' : Array Value) (ha : a.size = a'.size) (h : ∀ i (h1 : i < a.size) (h2 : i < a'.size), VRel ρ a[i] a'[i]) : VRel ρ (.tuple a) (.tuple a')

def Rho.le (ρ ρ' : Rho) : Prop := ∀ i l, ρ i = some l → ρ' i = some l
theorem Rho.le.refl (ρ : Rho) : ρ.le ρ := fun _ _ h => h
theorem Rho.le.trans {a b c : Rho} (h : a.le b) (k : b.le c) : a.le c := fun i l hi => k i l (h i l hi)

theorem VRel.mono {ρ ρ' : Rho} (hle : ρ.le ρ') {v v' : Value} (h : VRel ρ v v') : VRel ρ' v v' := by
  induction h with
  | unk v => exact .unk v
  | lit v h => exact .lit v h
  | ptr i off l h => exact .ptr i off l (hle _ _ h)
  | slice i off n c cap l h ho hn hc => exact .slice i off n c cap l (hle _ _ h) ho hn hc
  | owned i off n c cap z l h hn hc hl hk => exact .owned i off n c cap z l (hle _ _ h) hn hc hl hk
  | empty a c b hk => exact .empty a c b hk
  | map i l h => exact .map i l (hle _ _ h)
  | func fn a b a' b' ha hb _ _ ih ih' => exact .func fn a b a' b' ha hb ih ih'
  | iface t v v' _ ih => exact .iface t v v' ih
  | agg a a' ha _ ih => exact .agg a a' ha ih
  | tuple a a' ha _ ih => exact .tuple a a' ha ih

theorem VRel.undef (ρ : Rho) : VRel ρ undef undef := .tuple #[] #[] rfl fun i h => by simp at h
theorem VRel.int (ρ : Rho) (k : IntKind) (n : Int) : VRel ρ (.int k n) (.int k n) := .lit _ rfl
theorem VRel.bool (ρ : Rho) (b : Bool) : VRel ρ (.bool b) (.bool b) := .lit _ rfl
theorem VRel.string (ρ : Rho) (s : ByteArray) : VRel ρ (.string s) (.string s) := .lit _ rfl

/-- Lists of values, one by one. -/
inductive LRel (ρ : Rho) : List Value → List Value → Prop
  | nil : LRel ρ [] []
  | cons {v v' : Value} {l l' : List Value} (h : VRel ρ v v') (t : LRel ρ l l') : LRel ρ (v :: l) (v' :: l')
theorem LRel.mono {ρ ρ' : Rho} (hle : ρ.le ρ') {l l' : List Value} (h : LRel ρ l l') : LRel ρ' l l' := by
  induction h with
  | nil => exact .nil
  | cons h _ ih => exact .cons (h.mono hle) ih
theorem LRel.length {ρ : Rho} {l l' : List Value} (h : LRel ρ l l') : l.length = l'.length := by
  induction h with
  | nil => rfl
  | cons _ _ ih => simp [ih]
theorem LRel.get {ρ : Rho} {l l' : List Value} (h : LRel ρ l l') : ∀ {i : Nat} {v : Value}, l[i]? = some v → ∃ v', l'[i]? = some v' ∧ VRel ρ v v' := by
  induction h with
  | nil => intro i v h; simp at h
  | cons h _ ih =>
    intro i v hi
    cases i with
    | zero => simp at hi; subst hi; exact ⟨_, rfl, h⟩
    | succ i => simpa using ih (by simpa using hi)
theorem LRel.of_get {ρ : Rho} : ∀ {l l' : List Value}, l.length = l'.length → (∀ (i : Nat) (v v' : Value), l[i]? = some v → l'[i]? = some v' → VRel ρ v v') → LRel ρ l l'
  | [], [], _, _ => .nil
  | [], _ :: _, h, _ => by simp at h
  | _ :: _, [], h, _ => by simp at h
  | v :: l, v' :: l', h, k => .cons (k 0 v v' rfl rfl) (LRel.of_get (by simpa using h) fun i x x' hx hx' => k (i + 1) x x' (by simpa using hx) (by simpa using hx'))
theorem LRel.append {ρ : Rho} {a a' b b' : List Value} (h : LRel ρ a a') (k : LRel ρ b b') : LRel ρ (a ++ b) (a' ++ b') := by
  induction h with
  | nil => exact k
  | cons h _ ih => exact .cons h ih
theorem LRel.take {ρ : Rho} {a a' : List Value} (h : LRel ρ a a') (n : Nat) : LRel ρ (a.take n) (a'.take n) := by
  induction h generalizing n with
  | nil => simpa using LRel.nil
  | cons h _ ih => cases n with
    | zero => exact .nil
    | succ n => exact .cons h (ih n)
theorem LRel.drop {ρ : Rho} {a a' : List Value} (h : LRel ρ a a') (n : Nat) : LRel ρ (a.drop n) (a'.drop n) := by
  induction h generalizing n with
  | nil => simpa using LRel.nil
  | cons h t ih => cases n with
    | zero => exact .cons h t
    | succ n => exact ih n
theorem LRel.refl {ρ : Rho} : ∀ {l : List Value}, l.all lit1 = true → LRel ρ l l
  | [], _ => .nil
  | v :: l, h => by
    simp only [List.all_cons, Bool.and_eq_true] at h
    exact .cons (.lit v h.1) (LRel.refl h.2)
theorem LRel.of_array {ρ : Rho} {a a' : Array Value} (ha : a.size = a'.size) (h : ∀ i (h1 : i < a.size) (h2 : i < a'.size), VRel ρ a[i] a'[i]) : LRel ρ a.toList a'.toList := by
  refine LRel.of_get (by simpa using ha) fun i v v' hv hv' => ?_
  simp only [Array.getElem?_toList, Array.getElem?_eq_some_iff] at hv hv'
  obtain ⟨h1, rfl⟩ := hv
  obtain ⟨h2, rfl⟩ := hv'
  exact h i h1 h2
theorem LRel.array {ρ : Rho} {a a' : Array Value} (h : LRel ρ a.toList a'.toList) : ∀ i (h1 : i < a.size) (h2 : i < a'.size), VRel ρ a[i] a'[i] := by
  intro i h1 h2
  obtain ⟨v', e, r⟩ := h.get (i := i) (v := a[i]) (by simp [h1])
  simp [h2] at e
  subst e
  exact r
theorem LRel.size {ρ : Rho} {a a' : Array Value} (h : LRel ρ a.toList a'.toList) : a.size = a'.size := by simpa using h.length
theorem VRel.aggL {ρ : Rho} {l : List Value} {a' : Array Value} (h : LRel ρ l a'.toList) : VRel ρ (.agg l.toArray) (.agg a') :=
  .agg _ _ (LRel.size (a := l.toArray) (by simpa using h)) (LRel.array (a := l.toArray) (by simpa using h))
theorem VRel.tupleL {ρ : Rho} {l : List Value} {a' : Array Value} (h : LRel ρ l a'.toList) : VRel ρ (.tuple l.toArray) (.tuple a') :=
  .tuple _ _ (LRel.size (a := l.toArray) (by simpa using h)) (LRel.array (a := l.toArray) (by simpa using h))

theorem VRel.cells {ρ : Rho} {v v' : Value} (h : VRel ρ v v') (hu : v ≠ Abs.unk) : LRel ρ v.cells.toList v'.cells.toList := by
  cases h with
  | unk => exact absurd rfl hu
  | agg a a' ha h => exact LRel.of_array ha h
  | lit v h => cases v <;> first | exact .cons (.lit _ h) .nil | (simp [lit1] at h)
  | ptr i off l h => exact .cons (.ptr i off l h) .nil
  | slice i off n c cap l h ho hn hc => exact .cons (.slice i off n c cap l h ho hn hc) .nil
  | owned i off n c cap z l h hn hc hl hk => exact .cons (.owned i off n c cap z l h hn hc hl hk) .nil
  | empty a c b hk => exact .cons (.empty a c b hk) .nil
  | map i l h => exact .cons (.map i l h) .nil
  | func fn a b a' b' ha hb h h' => exact .cons (.func fn a b a' b' ha hb h h') .nil
  | iface t v v' h => exact .cons (.iface t v v' h) .nil
  | tuple a a' ha h => exact .cons (.tuple a a' ha h) .nil
theorem VRel.one {ρ : Rho} {v v' : Value} (h : VRel ρ v v') (ho : Abs.one v = true) : Abs.one v' = true := by
  cases h <;> first | assumption | rfl | (simp [Abs.one, Abs.unk] at ho)
theorem LRel.one {ρ : Rho} {l l' : List Value} (h : LRel ρ l l') (ho : l.all Abs.one = true) : l'.all Abs.one = true := by
  induction h with
  | nil => rfl
  | cons h _ ih =>
    simp only [List.all_cons, Bool.and_eq_true] at ho ⊢
    exact ⟨h.one ho.1, ih ho.2⟩

/-- An entry of a map. -/
def ERel (ρ : Rho) (e e' : MapEntry) : Prop := e.key = e'.key ∧ e.born = e'.born ∧ VRel ρ e.val e'.val
inductive MRel (ρ : Rho) : List MapEntry → List MapEntry → Prop
  | nil : MRel ρ [] []
  | cons {e e' : MapEntry} {l l' : List MapEntry} (h : ERel ρ e e') (t : MRel ρ l l') : MRel ρ (e :: l) (e' :: l')
theorem MRel.mono {ρ ρ' : Rho} (hle : ρ.le ρ') {l l' : List MapEntry} (h : MRel ρ l l') : MRel ρ' l l' := by
  induction h with
  | nil => exact .nil
  | cons h _ ih => exact .cons ⟨h.1, h.2.1, h.2.2.mono hle⟩ ih
theorem MRel.length {ρ : Rho} {l l' : List MapEntry} (h : MRel ρ l l') : l.length = l'.length := by
  induction h with
  | nil => rfl
  | cons _ _ ih => simp [ih]

/-- An abstract object stands for what lies in a block. -/
def ORel (ρ : Rho) (B : Nat) (o : AObj) (l : Loc) (w : World) : Prop :=
  match o with
  | .cells cs own => own = l.own ∧ (own = true → B ≤ l.blk ∧ cs.all one = true) ∧ ∃ arr ty fr, w.heap[l.blk]? = some (.cells arr ty fr) ∧
      (own = true → fr = (0, 0) ∧ l.lim = arr.size) ∧ cs.length ≤ arr.size ∧ LRel ρ cs (arr.toList.take cs.length)
  | .map es clock => l.own = true ∧ B ≤ l.blk ∧ ∃ es', w.heap[l.blk]? = some (.map es' clock) ∧ MRel ρ es es'.toList
  | .iter m since seen stepped => l.own = true ∧ B ≤ l.blk ∧ ∃ m', w.heap[l.blk]? = some (.mapIter m' since seen.toArray stepped) ∧
      (match m, m' with | some i, some b => ∃ li, ρ i = some li ∧ li.blk = b | none, none => True | _, _ => False)

structure HRel (P : Program) (B : Nat) (w0 : World) (ρ : Rho) (h : St) (w : World) : Prop where
  below : Below B w0 w
  base : w0.heap.size = B
  globs : P.globals.size ≤ B
  old : ∀ g, g < P.globals.size → ∃ l, ρ g = some l ∧ l.blk = g
  dom : ∀ i l, ρ i = some l → i < h.next
  obj : ∀ i o, h.objs i = some o → ∃ l, ρ i = some l ∧ ORel ρ B o l w
  sep : ∀ i j o o' li lj, h.objs i = some o → h.objs j = some o' → ρ i = some li → ρ j = some lj → li.own = true → li.blk = lj.blk → i = j

theorem HRel.size {P : Program} {B : Nat} {w0 w : World} {ρ : Rho} {h : St} (H : HRel P B w0 ρ h w) : B ≤ w.heap.size := by
  have := H.below.size; rw [H.base] at this; exact this
theorem ORel.lt {ρ : Rho} {B : Nat} {o : AObj} {l : Loc} {w : World} (h : ORel ρ B o l w) : l.blk < w.heap.size := by
  cases o with
  | cells cs own => obtain ⟨_, _, arr, ty, fr, hb, _⟩ := h; exact (Array.getElem?_eq_some_iff.1 hb).1
  | map es c => obtain ⟨_, _, es', hb, _⟩ := h; exact (Array.getElem?_eq_some_iff.1 hb).1
  | iter m s q t => obtain ⟨_, _, m', hb, _⟩ := h; exact (Array.getElem?_eq_some_iff.1 hb).1
/-- The same block in another world, under more places. -/
theorem ORel.keep {ρ ρ' : Rho} (hle : ρ.le ρ') {B : Nat} {o : AObj} {l : Loc} {w w' : World} (h : ORel ρ B o l w) (hb : w'.heap[l.blk]? = w.heap[l.blk]?) : ORel ρ' B o l w' := by
  cases o with
  | cells cs own => obtain ⟨h1, h2, arr, ty, fr, h3, h4, h5, h6⟩ := h; exact ⟨h1, h2, arr, ty, fr, hb.trans h3, h4, h5, h6.mono hle⟩
  | map es c => obtain ⟨h1, h2, es', h3, h4⟩ := h; exact ⟨h1, h2, es', hb.trans h3, h4.mono hle⟩
  | iter m s q t =>
    obtain ⟨h1, h2, m', h3, h4⟩ := h
    refine ⟨h1, h2, m', hb.trans h3, ?_⟩
    cases m <;> cases m' <;> simp only at h4 ⊢
    obtain ⟨li, h5, h6⟩ := h4
    exact ⟨li, hle _ _ h5, h6⟩

/-- The same object, or the front of its cells. -/
def OLe (o o' : AObj) : Prop := o = o' ∨ ∃ cs cs' own, o = .cells cs own ∧ o' = .cells (cs ++ cs') own
theorem ORel.pre {ρ : Rho} {B : Nat} {o o' : AObj} {l : Loc} {w : World} (h : ORel ρ B o' l w) (hl : OLe o o') : ORel ρ B o l w := by
  rcases hl with rfl | ⟨cs, cs', own, rfl, rfl⟩
  · exact h
  · obtain ⟨h1, h2, arr, ty, fr, h3, h4, h5, h6⟩ := h
    rw [List.length_append] at h5 h6
    refine ⟨h1, fun ho => ⟨(h2 ho).1, ?_⟩, arr, ty, fr, h3, h4, by omega, ?_⟩
    · have := (h2 ho).2
      rw [List.all_append, Bool.and_eq_true] at this
      exact this.1
    · have := h6.take cs.length
      rw [List.take_left', List.take_take, Nat.min_eq_left (by omega)] at this
      · exact this
      · rfl
/-- The heap has what is forgotten no more. -/
def St.le (h h' : St) : Prop := h.next = h'.next ∧ ∀ i o, h.objs i = some o → ∃ o', h'.objs i = some o' ∧ OLe o o'
theorem St.le.refl (h : St) : St.le h h := ⟨rfl, fun _ o h => ⟨o, h, .inl rfl⟩⟩
theorem HRel.weaken {P : Program} {B : Nat} {w0 w : World} {ρ : Rho} {h h' : St} (H : HRel P B w0 ρ h' w) (hle : h.le h') : HRel P B w0 ρ h w :=
  ⟨H.below, H.base, H.globs, H.old, fun i l hi => by rw [hle.1]; exact H.dom i l hi, fun i o ho => by
    obtain ⟨o', h1, h2⟩ := hle.2 i o ho
    obtain ⟨l, h3, h4⟩ := H.obj i o' h1
    exact ⟨l, h3, h4.pre h2⟩,
    fun i j o o' li lj h1 h2 => by
      obtain ⟨p, p1, _⟩ := hle.2 i o h1
      obtain ⟨q, q1, _⟩ := hle.2 j o' h2
      exact H.sep i j p q li lj p1 q1⟩
theorem HRel.draw {P : Program} {B : Nat} {w0 w : World} {ρ : Rho} {h : St} (H : HRel P B w0 ρ h w) (n : Nat) : HRel P B w0 ρ h { w with drawn := n } :=
  ⟨⟨H.below.os, H.below.tape, H.below.output, H.below.size, H.below.block⟩, H.base, H.globs, H.old, H.dom, fun i o ho => by
    obtain ⟨l, h1, h2⟩ := H.obj i o ho
    exact ⟨l, h1, h2.keep (Rho.le.refl ρ) rfl⟩, H.sep⟩
theorem HRel.wf {P : Program} {B : Nat} {w0 w : World} {ρ : Rho} {h : St} (H : HRel P B w0 ρ h w) {i : Nat} {o : AObj} (ho : h.objs i = some o) : i < h.next := by
  obtain ⟨l, hl, _⟩ := H.obj i o ho
  exact H.dom i l hl
/-- A new block for a new object. -/
def Rho.push (ρ : Rho) (n : Nat) (l : Loc) : Rho := fun i => if i = n then some l else ρ i
theorem HRel.fresh {P : Program} {B : Nat} {w0 w : World} {ρ : Rho} {h : St} (H : HRel P B w0 ρ h w) (l : Loc) : ρ.le (ρ.push h.next l) := by
  intro i l' hi
  have := H.dom i l' hi
  simp only [Rho.push]
  rw [if_neg (by omega)]
  exact hi
theorem HRel.push {P : Program} {B : Nat} {w0 w : World} {ρ : Rho} {h : St} (H : HRel P B w0 ρ h w) (o : AObj) (x : Obj) (l : Loc) (hb : l.blk = w.heap.size)
    (ho : ORel (ρ.push h.next l) B o l (w.alloc x)) : HRel P B w0 (ρ.push h.next l) (h.push o) (w.alloc x) := by
  have hle := H.fresh l
  have hsz := H.size
  refine ⟨H.below.alloc hsz x, H.base, H.globs, ?_, ?_, ?_, ?_⟩
  · intro g hg
    obtain ⟨lg, h1, h2⟩ := H.old g hg
    exact ⟨lg, hle _ _ h1, h2⟩
  · intro i l' hi
    simp only [Rho.push] at hi
    show i < h.next + 1
    split at hi
    · omega
    · have := H.dom i l' hi; omega
  · intro i o' hi
    simp only [St.push] at hi
    split at hi
    · rename_i e; subst e
      cases hi
      exact ⟨l, by simp [Rho.push], ho⟩
    · obtain ⟨l', h1, h2⟩ := H.obj i o' hi
      exact ⟨l', hle _ _ h1, h2.keep hle (Below.heap_alloc w x l'.blk h2.lt)⟩
  · intro i j o1 o2 li lj h1 h2 h3 h4 h5 h6
    simp only [St.push] at h1 h2
    have key : ∀ k o', h.objs k = some o' → ∀ lk, (ρ.push h.next l) k = some lk → lk.blk < w.heap.size := by
      intro k o' hk lk hlk
      obtain ⟨l', e1, e2⟩ := H.obj k o' hk
      have : lk = l' := by have := hle _ _ e1; rw [this] at hlk; exact (Option.some.inj hlk).symm
      subst this
      exact e2.lt
    have top : ∀ lk, (ρ.push h.next l) h.next = some lk → lk = l := by intro lk hlk; simp [Rho.push] at hlk; exact hlk.symm
    split at h1
    · rename_i e; subst e
      have := top li h3; subst this
      split at h2
      · rename_i e; exact e.symm
      · have := key j o2 h2 lj h4; omega
    · split at h2
      · rename_i e; subst e
        have := top lj h4; subst this
        have := key i o1 h1 li h3; omega
      · obtain ⟨l1, e1, _⟩ := H.obj i o1 h1
        obtain ⟨l2, e2, _⟩ := H.obj j o2 h2
        have a1 := hle _ _ e1; rw [a1] at h3; cases h3
        have a2 := hle _ _ e2; rw [a2] at h4; cases h4
        exact H.sep i j o1 o2 _ _ h1 h2 e1 e2 h5 h6
/-- One object is written; its block alone turns. -/
theorem HRel.set {P : Program} {B : Nat} {w0 w w' : World} {ρ : Rho} {h : St} (H : HRel P B w0 ρ h w) {i : Nat} {o o' : AObj} {l : Loc} (hi : h.objs i = some o) (hl : ρ i = some l) (hown : l.own = true) (hB : B ≤ l.blk)
    (hos : w'.os = w.os) (htape : w'.tape = w.tape) (hout : w'.output = w.output) (hsize : w.heap.size ≤ w'.heap.size) (hblk : ∀ k, k < w.heap.size → k ≠ l.blk → w'.heap[k]? = w.heap[k]?)
    (ho : ORel ρ B o' l w') : HRel P B w0 ρ (h.set i o') w' := by
  have hsz := H.size
  refine ⟨⟨hos.trans H.below.os, htape.trans H.below.tape, hout.trans H.below.output, Nat.le_trans H.below.size hsize, fun k hk => ?_⟩, H.base, H.globs, H.old, H.dom, ?_, ?_⟩
  · rw [hblk k (by omega) (by omega)]
    exact H.below.block k hk
  · intro j q hj
    simp only [St.set] at hj
    split at hj
    · rename_i e; subst e; cases hj
      exact ⟨l, hl, ho⟩
    · rename_i hne
      obtain ⟨lj, h1, h2⟩ := H.obj j q hj
      refine ⟨lj, h1, h2.keep (Rho.le.refl ρ) (hblk _ h2.lt fun e => hne ?_)⟩
      exact (H.sep i j o q l lj hi hj hl h1 hown e.symm).symm
  · intro j k q q' lj lk h1 h2 h3 h4 h5 h6
    have f : ∀ {n : Nat} {x : AObj}, (h.set i o').objs n = some x → ∃ y, h.objs n = some y := by
      intro n x hx
      simp only [St.set] at hx
      split at hx
      · rename_i e; subst e; exact ⟨o, hi⟩
      · exact ⟨x, hx⟩
    obtain ⟨y1, g1⟩ := f h1
    obtain ⟨y2, g2⟩ := f h2
    exact H.sep j k y1 y2 lj lk g1 g2 h3 h4 h5 h6
theorem St.kill_le (h : St) (i : Nat) : (h.kill i).le h := ⟨rfl, fun j o hj => by simp only [St.kill] at hj; split at hj; cases hj; exact ⟨o, hj, .inl rfl⟩⟩
end Go.Abs
end

section
set_option linter.unusedSimpArgs false
set_option linter.unusedVariables false
namespace Go.Abs
open Go.RowKit (Below)

section
variable {P : Program} {B : Nat} {w0 w : World} {ρ : Rho} {h : St}

theorem getT_rel {t t' : List Value} (hr : LRel ρ t t') (n : Nat) : VRel ρ (getT t n) (t'.getD n Go.undef) := by
  induction hr generalizing n with
  | nil => simpa [getT] using VRel.undef ρ
  | cons h _ ih => cases n with
    | zero => simpa [getT] using h
    | succ n => simpa [getT] using ih n
theorem setT_rel {t t' : List Value} (hr : LRel ρ t t') (n : Nat) {v v' : Value} (hv : VRel ρ v v') : LRel ρ (setT t n v) (t'.set n v') := by
  induction hr generalizing n with
  | nil => simpa [setT] using LRel.nil
  | cons h t ih => cases n with
    | zero => exact .cons hv t
    | succ n => exact .cons h (ih n)
theorem putT_rel {t : List Value} {a : Act} (hr : LRel ρ t a.tmps.toList) (d : Option Tmp) {v v' : Value} (hv : VRel ρ v v') : LRel ρ (putT t d v) (a.put d v').tmps.toList := by
  cases d with
  | none => exact hr
  | some d => simpa [putT, Act.put] using setT_rel hr d hv
theorem maskT_rel {t t' : List Value} (hr : LRel ρ t t') (m : List Bool) : LRel ρ (maskT m t) t' := by
  induction hr generalizing m with
  | nil => cases m <;> exact .nil
  | cons h t ih => cases m with
    | nil => exact .cons h t
    | cons b m => cases b
                  · exact .cons (.unk _) (ih m)
                  · exact .cons h (ih m)
theorem VRel.of_lit {v : Value} (hv : Abs.lit v = true) : VRel ρ v v := by
  cases v with
  | agg cs => exact .agg _ _ rfl (LRel.array (LRel.refl (by simpa [Abs.lit] using hv)))
  | _ => exact .lit _ (by simpa [Abs.lit] using hv)
theorem evA_rel (H : HRel P B w0 ρ h w) {t : List Value} {a : Act} (hr : LRel ρ t a.tmps.toList) (x : Operand) : VRel ρ (evA P t x) (a.eval x) := by
  cases x with
  | tmp n => simpa [evA, Act.eval] using getT_rel hr n
  | const v =>
    simp only [evA, Act.eval]
    split
    · rename_i hl; exact VRel.of_lit hl
    · exact .unk v
  | global g =>
    simp only [evA, Act.eval]
    split
    · rename_i hg
      obtain ⟨l, h1, h2⟩ := H.old g (by simpa using hg)
      have := VRel.ptr (ρ := ρ) g 0 l h1
      rwa [h2] at this
    · exact .unk _
  | func f => exact .func _ _ _ _ _ rfl rfl (fun i h => by simp at h) (fun i h => by simp at h)

/-! ### reading -/
theorem ORel.cell {cs : List Value} {own : Bool} {l : Loc} (ho : ORel ρ B (.cells cs own) l w) {k : Nat} {v : Value} (hk : cs[k]? = some v) :
    ∃ v', w.cell? ⟨l.blk, k, none⟩ = some v' ∧ VRel ρ v v' := by
  obtain ⟨_, _, arr, ty, fr, hb, _, hlen, hl⟩ := ho
  obtain ⟨v', e, r⟩ := hl.get hk
  refine ⟨v', ?_, r⟩
  rw [List.getElem?_take] at e
  split at e
  · simp only [World.cell?, hb]; simpa using e
  · cases e
theorem ORel.cells {cs : List Value} {own : Bool} {l : Loc} (ho : ORel ρ B (.cells cs own) l w) {off n : Nat} {vs : List Value} (hk : takeN cs off n = some vs) :
    ∃ vs', vs'.length = n ∧ LRel ρ vs vs' ∧ ∀ j v, vs'[j]? = some v → w.cell? ⟨l.blk, off + j, none⟩ = some v := by
  obtain ⟨_, _, arr, ty, fr, hb, _, hlen, hl⟩ := ho
  simp only [takeN] at hk
  split at hk
  · rename_i hle
    cases hk
    refine ⟨((arr.toList.take cs.length).drop off).take n, ?_, (hl.drop off).take n, ?_⟩
    · simp only [List.length_take, List.length_drop, Array.length_toList]; omega
    · intro j v hj
      rw [List.getElem?_take] at hj
      split at hj
      · rw [List.getElem?_drop, List.getElem?_take] at hj
        split at hj
        · simp only [World.cell?, hb]; simpa using hj
        · cases hj
      · cases hj
  · cases hk
theorem add_none (b o n : Nat) : (⟨b, o, none⟩ : Addr).add n = ⟨b, o + n, none⟩ := by
  unfold Addr.add; split <;> simp_all
theorem run_loadCells_at {b off n : Nat} {vs : List Value} (hn : vs.length = n) (hc : ∀ j v, vs[j]? = some v → w.cell? ⟨b, off + j, none⟩ = some v) :
    (loadCells ⟨b, off, none⟩ n).run P w = .ok vs.toArray w := by
  subst hn
  exact run_loadCells_list w _ vs (fun j v hj => by rw [add_none]; exact hc j v hj)

theorem run_isAgg' {t : TypeId} {g : Bool} (hg : aggT P t = some g) (w : World) : (isAgg t).run P w = .ok g w := by
  simp only [aggT] at hg
  unfold isAgg
  cases hu : P.underlying t with
  | none => simp [hu] at hg
  | some d =>
    simp only [Sem.run_bind, run_underlying hu, Result.andThen]
    rw [hu] at hg
    cases d <;> simp at hg <;> subst hg <;> rfl
theorem run_size' {t : TypeId} {i : TypeInfo} (hi : P.info? t = some i) (w : World) : (sizeOf t).run P w = .ok i.size w := by
  simp [sizeOf, typeInfo, hi]

theorem loadV_sound (H : HRel P B w0 ρ h w) {t : TypeId} {g : Bool} {i : TypeInfo} (hg : aggT P t = some g) (hi : P.info? t = some i) {p p' v : Value} (hp : VRel ρ p p')
    (hv : loadV g i.size p h = some v) : ∃ v', (Instr.loadAt t p').run P w = .ok v' w ∧ VRel ρ v v' := by
  unfold loadV at hv
  split at hv
  · rename_i id off
    split at hv
    · rename_i cs own ho
      obtain ⟨l, hl, hor⟩ := H.obj id _ ho
      cases hp with
      | lit _ e => simp [lit1] at e
      | ptr _ _ l' hl' =>
        have : l' = l := by rw [hl] at hl'; exact (Option.some.inj hl').symm
        subst this
        unfold partV at hv
        cases g with
        | true =>
          simp only [Option.map_eq_some_iff] at hv
          obtain ⟨vs, e, rfl⟩ := hv
          obtain ⟨vs', h1, h2, h3⟩ := hor.cells e
          refine ⟨.agg vs'.toArray, ?_, VRel.aggL (by simpa using h2)⟩
          simp [Instr.loadAt, Instr.sureAddr, loadVar, run_isAgg' hg, run_size' hi, run_loadCells_at h1 h3, Result.andThen]
        | false =>
          obtain ⟨v', h1, h2⟩ := hor.cell hv
          refine ⟨v', ?_, h2⟩
          simp [Instr.loadAt, Instr.sureAddr, loadVar, run_isAgg' hg, h1, Result.andThen]
    · cases hv
  · cases hv
theorem loadOp_sound (H : HRel P B w0 ρ h w) {t : TypeId} {p p' v : Value} (hp : VRel ρ p p') (hv : loadOp P t p h = some v) : ∃ v', (Instr.loadAt t p').run P w = .ok v' w ∧ VRel ρ v v' := by
  unfold loadOp at hv
  split at hv
  · rename_i g i hg hi
    exact loadV_sound H hg hi hp hv
  · cases hv

theorem partV_sound {t : TypeId} {g : Bool} {i : TypeInfo} (hg : aggT P t = some g) (hi : P.info? t = some i) {cs : Array Value} {cs' : Array Value} (hc : LRel ρ cs.toList cs'.toList) {off : Nat} {v : Value}
    (hv : partV g i.size cs.toList off = some v) (w : World) : ∃ v', (part t cs' off).run P w = .ok v' w ∧ VRel ρ v v' := by
  unfold partV at hv
  cases g with
  | true =>
    simp only [Option.map_eq_some_iff] at hv
    obtain ⟨vs, e, rfl⟩ := hv
    simp only [takeN] at e
    split at e
    · cases e
      refine ⟨.agg (cs'.extract off (off + i.size)), by simp [part, run_isAgg' hg, run_size' hi, Result.andThen], VRel.aggL ?_⟩
      have := (hc.drop off).take i.size
      simpa [Array.toList_extract, List.extract_eq_take_drop] using this
    · cases e
  | false =>
    obtain ⟨v', e, r⟩ := hc.get hv
    exact ⟨v', by simp at e; simp [part, run_isAgg' hg, Result.andThen, e], r⟩

theorem offV_sound {p p' v : Value} {o : Nat} (hp : VRel ρ p p') (hv : offV o p = some v) : ∃ a', p' = .pointer (some a') ∧ VRel ρ v (.pointer (some (a'.add o))) := by
  unfold offV at hv
  split at hv
  · cases hv
    cases hp with
    | lit _ e => simp [lit1] at e
    | ptr _ _ l hl => exact ⟨_, rfl, by rw [add_none]; exact .ptr _ _ l hl⟩
  · cases hv
theorem fieldOf_spec {s : TypeId} {f o n : Nat} {g : Bool} (hf : fieldOf P s f = some (o, n, g)) : ∃ fields fd i, P.underlying s = some (.struct fields) ∧ fields[f]? = some fd ∧ P.info? fd.type = some i ∧ aggT P fd.type = some g ∧ fd.offset = o ∧ i.size = n := by
  unfold fieldOf at hf
  split at hf
  · rename_i fields hu
    split at hf
    · rename_i fd hfd
      split at hf
      · rename_i i a hi ha
        cases hf
        exact ⟨fields, fd, i, hu, hfd, hi, ha, rfl, rfl⟩
      · cases hf
    · cases hf
  · cases hf
theorem fieldAddrOp_sound {s : TypeId} {f : Nat} {x x' v : Value} (hx : VRel ρ x x') (hv : fieldAddrOp P s f x = some v) (w : World) : ∃ v', (Instr.fieldAt s x' f).run P w = .ok v' w ∧ VRel ρ v v' := by
  unfold fieldAddrOp at hv
  split at hv
  · rename_i o n g hf
    obtain ⟨fields, fd, i, hu, hfd, hi, ha, ho, hn⟩ := fieldOf_spec hf
    split at hv
    · cases hv
    · rename_i m
      obtain ⟨a', rfl, r⟩ := offV_sound hx hv
      refine ⟨_, ?_, r⟩
      simp [Instr.fieldAt, run_underlying hu, hfd, Instr.sureAddr, fieldPlace, run_size' hi, hn, ho, Result.andThen]
  · cases hv
theorem fieldOp_sound {s : TypeId} {f : Nat} {x x' v : Value} (hx : VRel ρ x x') (hv : fieldOp P s f x = some v) (w : World) : ∃ v', (Instr.field s x' f).run P w = .ok v' w ∧ VRel ρ v v' := by
  unfold fieldOp at hv
  split at hv
  · rename_i o n g hf
    obtain ⟨fields, fd, i, hu, hfd, hi, ha, ho, hn⟩ := fieldOf_spec hf
    unfold fieldV at hv
    split at hv
    · rename_i cs
      cases hx with
      | lit _ e => simp [lit1] at e
      | agg _ cs' hs hc =>
        subst hn
        obtain ⟨v', e, r⟩ := partV_sound ha hi (LRel.of_array hs hc) hv w
        exact ⟨v', by simp [Instr.field, run_underlying hu, hfd, asAgg, ho, e, Result.andThen], r⟩
    · cases hv
  · cases hv
theorem run_asIntOf (k : IntKind) (n : Int) (w : World) : (asIntOf (.int k n)).run P w = .ok (k, n) w := rfl
theorem VRel.int_inv {k : IntKind} {n : Int} {v' : Value} (hx : VRel ρ (.int k n) v') : v' = .int k n := by cases hx; rfl
theorem VRel.bool_inv {b : Bool} {v' : Value} (hx : VRel ρ (.bool b) v') : v' = .bool b := by cases hx; rfl
theorem VRel.string_inv {s : ByteArray} {v' : Value} (hx : VRel ρ (.string s) v') : v' = .string s := by cases hx; rfl

theorem arrOp_sound {t : TypeId} {x x' v : Value} (hx : VRel ρ x x') (hv : arrOp P t x = some v) (w : World) : ∃ v', (Instr.arrayAt t x').run P w = .ok v' w ∧ VRel ρ v v' := by
  unfold arrOp at hv
  split at hv
  · rename_i n e hu
    unfold arrP at hv
    split at hv
    · rename_i a off sp len c
      split at hv
      · rename_i hn
        cases hv
        cases hx with
        | lit _ e => simp [lit1] at e
        | empty => omega
        | slice _ _ _ _ cap l hl ho hn' hc =>
          exact ⟨_, by simp [Instr.arrayAt, run_underlying hu, Result.andThen, show ¬ len < n by omega], .ptr _ _ l hl⟩
        | owned _ _ _ _ cap z l hl hn' hc hlim =>
          exact ⟨_, by simp [Instr.arrayAt, run_underlying hu, Result.andThen, show ¬ len < n by omega], .ptr _ _ l hl⟩
      · cases hv
    · cases hv
  · cases hv
theorem indexAddrOp_sound {t : TypeId} {x x' i i' v : Value} (hx : VRel ρ x x') (hi : VRel ρ i i') (hv : indexAddrOp P t x i = some v) (w : World) : ∃ v', (Instr.indexAt t x' i').run P w = .ok v' w ∧ VRel ρ v v' := by
  unfold indexAddrOp at hv
  split at hv
  · rename_i e hu
    split at hv
    · rename_i ti hti
      unfold idxS at hv
      split at hv
      · rename_i a n c k j
        obtain rfl := hi.int_inv
        split at hv
        · rename_i hj
          cases hv
          cases hx with
          | lit _ e => simp [lit1] at e
          | empty => omega
          | slice _ off _ _ cap l hl ho hn hc =>
            refine ⟨.pointer (some (Addr.add ⟨l.blk, off, none⟩ (j.toNat * ti.size))), ?_, by rw [add_none]; exact .ptr _ _ l hl⟩
            simp [Instr.indexAt, run_asIntOf, run_underlying hu, run_size' hti, hj, Result.andThen]
          | owned _ off _ _ cap z l hl hn hc hlim =>
            refine ⟨.pointer (some (Addr.add ⟨l.blk, off, none⟩ (j.toNat * ti.size))), ?_, by rw [add_none]; exact .ptr _ _ l hl⟩
            simp [Instr.indexAt, run_asIntOf, run_underlying hu, run_size' hti, hj, Result.andThen]
        · cases hv
      · cases hv
    · cases hv
  · rename_i n e hu
    split at hv
    · rename_i ti hti
      unfold idxA at hv
      split at hv
      · rename_i a off k j
        obtain rfl := hi.int_inv
        split at hv
        · rename_i hj
          cases hv
          cases hx with
          | lit _ e => simp [lit1] at e
          | ptr _ _ l hl =>
            refine ⟨.pointer (some (Addr.add ⟨l.blk, off, none⟩ (j.toNat * ti.size))), ?_, by rw [add_none]; exact .ptr _ _ l hl⟩
            simp [Instr.indexAt, run_asIntOf, run_underlying hu, run_size' hti, hj, Instr.sureAddr, Result.andThen]
        · cases hv
      · cases hv
    · cases hv
  · cases hv
theorem indexOp_sound {t : TypeId} {x x' i i' v : Value} (hx : VRel ρ x x') (hi : VRel ρ i i') (hv : indexOp P t x i = some v) (w : World) : ∃ v', (Instr.index t x' i').run P w = .ok v' w ∧ VRel ρ v v' := by
  unfold indexOp at hv
  split at hv
  · rename_i hu
    unfold idxT at hv
    split at hv
    · rename_i s k j
      obtain rfl := hi.int_inv
      obtain rfl := hx.string_inv
      split at hv
      · rename_i hj
        simp only [Option.map_eq_some_iff] at hv
        obtain ⟨b, e, rfl⟩ := hv
        exact ⟨_, by simp [Instr.index, run_asIntOf, run_underlying hu, hj, e, Result.andThen], .int _ _ _⟩
      · cases hv
    · cases hv
  · rename_i n e hu
    split at hv
    · rename_i ti g hti hg
      unfold idxV at hv
      split at hv
      · rename_i cs k j
        obtain rfl := hi.int_inv
        split at hv
        · rename_i hj
          cases hx with
          | lit _ e => simp [lit1] at e
          | agg _ cs' hs hc =>
            obtain ⟨v', e, r⟩ := partV_sound hg hti (LRel.of_array hs hc) hv w
            exact ⟨v', by simp [Instr.index, run_asIntOf, run_underlying hu, run_size' hti, hj, e, Result.andThen], r⟩
        · cases hv
      · cases hv
    · cases hv
  · cases hv
end
end Go.Abs
end

section
set_option linter.unusedSimpArgs false
set_option linter.unusedVariables false
namespace Go.Abs
open Go.RowKit (Below)

section
variable {P : Program} {B : Nat} {w0 w : World} {ρ : Rho} {h : St}

/-! ### cuts -/
inductive ORelO (ρ : Rho) : Option Value → Option Value → Prop
  | none : ORelO ρ none none
  | some {v v' : Value} (h : VRel ρ v v') : ORelO ρ (some v) (some v')
theorem ORelO.map {f f' : Operand → Value} (hf : ∀ x, VRel ρ (f x) (f' x)) (o : Option Operand) : ORelO ρ (o.map f) (o.map f') := by
  cases o with
  | none => exact .none
  | some x => exact .some (hf x)
theorem loHi_sound {isSlice : Bool} {n cap cap' : Nat} {lo hi lo' hi' : Option Value} {a b : Nat} (hcap : cap ≤ cap') (hl : ORelO ρ lo lo') (hh : ORelO ρ hi hi') (hn : n ≤ cap)
    (he : loHi n cap lo hi = some (a, b)) (w : World) : (Instr.sliceBounds isSlice n cap' lo' hi' none).run P w = .ok (a, b, cap') w ∧ a ≤ b ∧ b ≤ cap := by
  unfold loHi at he
  cases hh with
  | none =>
    cases hl with
    | none => simp at he; obtain ⟨rfl, rfl⟩ := he; exact ⟨by simp [Instr.sliceBounds, Result.andThen], Nat.zero_le _, hn⟩
    | @some v v' hv =>
      cases v with
      | int k l =>
        obtain rfl := hv.int_inv
        simp only at he
        split at he
        · rename_i hc
          cases he
          refine ⟨?_, by omega, hn⟩
          simp [Instr.sliceBounds, Instr.sliceBound, run_asIntOf, hc, Result.andThen]
        · cases he
      | _ => simp at he
  | @some v v' hv =>
    cases v with
    | int k e' =>
      obtain rfl := hv.int_inv
      simp only at he
      split at he
      · rename_i hc
        have hc' : (0 : Int) ≤ e' ∧ e' ≤ cap' := ⟨hc.1, by omega⟩
        cases hl with
        | none =>
          simp at he
          obtain ⟨rfl, rfl⟩ := he
          refine ⟨?_, Nat.zero_le _, by omega⟩
          simp [Instr.sliceBounds, Instr.sliceBound, run_asIntOf, hc', Result.andThen]
        | @some u u' hv2 =>
          cases u with
          | int k2 l =>
            obtain rfl := hv2.int_inv
            simp only at he
            split at he
            · rename_i hd
              cases he
              have hm : max e' 0 = e' := by omega
              refine ⟨?_, by omega, by omega⟩
              simp [Instr.sliceBounds, Instr.sliceBound, run_asIntOf, hc', hd, hm, Result.andThen]
            · cases he
          | _ => simp at he
      · cases he
    | _ => simp at he
theorem capOf_le {n c cap : Nat} (hn : n ≤ cap) (hk : c ≠ 0 → c = cap + 1) : n ≤ capOf n c ∧ capOf n c ≤ cap := by
  unfold capOf
  split
  · exact ⟨Nat.le_refl _, hn⟩
  · have := hk (by omega); omega
theorem cutS_sound {t e : TypeId} {i : TypeInfo} (hu : P.underlying t = some (.slice e)) (hi : P.info? e = some i) {x x' v : Value} {lo hi' lo' hi'' : Option Value} (hx : VRel ρ x x')
    (hl : ORelO ρ lo lo') (hh : ORelO ρ hi' hi'') (hv : cutS i.size x lo hi' = some v) (w : World) : ∃ v', (Instr.slice t x' lo' hi'' none).run P w = .ok v' w ∧ VRel ρ v v' := by
  unfold cutS at hv
  have hempty : ∀ (c : Nat) (bb : Addr) (l b : Nat), loHi 0 0 lo hi' = some (l, b) → ∀ u, (∃ a' c', u = .slice (some a') (b - l) c' ∧ (a'.spot ≠ none → c' ≤ 1)) → ∃ v', (Instr.slice t (.slice (some bb) 0 0) lo' hi'' none).run P w = .ok v' w ∧ VRel ρ u v' := by
    intro c bb l b e1 u hu'
    obtain ⟨e2, h1, h2⟩ := loHi_sound (P := P) (isSlice := true) (Nat.le_refl 0) hl hh (Nat.le_refl 0) e1 w
    have hl0 : l = 0 := by omega
    have hb0 : b = 0 := by omega
    subst hl0; subst hb0
    obtain ⟨a', c', rfl, hc'⟩ := hu'
    exact ⟨.slice (some bb) 0 0, by simp [Instr.slice, run_underlying hu, e2, run_size' hi, Result.andThen], VRel.empty a' c' bb hc'⟩
  split at hv
  · simp only [Option.map_eq_some_iff] at hv
    obtain ⟨⟨a, b⟩, e1, rfl⟩ := hv
    have hx' : x' = .slice none 0 0 := by cases hx; rfl
    subst hx'
    obtain ⟨e2, h1, h2⟩ := loHi_sound (P := P) (isSlice := true) (Nat.le_refl 0) hl hh (Nat.le_refl 0) e1 w
    have : a = 0 := by omega
    have : b = 0 := by omega
    subst a; subst b
    exact ⟨.slice none 0 0, by simp [Instr.slice, run_underlying hu, e2, run_size' hi, Result.andThen], .lit _ rfl⟩
  · rename_i a off n c
    simp only [Option.map_eq_some_iff] at hv
    obtain ⟨⟨l, b⟩, e1, rfl⟩ := hv
    cases hx with
    | lit _ e => simp [lit1] at e
    | empty _ _ bb => exact hempty c bb l b e1 _ ⟨_, _, rfl, fun h => absurd rfl h⟩
    | slice _ _ _ _ cap lc hlc ho hn hc =>
      obtain ⟨e2, h1, h2⟩ := loHi_sound (P := P) (isSlice := true) (cap' := cap) hn hl hh (Nat.le_refl n) e1 w
      refine ⟨.slice (if cap = l then some ⟨lc.blk, off, none⟩ else (some ⟨lc.blk, off, none⟩ : Option Addr).map (·.add (l * i.size))) (b - l) (cap - l), by simp [Instr.slice, run_underlying hu, e2, run_size' hi, Result.andThen], ?_⟩
      by_cases hcl : cap = l
      · subst hcl
        have hb0 : b - cap = 0 := by omega
        rw [if_pos rfl, hb0, Nat.sub_self]
        exact .empty _ _ _ fun h => absurd rfl h
      · rw [if_neg hcl]
        simp only [Option.map_some, add_none]
        exact .slice _ _ _ _ _ lc hlc ho (by omega) (by omega)
  · rename_i a off z n c
    split at hv
    · rename_i hz
      subst hz
      simp only [Option.map_eq_some_iff] at hv
      obtain ⟨⟨l, b⟩, e1, rfl⟩ := hv
      cases hx with
      | lit _ e => simp [lit1] at e
      | empty _ _ bb hk =>
        have hc1 : c ≤ 1 := hk (by simp)
        have hc0 : capOf 0 c = 0 := by
          match c, hc1 with
          | 0, _ => rfl
          | 1, _ => rfl
        rw [hc0] at e1
        exact hempty c bb l b e1 _ ⟨_, _, rfl, fun _ => by omega⟩
      | owned _ _ _ _ cap _ lc hlc hn hc hlim hk =>
        obtain ⟨p1, p2⟩ := capOf_le hn hk
        obtain ⟨e2, h1, h2⟩ := loHi_sound (P := P) (isSlice := true) (cap' := cap) p2 hl hh p1 e1 w
        refine ⟨.slice (if cap = l then some ⟨lc.blk, off, none⟩ else (some ⟨lc.blk, off, none⟩ : Option Addr).map (·.add (l * i.size))) (b - l) (cap - l), by simp [Instr.slice, run_underlying hu, e2, run_size' hi, Result.andThen], ?_⟩
        have hk2 : c = 0 ∨ c = cap + 1 := by
          by_cases h0 : c = 0
          · exact .inl h0
          · exact .inr (hk h0)
        by_cases hcl : cap = l
        · subst hcl
          have hb0 : b - cap = 0 := by omega
          rw [if_pos rfl, hb0, Nat.sub_self]
          exact .empty _ _ _ fun _ => by omega
        · rw [if_neg hcl]
          simp only [Option.map_some, add_none]
          refine .owned _ _ _ _ _ _ lc hlc (by omega) (by omega) ?_ (fun h => by omega)
          rw [Nat.add_assoc, ← Nat.add_mul, show l + (cap - l) = cap by omega]
          exact hlim
    · cases hv
  · cases hv
theorem loHi3_sound {n cap cap' : Nat} {lo hi mx lo' hi' mx' : Option Value} {a b m : Nat} (hcap : cap ≤ cap') (hl : ORelO ρ lo lo') (hh : ORelO ρ hi hi') (hm : ORelO ρ mx mx')
    (he : loHi3 cap lo hi mx = some (a, b, m)) (w : World) : (Instr.sliceBounds true n cap' lo' hi' mx').run P w = .ok (a, b, m) w ∧ a ≤ b ∧ b ≤ m ∧ m ≤ cap := by
  unfold loHi3 at he
  split at he
  · rename_i k1 mm k2 ee
    cases hm with
    | some hm =>
      obtain rfl := hm.int_inv
      cases hh with
      | some hh =>
        obtain rfl := hh.int_inv
        split at he
        · rename_i hc
          have c1 : 0 ≤ mm ∧ mm ≤ (cap' : Int) := by omega
          have c2 : 0 ≤ ee ∧ ee ≤ max mm 0 := by omega
          have c3 : max mm 0 = mm := by omega
          cases hl with
          | none =>
            cases he
            refine ⟨?_, by omega, by omega, by omega⟩
            simp [Instr.sliceBounds, Instr.sliceBound, run_asIntOf, c1, c2, c3, hc, Result.andThen]
          | @some v v' hv =>
            cases v with
            | int k l =>
              obtain rfl := hv.int_inv
              simp only at he
              split at he
              · rename_i hd
                cases he
                have c4 : max ee 0 = ee := by omega
                refine ⟨?_, by omega, by omega, by omega⟩
                simp [Instr.sliceBounds, Instr.sliceBound, run_asIntOf, c1, c2, c3, c4, hc, hd, Result.andThen]
              · cases he
            | _ => simp at he
        · cases he
  · cases he
theorem cutS3_sound {t e : TypeId} {i : TypeInfo} (hu : P.underlying t = some (.slice e)) (hi : P.info? e = some i) {x x' v : Value} {lo hi' mx lo' hi'' mx' : Option Value} (hx : VRel ρ x x')
    (hl : ORelO ρ lo lo') (hh : ORelO ρ hi' hi'') (hm : ORelO ρ mx mx') (hv : cutS3 i.size x lo hi' mx = some v) (w : World) : ∃ v', (Instr.slice t x' lo' hi'' mx').run P w = .ok v' w ∧ VRel ρ v v' := by
  unfold cutS3 at hv
  split at hv
  · simp only [Option.map_eq_some_iff] at hv
    obtain ⟨⟨a, b, m⟩, e1, rfl⟩ := hv
    have hx' : x' = .slice none 0 0 := by cases hx; rfl
    subst hx'
    obtain ⟨e2, h1, h2, h3⟩ := loHi3_sound (P := P) (n := 0) (Nat.le_refl 0) hl hh hm e1 w
    have : a = 0 := by omega
    have : b = 0 := by omega
    have : m = 0 := by omega
    subst a; subst b; subst m
    exact ⟨.slice none 0 0, by simp [Instr.slice, run_underlying hu, e2, run_size' hi, Result.andThen], .lit _ rfl⟩
  · rename_i a off z n c
    split at hv
    · rename_i hz
      subst hz
      simp only [Option.map_eq_some_iff] at hv
      obtain ⟨⟨l, b, m⟩, e1, rfl⟩ := hv
      cases hx with
      | lit _ e => simp [lit1] at e
      | empty _ _ bb hk =>
        have hc1 : c ≤ 1 := hk (by simp)
        have hc0 : capOf 0 c = 0 := by
          match c, hc1 with
          | 0, _ => rfl
          | 1, _ => rfl
        rw [hc0] at e1
        obtain ⟨e2, h1, h2, h3⟩ := loHi3_sound (P := P) (n := 0) (Nat.le_refl 0) hl hh hm e1 w
        have : l = 0 := by omega
        have : b = 0 := by omega
        have : m = 0 := by omega
        subst l; subst b; subst m
        exact ⟨.slice (some bb) 0 0, by simp [Instr.slice, run_underlying hu, e2, run_size' hi, Result.andThen], .empty _ _ _ fun _ => Nat.le_refl 1⟩
      | owned _ _ _ _ cap _ lc hlc hn hc hlim hk =>
        obtain ⟨p1, p2⟩ := capOf_le hn hk
        obtain ⟨e2, h1, h2, h3⟩ := loHi3_sound (P := P) (n := n) (cap' := cap) p2 hl hh hm e1 w
        refine ⟨.slice (if m = l then some ⟨lc.blk, off, none⟩ else (some ⟨lc.blk, off, none⟩ : Option Addr).map (·.add (l * i.size))) (b - l) (m - l), by simp [Instr.slice, run_underlying hu, e2, run_size' hi, Result.andThen], ?_⟩
        by_cases hcl : m = l
        · subst hcl
          have hb0 : b - m = 0 := by omega
          rw [if_pos rfl, hb0, Nat.sub_self]
          exact .empty _ _ _ fun _ => by omega
        · rw [if_neg hcl]
          simp only [Option.map_some, add_none]
          refine .owned _ _ _ _ _ _ lc hlc (by omega) (by omega) ?_ (fun _ => rfl)
          have : off + l * i.size + (m - l) * i.size = off + m * i.size := by
            rw [Nat.add_assoc, ← Nat.add_mul, show l + (m - l) = m by omega]
          rw [this]
          have := Nat.mul_le_mul_right i.size (show m ≤ cap by omega)
          omega
    · cases hv
  · cases hv
theorem cutT_sound {t : TypeId} (hu : P.underlying t = some .string) {x x' v : Value} {lo hi' lo' hi'' : Option Value} (hx : VRel ρ x x')
    (hl : ORelO ρ lo lo') (hh : ORelO ρ hi' hi'') (hv : cutT x lo hi' = some v) (w : World) : ∃ v', (Instr.slice t x' lo' hi'' none).run P w = .ok v' w ∧ VRel ρ v v' := by
  unfold cutT at hv
  split at hv
  · rename_i s
    obtain rfl := hx.string_inv
    simp only [Option.map_eq_some_iff] at hv
    obtain ⟨⟨l, b⟩, e1, rfl⟩ := hv
    obtain ⟨e2, h1, h2⟩ := loHi_sound (P := P) (isSlice := false) (Nat.le_refl s.size) hl hh (Nat.le_refl _) e1 w
    exact ⟨.string (s.extract l b), by simp [Instr.slice, run_underlying hu, e2, Result.andThen], .lit _ rfl⟩
  · cases hv
theorem cutA_sound {t e : TypeId} {n : Nat} {i : TypeInfo} (hu : P.underlying t = some (.array n e)) (hi : P.info? e = some i) {x x' v : Value} {lo hi' lo' hi'' : Option Value} (H : HRel P B w0 ρ h w) (hx : VRel ρ x x')
    (hl : ORelO ρ lo lo') (hh : ORelO ρ hi' hi'') (hn : n ≤ maxLen) (hroom : ∀ a off l, x = .pointer (some ⟨a, off, none⟩) → ρ a = some l → off + n * i.size ≤ l.lim)
    (hv : cutA n i.size x lo hi' = some v) : ∃ v', (Instr.sliceAt t x' lo' hi'' none).run P w = .ok v' w ∧ VRel ρ v v' := by
  unfold cutA at hv
  split at hv
  · rename_i a off
    simp only [Option.map_eq_some_iff] at hv
    obtain ⟨⟨l, b⟩, e1, rfl⟩ := hv
    cases hx with
    | lit _ e => simp [lit1] at e
    | ptr _ _ lc hlc =>
      obtain ⟨e2, h1, h2⟩ := loHi_sound (P := P) (isSlice := false) (Nat.le_refl n) hl hh (Nat.le_refl _) e1 w
      have hlim := hroom a off lc rfl hlc
      refine ⟨.slice (some (if n = l then (⟨lc.blk, off, none⟩ : Addr) else Addr.add ⟨lc.blk, off, none⟩ (l * i.size))) (b - l) (n - l), by simp [Instr.sliceAt, Instr.sureAddr, run_underlying hu, e2, run_size' hi, Result.andThen], ?_⟩
      by_cases hcl : n = l
      · subst hcl
        have hb0 : b - n = 0 := by omega
        rw [if_pos rfl, hb0, Nat.sub_self]
        exact .empty _ _ _ fun _ => by omega
      · rw [if_neg hcl, add_none]
        refine .owned _ _ _ _ _ _ lc hlc (by omega) (by omega) ?_ (fun h => absurd rfl h)
        rw [Nat.add_assoc, ← Nat.add_mul, show l + (n - l) = n by omega]
        exact hlim
  · cases hv
theorem cutN_sound {t e : TypeId} {n : Nat} {i : TypeInfo} (hu : P.underlying t = some (.array n e)) (hi : P.info? e = some i) {x x' v : Value} {lo hi' lo' hi'' : Option Value} (hx : VRel ρ x x')
    (hl : ORelO ρ lo lo') (hh : ORelO ρ hi' hi'') (hn : n ≤ maxLen) (hroom : ∀ a off l, x = .pointer (some ⟨a, off, none⟩) → ρ a = some l → l.own = false)
    (hv : cutN n i.size x lo hi' = some v) (w : World) : ∃ v', (Instr.sliceAt t x' lo' hi'' none).run P w = .ok v' w ∧ VRel ρ v v' := by
  unfold cutN at hv
  split at hv
  · rename_i a off
    simp only [Option.map_eq_some_iff] at hv
    obtain ⟨⟨l, b⟩, e1, rfl⟩ := hv
    cases hx with
    | lit _ e => simp [lit1] at e
    | ptr _ _ lc hlc =>
      obtain ⟨e2, h1, h2⟩ := loHi_sound (P := P) (isSlice := false) (Nat.le_refl n) hl hh (Nat.le_refl _) e1 w
      have hown := hroom a off lc rfl hlc
      refine ⟨.slice (some (if n = l then (⟨lc.blk, off, none⟩ : Addr) else Addr.add ⟨lc.blk, off, none⟩ (l * i.size))) (b - l) (n - l), by simp [Instr.sliceAt, Instr.sureAddr, run_underlying hu, e2, run_size' hi, Result.andThen], ?_⟩
      by_cases hcl : n = l
      · subst hcl
        have hb0 : b - n = 0 := by omega
        rw [if_pos rfl, hb0, Nat.sub_self]
        exact .empty _ _ _ fun _ => by omega
      · rw [if_neg hcl, add_none]
        exact .slice _ _ _ _ _ lc hlc hown (by omega) (by omega)
  · cases hv

/-! ### numbers, texts, equality -/
theorem intV_sound {op : BinOp} {k : IntKind} {x y : Int} {v : Value} (hs : isShift op = false) (hv : intV op k x y = some v) (t : TypeId) (w : World) :
    (Go.binOp op t (.int k x) (.int k y)).run P w = .ok v w ∧ lit1 v = true := by
  cases op <;> simp [intV, isShift] at hv hs
  case quo => obtain ⟨h0, rfl⟩ := hv; exact ⟨by simp [Go.binOp, Op.intDiv, h0], rfl⟩
  case rem => obtain ⟨h0, rfl⟩ := hv; exact ⟨by simp [Go.binOp, Op.intDiv, h0], rfl⟩
  all_goals (subst hv; exact ⟨by simp [Go.binOp, Op.intArith, Op.intBits, Op.intCmp], rfl⟩)
theorem shiftV_sound {op : BinOp} {k k' : IntKind} {x y : Int} {v : Value} (hv : shiftV op k x y = some v) (t : TypeId) (w : World) :
    (Go.binOp op t (.int k x) (.int k' y)).run P w = .ok v w ∧ lit1 v = true := by
  unfold shiftV at hv
  split at hv
  · cases hv
  · rename_i h0
    cases op <;> simp at hv
    all_goals (subst hv; exact ⟨by simp [Go.binOp, Op.shift, h0], rfl⟩)
theorem textV_sound {op : BinOp} {x y : ByteArray} {v : Value} (hs : isShift op = false) (hv : textV op x y = some v) (t : TypeId) (w : World) :
    (Go.binOp op t (.string x) (.string y)).run P w = .ok v w ∧ lit1 v = true := by
  cases op <;> simp [textV, isShift] at hv hs
  case add =>
    obtain ⟨h0, rfl⟩ := hv
    refine ⟨?_, rfl⟩
    have h1 : ¬ (((x.size + y.size : Nat) : Int) > IntKind.i64.max) := by simp [IntKind.max, IntKind.signed, IntKind.bits]; omega
    simp only [Go.binOp, Op.stringOp]
    rw [if_neg h1]; rfl
  all_goals (subst hv; exact ⟨by simp [Go.binOp, Op.stringOp], rfl⟩)
end
end Go.Abs
end

section
set_option linter.unusedSimpArgs false
set_option linter.unusedVariables false
namespace Go.Abs
open Go.RowKit (Below)

section
variable {P : Program} {B : Nat} {w0 w : World} {ρ : Rho} {h : St}

def CkT (P : Program) (c : Ck) (e : TypeId) : Prop :=
  match c with
  | .b => P.underlying e = some .bool
  | .i => ∃ q, P.underlying e = some (.int q)
  | .s => P.underlying e = some .string
theorem eqCk_lit {c : Ck} {a b a' b' : Value} {r : Bool} (ha : VRel ρ a a') (hb : VRel ρ b b') (h : eqCk c a b = some r) : a' = a ∧ b' = b := by
  cases c <;> cases a <;> cases b <;> simp [eqCk] at h
  · exact ⟨ha.bool_inv, hb.bool_inv⟩
  · exact ⟨ha.int_inv, hb.int_inv⟩
  · exact ⟨ha.string_inv, hb.string_inv⟩
theorem eqAll_lit {cs : List Ck} {as bs as' bs' : List Value} (ha : LRel ρ as as') (hb : LRel ρ bs bs') {r : Bool} (h : eqAll cs as bs = some r) :
    as'.length = cs.length ∨ r = false := by
  induction cs generalizing as bs as' bs' with
  | nil => cases ha <;> cases hb <;> simp [eqAll] at h ⊢
  | cons c cs ih =>
    cases ha with
    | nil => simp [eqAll] at h
    | cons ha ta => cases hb with
      | nil => simp [eqAll] at h
      | cons hb tb =>
        simp only [eqAll] at h
        split at h
        · rcases ih ta tb h with e | e
          · left; simp [e]
          · right; exact e
        · cases h; right; rfl
        · cases h
theorem flatField_spec {k : Nat} {f : Field} {c : Ck} (hf : flatField P k f = some c) : f.name ≠ "_" ∧ f.offset = k ∧ (∃ i, P.info? f.type = some i ∧ i.size = 1) ∧
    CkT P c f.type := by
  unfold flatField at hf
  have key : ∀ (bb : Bool), bb = (f.name != "_" && Nat.beq f.offset k && (match P.info? f.type with | some i => Nat.beq i.size 1 | none => false)) → bb = true → f.name ≠ "_" ∧ f.offset = k ∧ (∃ i, P.info? f.type = some i ∧ i.size = 1) := by
    intro bb e hb
    rw [hb] at e
    have e := e.symm
    simp only [Bool.and_eq_true, bne_iff_ne, ne_eq, Nat.beq_eq] at e
    obtain ⟨⟨h1, h2⟩, h3⟩ := e
    refine ⟨h1, h2, ?_⟩
    cases hi : P.info? f.type with
    | none => simp [hi] at h3
    | some i => exact ⟨i, rfl, by simpa [hi] using h3⟩
  split at hf
  · rename_i e1 e2; cases hf; have := key _ rfl e1; exact ⟨this.1, this.2.1, this.2.2, e2⟩
  · rename_i q e1 e2; cases hf; have := key _ rfl e1; exact ⟨this.1, this.2.1, this.2.2, q, e2⟩
  · rename_i e1 e2; cases hf; have := key _ rfl e1; exact ⟨this.1, this.2.1, this.2.2, e2⟩
  · cases hf
theorem run_equalIn_ck {c : Ck} {e : TypeId} (he : CkT P c e)
    {a b : Value} {r : Bool} (hr : eqCk c a b = some r) (d : Nat) (w : World) : (Op.equalIn (d + 1) e a b).run P w = .ok r w := by
  cases c <;> cases a <;> cases b <;> simp [eqCk] at hr
  · subst hr; exact run_equalIn_bool w d e _ _ he
  · obtain ⟨rfl, rfl⟩ := hr; obtain ⟨q, hq⟩ := he; exact run_equalIn_int w d e _ q _ _ hq
  · subst hr; rw [run_equalIn_string w d e _ _ he]; congr 1; exact (beq_toListBytes _ _).symm
theorem part_flat {e : TypeId} {i : TypeInfo} (hi : P.info? e = some i) {c : Ck} (he : CkT P c e)
    {xs : Array Value} {off : Nat} {v : Value} (hx : xs[off]? = some v) (w : World) : (part e xs off).run P w = .ok v w := by
  have hg : aggT P e = some false := by
    cases c <;> simp only [CkT] at he
    · simp [aggT, he]
    · obtain ⟨q, hq⟩ := he; simp [aggT, hq]
    · simp [aggT, he]
  simp [part, run_isAgg' hg, hx, Result.andThen]
theorem run_eqFields_flat (d : Nat) (xs ys : Array Value) (w : World) : ∀ (fs : List Field) (k : Nat) (cs : List Ck) (r : Bool), flatFrom P k fs = some cs → eqAll cs (xs.toList.drop k) (ys.toList.drop k) = some r →
    (Op.eqFields (d + 1) xs ys fs).run P w = .ok r w
  | [], k, cs, r, hf, hr => by
    simp [flatFrom] at hf
    subst hf
    have : r = true := by
      generalize xs.toList.drop k = as at hr
      generalize ys.toList.drop k = bs at hr
      cases as <;> cases bs <;> simp [eqAll] at hr
      exact hr
    subst this
    simp [Op.eqFields]
  | f :: fs, k, cs, r, hf, hr => by
    simp only [flatFrom] at hf
    split at hf
    · rename_i c cs' hc hcs
      cases hf
      obtain ⟨h1, h2, ⟨i, h3, h4⟩, h5⟩ := flatField_spec hc
      have split : ∀ (zs : Array Value), (∃ z l, zs.toList.drop k = z :: l) → ∃ z, zs[k]? = some z ∧ zs.toList.drop k = z :: zs.toList.drop (k + 1) := by
        intro zs ⟨z, l, e⟩
        have hz : zs.toList[k]? = some z := by
          have := congrArg (·[0]?) e
          simpa using this
        refine ⟨z, by simpa using hz, ?_⟩
        rw [e]
        have := congrArg (List.drop 1) e
        simp only [List.drop_drop, List.drop_succ_cons, List.drop_zero] at this
        rw [← this]
      cases hxs : xs.toList.drop k with
      | nil => rw [hxs] at hr; simp [eqAll] at hr
      | cons x lx =>
        cases hys : ys.toList.drop k with
        | nil => rw [hxs, hys] at hr; simp [eqAll] at hr
        | cons y ly =>
          obtain ⟨x', ex, dx⟩ := split xs ⟨x, lx, hxs⟩
          obtain ⟨y', ey, dy⟩ := split ys ⟨y, ly, hys⟩
          rw [dx, dy] at hr
          simp only [eqAll] at hr
          simp only [Op.eqFields, h1, ne_eq, not_false_eq_true, if_true, Sem.run_bind, h2, part_flat h3 h5 ex, part_flat h3 h5 ey, Result.andThen_ok]
          split at hr
          · rename_i e
            rw [run_equalIn_ck h5 e]
            simpa using run_eqFields_flat d xs ys w fs (k + 1) cs' r hcs hr
          · rename_i e
            cases hr
            rw [run_equalIn_ck h5 e]
            simp
          · cases hr
    · cases hf
theorem run_equalIn_flat {t : TypeId} {ks : List Ck} (hf : flatT P t = some ks) {xs ys : Array Value} {r : Bool} (hr : eqAll ks xs.toList ys.toList = some r) (d : Nat) (w : World) :
    (Op.equalIn (d + 2) t (.agg xs) (.agg ys)).run P w = .ok r w := by
  unfold flatT at hf
  split at hf
  · rename_i fields hu
    split at hf
    · rename_i hs
      have hfo : P.fieldsOf t = fields := by simp [Program.fieldsOf, hu]
      rw [run_equalIn_struct w (d + 1) t xs ys (by rw [hfo]; exact hu) hs, hfo]
      exact run_eqFields_flat d xs ys w fields.toList 0 ks r hf (by simpa using hr)
    · cases hf
  · cases hf
theorem eqAll_append : ∀ {cs ds : List Ck} {A B : List Value} {r : Bool}, eqAll (cs ++ ds) A B = some r → (eqAll cs (A.take cs.length) (B.take cs.length) = some true ∧ eqAll ds (A.drop cs.length) (B.drop cs.length) = some r) ∨ (eqAll cs (A.take cs.length) (B.take cs.length) = some false ∧ r = false)
  | [], ds, A, B, r, h => .inl ⟨rfl, h⟩
  | c :: cs, ds, [], B, r, h => by simp [eqAll] at h
  | c :: cs, ds, a :: A, [], r, h => by simp [eqAll] at h
  | c :: cs, ds, a :: A, b :: B, r, h => by
    simp only [List.cons_append, eqAll] at h
    simp only [List.length_cons, List.take_succ_cons, List.drop_succ_cons, eqAll]
    split at h
    · exact eqAll_append h
    · cases h
      exact .inr ⟨rfl, rfl⟩
    · cases h
theorem part_nest {e : TypeId} {i : TypeInfo} (hi : P.info? e = some i) {ks : List Ck} (he : flatT P e = some ks) (xs : Array Value) (off : Nat) (w : World) : (part e xs off).run P w = .ok (.agg (xs.extract off (off + i.size))) w := by
  have hg : aggT P e = some true := by
    unfold flatT at he
    split at he
    · rename_i hu; simp [aggT, hu]
    · cases he
  simp [part, run_isAgg' hg, run_size' hi, Result.andThen]
theorem run_eqFields_nest (d : Nat) (xs ys : Array Value) (w : World) : ∀ (fs : List Field) (k : Nat) (cs : List Ck) (r : Bool), nestFrom P k fs = some cs → eqAll cs (xs.toList.drop k) (ys.toList.drop k) = some r →
    (Op.eqFields (d + 2) xs ys fs).run P w = .ok r w
  | [], k, cs, r, hf, hr => by
    simp [nestFrom] at hf
    subst hf
    have : r = true := by
      generalize xs.toList.drop k = as at hr
      generalize ys.toList.drop k = bs at hr
      cases as <;> cases bs <;> simp [eqAll] at hr
      exact hr
    subst this
    simp [Op.eqFields]
  | f :: fs, k, cs, r, hf, hr => by
    simp only [nestFrom] at hf
    split at hf
    · rename_i c hc
      split at hf
      · rename_i cs' hcs
        cases hf
        obtain ⟨h1, h2, ⟨i, h3, h4⟩, h5⟩ := flatField_spec hc
        have split : ∀ (zs : Array Value), (∃ z l, zs.toList.drop k = z :: l) → ∃ z, zs[k]? = some z ∧ zs.toList.drop k = z :: zs.toList.drop (k + 1) := by
          intro zs ⟨z, l, e⟩
          have hz : zs.toList[k]? = some z := by
            have := congrArg (·[0]?) e
            simpa using this
          refine ⟨z, by simpa using hz, ?_⟩
          rw [e]
          have := congrArg (List.drop 1) e
          simp only [List.drop_drop, List.drop_succ_cons, List.drop_zero] at this
          rw [← this]
        cases hxs : xs.toList.drop k with
        | nil => rw [hxs] at hr; simp [eqAll] at hr
        | cons x lx =>
          cases hys : ys.toList.drop k with
          | nil => rw [hxs, hys] at hr; simp [eqAll] at hr
          | cons y ly =>
            obtain ⟨x', ex, dx⟩ := split xs ⟨x, lx, hxs⟩
            obtain ⟨y', ey, dy⟩ := split ys ⟨y, ly, hys⟩
            rw [dx, dy] at hr
            simp only [eqAll] at hr
            simp only [Op.eqFields, h1, ne_eq, not_false_eq_true, if_true, Sem.run_bind, h2, part_flat h3 h5 ex, part_flat h3 h5 ey, Result.andThen_ok]
            split at hr
            · rename_i e
              rw [run_equalIn_ck h5 e]
              simpa using run_eqFields_nest d xs ys w fs (k + 1) cs' r hcs hr
            · rename_i e
              cases hr
              rw [run_equalIn_ck h5 e]
              simp
            · cases hr
      · cases hf
    · split at hf
      · rename_i cs1 i e1 hfl hi
        split at hf
        · rename_i ds hsz hds
          cases hf
          have hsz : i.size = cs1.length := Nat.eq_of_beq_eq_true hsz
          simp only [Bool.and_eq_true, bne_iff_ne, ne_eq, Nat.beq_eq] at e1
          obtain ⟨h1, h2⟩ := e1
          have ext : ∀ zs : Array Value, (zs.extract k (k + i.size)).toList = (zs.toList.drop k).take cs1.length := fun zs => by
            rw [Array.toList_extract, List.extract_eq_take_drop, hsz]
            congr 1
            omega
          simp only [Op.eqFields, h1, ne_eq, not_false_eq_true, if_true, Sem.run_bind, h2, part_nest hi hfl, Result.andThen_ok]
          rcases eqAll_append hr with ⟨q1, q2⟩ | ⟨q1, q2⟩
          · rw [run_equalIn_flat hfl (r := true) (by rw [ext, ext]; exact q1)]
            rw [List.drop_drop, List.drop_drop, ← hsz] at q2
            simpa using run_eqFields_nest d xs ys w fs (k + i.size) ds r hds q2
          · subst q2
            rw [run_equalIn_flat hfl (r := false) (by rw [ext, ext]; exact q1)]
            simp
        · cases hf
      · cases hf
theorem run_equalIn_nest {t : TypeId} {ks : List Ck} (hf : eqT P t = some ks) {xs ys : Array Value} {r : Bool} (hr : eqAll ks xs.toList ys.toList = some r) (d : Nat) (w : World) :
    (Op.equalIn (d + 3) t (.agg xs) (.agg ys)).run P w = .ok r w := by
  unfold eqT at hf
  split at hf
  · rename_i fields hu
    split at hf
    · rename_i hs
      have hfo : P.fieldsOf t = fields := by simp [Program.fieldsOf, hu]
      rw [run_equalIn_struct w (d + 2) t xs ys (by rw [hfo]; exact hu) hs, hfo]
      exact run_eqFields_nest d xs ys w fields.toList 0 ks r hf (by simpa using hr)
    · cases hf
  · cases hf
theorem eqAll_same {cs : List Ck} {as bs as' bs' : List Value} (ha : LRel ρ as as') (hb : LRel ρ bs bs') {r : Bool} (h : eqAll cs as bs = some r) : eqAll cs as' bs' = some r := by
  induction cs generalizing as bs as' bs' with
  | nil => cases ha <;> cases hb <;> simp [eqAll] at h ⊢; exact h
  | cons c cs ih =>
    cases ha with
    | nil => simp [eqAll] at h
    | cons ha ta => cases hb with
      | nil => simp [eqAll] at h
      | cons hb tb =>
        simp only [eqAll] at h ⊢
        split at h
        · rename_i e
          obtain ⟨rfl, rfl⟩ := eqCk_lit ha hb e
          rw [e]; exact ih ta tb h
        · rename_i e
          obtain ⟨rfl, rfl⟩ := eqCk_lit ha hb e
          rw [e]; exact h
        · cases h
theorem shapeOf_spec (t : TypeId) : match shapeOf P t with
    | .bool => P.underlying t = some .bool
    | .ptr => ∃ e, P.underlying t = some (.pointer e)
    | .map => ∃ k e, P.underlying t = some (.map k e)
    | .slice => ∃ e, P.underlying t = some (.slice e)
    | .func => ∃ a b c, P.underlying t = some (.func a b c)
    | .iface => ∃ m, P.underlying t = some (.interface m)
    | .flat ks => eqT P t = some ks ∧ P.eqGuardType P.depth t = false
    | .other => True := by
  unfold shapeOf
  cases hu : P.underlying t with
  | none => simp
  | some d =>
    cases d <;> simp
    split
    all_goals (rename_i e; first | (split at e <;> simp_all; done) | skip)
end
end Go.Abs
end

section
set_option linter.unusedSimpArgs false
set_option linter.unusedVariables false
namespace Go.Abs
open Go.RowKit (Below)

section
variable {P : Program} {B : Nat} {w0 w : World} {ρ : Rho} {h : St}

theorem eq_nil_ptr (d : Nat) {t e : TypeId} (he : P.underlying t = some (.pointer e)) (b : Option Addr) (w : World) : (Op.equalIn (d + 1) t (.pointer none) (.pointer b)).run P w = .ok b.isNone w := by
  simp [Op.equalIn, run_underlying he, Result.andThen]
theorem eq_ptr_nil (d : Nat) {t e : TypeId} (he : P.underlying t = some (.pointer e)) (b : Addr) (w : World) : (Op.equalIn (d + 1) t (.pointer (some b)) (.pointer none)).run P w = .ok false w := by
  simp [Op.equalIn, run_underlying he, Result.andThen]
theorem eq_nil_map (d : Nat) {t k e : TypeId} (he : P.underlying t = some (.map k e)) (b : Option Nat) (w : World) : (Op.equalIn (d + 1) t (.map none) (.map b)).run P w = .ok b.isNone w := by
  simp [Op.equalIn, run_underlying he, Result.andThen]
theorem eq_map_nil (d : Nat) {t k e : TypeId} (he : P.underlying t = some (.map k e)) (b : Nat) (w : World) : (Op.equalIn (d + 1) t (.map (some b)) (.map none)).run P w = .ok false w := by
  simp [Op.equalIn, run_underlying he, Result.andThen]
theorem eq_nil_slice (d : Nat) {t e : TypeId} (he : P.underlying t = some (.slice e)) (b : Option Addr) (n c : Nat) (w : World) : (Op.equalIn (d + 1) t (.slice none 0 0) (.slice b n c)).run P w = .ok b.isNone w := by
  simp [Op.equalIn, run_underlying he, Result.andThen]
theorem eq_slice_nil (d : Nat) {t e : TypeId} (he : P.underlying t = some (.slice e)) (b : Addr) (n c : Nat) (w : World) : (Op.equalIn (d + 1) t (.slice (some b) n c) (.slice none 0 0)).run P w = .ok false w := by
  simp [Op.equalIn, run_underlying he, Result.andThen]
theorem eq_func (d : Nat) {t : TypeId} {a b : Array TypeId} {c : Bool} (he : P.underlying t = some (.func a b c)) (fn : Fn) (x y : Array Value) (w : World) :
    (Op.equalIn (d + 1) t .nilFunc .nilFunc).run P w = .ok true w ∧ (Op.equalIn (d + 1) t .nilFunc (.func fn x y)).run P w = .ok false w ∧ (Op.equalIn (d + 1) t (.func fn x y) .nilFunc).run P w = .ok false w := by
  simp [Op.equalIn, run_underlying he, Result.andThen]
theorem eq_iface (d : Nat) {t : TypeId} {m : Array (String × TypeId)} (he : P.underlying t = some (.interface m)) (u : TypeId) (x : Value) (w : World) :
    (Op.equalIn (d + 1) t .nilIface .nilIface).run P w = .ok true w ∧ (Op.equalIn (d + 1) t .nilIface (.iface u x)).run P w = .ok false w ∧ (Op.equalIn (d + 1) t (.iface u x) .nilIface).run P w = .ok false w := by
  simp [Op.equalIn, run_underlying he, Result.andThen]
theorem VRel.ptr_inv {b : Option Addr} {v' : Value} (hx : VRel ρ (.pointer b) v') : ∃ b', v' = .pointer b' ∧ b'.isNone = b.isNone := by cases hx <;> exact ⟨_, rfl, rfl⟩
theorem VRel.map_inv {b : Option Nat} {v' : Value} (hx : VRel ρ (.map b) v') : ∃ b', v' = .map b' ∧ b'.isNone = b.isNone := by cases hx <;> exact ⟨_, rfl, rfl⟩
theorem VRel.slice_inv {b : Option Addr} {n c : Nat} {v' : Value} (hx : VRel ρ (.slice b n c) v') : ∃ b' c', v' = .slice b' n c' ∧ b'.isNone = b.isNone := by cases hx <;> exact ⟨_, _, rfl, rfl⟩
theorem VRel.func_inv {fn : Fn} {a b : Array Value} {v' : Value} (hx : VRel ρ (.func fn a b) v') : ∃ a' b', v' = .func fn a' b' := by
  cases hx with
  | lit _ e => simp [lit1] at e
  | func => exact ⟨_, _, rfl⟩
theorem VRel.iface_inv {u : TypeId} {x : Value} {v' : Value} (hx : VRel ρ (.iface u x) v') : ∃ x', v' = .iface u x' ∧ VRel ρ x x' := by
  cases hx with
  | lit _ e => simp [lit1] at e
  | iface _ _ x' h => exact ⟨_, rfl, h⟩
theorem VRel.nilFunc_inv {v' : Value} (hx : VRel ρ .nilFunc v') : v' = .nilFunc := by cases hx; rfl
theorem VRel.nilIface_inv {v' : Value} (hx : VRel ρ .nilIface v') : v' = .nilIface := by cases hx; rfl
theorem VRel.nilSlice_inv {v' : Value} (hx : VRel ρ (.slice none 0 0) v') : v' = .slice none 0 0 := by cases hx; rfl
theorem some_of_isNone {α : Type} {o : Option α} (h : o.isNone = false) : ∃ x, o = some x := by cases o with | none => simp at h | some x => exact ⟨x, rfl⟩
theorem none_of_isNone {α : Type} {o : Option α} (h : o.isNone = true) : o = none := by cases o with | none => rfl | some x => simp at h

theorem eqV_sound {t : TypeId} {x y x' y' : Value} {b : Bool} (hx : VRel ρ x x') (hy : VRel ρ y y') (hv : eqV (shapeOf P t) x y = some b) (w : World) :
    (Op.equal t x' y').run P w = .ok b w := by
  have hs := shapeOf_spec (P := P) t
  generalize shapeOf P t = s at hs hv
  unfold eqV at hv
  unfold Op.equal Op.maxDepth
  split at hv
  · cases hv; obtain rfl := hx.bool_inv; obtain rfl := hy.bool_inv
    exact run_equalIn_bool w _ t _ _ hs
  · cases hx with
    | lit _ e => simp [lit1] at e
    | agg _ xs' h1 h2 => cases hy with
      | lit _ e => simp [lit1] at e
      | agg _ ys' h3 h4 => exact run_equalIn_nest hs.1 (eqAll_same (LRel.of_array h1 h2) (LRel.of_array h3 h4) hv) 9997 w
  · cases hv; obtain ⟨e, he⟩ := hs
    obtain ⟨a, rfl, ha⟩ := hx.ptr_inv; obtain ⟨c, rfl, hc⟩ := hy.ptr_inv
    rw [none_of_isNone ha, eq_nil_ptr 9999 he, hc]
  · cases hv; obtain ⟨e, he⟩ := hs
    obtain ⟨a, rfl, ha⟩ := hx.ptr_inv; obtain ⟨c, rfl, hc⟩ := hy.ptr_inv
    obtain ⟨a', rfl⟩ := some_of_isNone ha
    rw [none_of_isNone hc, eq_ptr_nil 9999 he]
  · cases hv; obtain ⟨k, e, he⟩ := hs
    obtain ⟨a, rfl, ha⟩ := hx.map_inv; obtain ⟨c, rfl, hc⟩ := hy.map_inv
    rw [none_of_isNone ha, eq_nil_map 9999 he, hc]
  · cases hv; obtain ⟨k, e, he⟩ := hs
    obtain ⟨a, rfl, ha⟩ := hx.map_inv; obtain ⟨c, rfl, hc⟩ := hy.map_inv
    obtain ⟨a', rfl⟩ := some_of_isNone ha
    rw [none_of_isNone hc, eq_map_nil 9999 he]
  · cases hv; obtain ⟨e, he⟩ := hs
    obtain rfl := hx.nilSlice_inv; obtain ⟨c, cc, rfl, hc⟩ := hy.slice_inv
    rw [eq_nil_slice 9999 he, hc]
  · cases hv; obtain ⟨e, he⟩ := hs
    obtain ⟨a, aa, rfl, ha⟩ := hx.slice_inv; obtain rfl := hy.nilSlice_inv
    obtain ⟨a', rfl⟩ := some_of_isNone ha
    rw [eq_slice_nil 9999 he]
  · cases hv; obtain ⟨a, b, c, he⟩ := hs
    obtain rfl := hx.nilFunc_inv; obtain rfl := hy.nilFunc_inv
    exact (eq_func 9999 he (.func 0) #[] #[] w).1
  · cases hv; obtain ⟨a, b, c, he⟩ := hs
    obtain rfl := hx.nilFunc_inv; obtain ⟨a', b', rfl⟩ := hy.func_inv
    exact (eq_func 9999 he _ _ _ w).2.1
  · cases hv; obtain ⟨a, b, c, he⟩ := hs
    obtain ⟨a', b', rfl⟩ := hx.func_inv; obtain rfl := hy.nilFunc_inv
    exact (eq_func 9999 he _ _ _ w).2.2
  · cases hv; obtain ⟨m, he⟩ := hs
    obtain ⟨x', rfl, _⟩ := hx.iface_inv; obtain rfl := hy.nilIface_inv
    exact (eq_iface 9999 he _ _ w).2.2
  · cases hv; obtain ⟨m, he⟩ := hs
    obtain rfl := hx.nilIface_inv; obtain ⟨x', rfl, _⟩ := hy.iface_inv
    exact (eq_iface 9999 he _ _ w).2.1
  · cases hv

theorem unV_sound {op : UnOp} {x x' v : Value} (hx : VRel ρ x x') (hv : unV op x = some v) (w : World) : (Op.unary op x').run P w = .ok v w ∧ lit1 v = true := by
  unfold unV at hv
  split at hv
  · cases hv; obtain rfl := hx.int_inv; exact ⟨by simp [Op.unary, Op.intArith], rfl⟩
  · cases hv; obtain rfl := hx.int_inv; exact ⟨by simp [Op.unary, Op.intBits], rfl⟩
  · cases hv; obtain rfl := hx.bool_inv; exact ⟨by simp [Op.unary], rfl⟩
  · cases hv

theorem extV_sound {i : Nat} {x x' v : Value} (hx : VRel ρ x x') (hv : extV i x = some v) (w : World) : ∃ v', (Instr.extract x' i).run P w = .ok v' w ∧ VRel ρ v v' := by
  unfold extV at hv
  split at hv
  · rename_i vs
    split at hv
    · cases hv
    · rename_i hne
      cases hx with
      | unk => exact absurd rfl hne
      | lit _ e => simp [lit1] at e
      | tuple _ vs' h1 h2 =>
        obtain ⟨v', e, r⟩ := (LRel.of_array h1 h2).get hv
        exact ⟨v', by simp at e; simp [Instr.extract, e], r⟩
  · cases hv
def okNil : Value → Prop
  | .pointer none | .nilIface | .nilFunc => False
  | .func (.method _) _ _ => False
  | _ => True
theorem nilV_sound {x x' v : Value} (hx : VRel ρ x x') (hv : nilV x = some v) : v = x ∧ okNil x' := by
  unfold nilV at hv
  split at hv <;> simp at hv
  all_goals (subst hv; refine ⟨rfl, ?_⟩; cases hx <;> simp_all [unk, okNil])
theorem pickV_sound {c a b c' a' b' v : Value} (hc : VRel ρ c c') (ha : VRel ρ a a') (hb : VRel ρ b b') (hv : pickV c a b = some v) (w : World) :
    ∃ t, (asBool c').run P w = .ok t w ∧ VRel ρ v (if t then a' else b') := by
  unfold pickV at hv
  split at hv
  · rename_i t
    cases hv
    obtain rfl := hc.bool_inv
    refine ⟨t, rfl, ?_⟩
    cases t
    · exact hb
    · exact ha
  · cases hv
theorem ifaceOp_sound {t : TypeId} {x x' v : Value} (hx : VRel ρ x x') (hv : ifaceOp P t x = some v) (w : World) : ∃ v', (Instr.makeInterface t x').run P w = .ok v' w ∧ VRel ρ v v' := by
  unfold ifaceOp at hv
  cases hu : P.underlying t with
  | none => simp [hu] at hv
  | some d =>
    have hr : (Instr.makeInterface t x').run P w = .ok (.iface t x') w := by
      simp only [Instr.makeInterface, Sem.run_bind, run_underlying hu, Result.andThen]
      cases d <;> first | rfl | (simp [hu] at hv)
    refine ⟨.iface t x', hr, ?_⟩
    have hv' : ifaceV t x = some v := by cases d <;> simp [hu] at hv <;> exact hv
    unfold ifaceV at hv'
    split at hv'
    · cases hv'
    · cases hv'; exact .iface _ _ _ hx

/-! ### conversions -/
theorem bytesOf_spec : ∀ {vs : List Value} {l : List UInt8}, bytesOf vs = some l → ∃ ns : List Int, vs = ns.map (fun n => Value.int .u8 n) ∧ l = ns.map fun n => UInt8.ofNat n.toNat
  | [], l, h => by simp [bytesOf] at h; exact ⟨[], rfl, h⟩
  | v :: r, l, h => by
    simp only [bytesOf] at h
    split at h
    · rename_i b l' hb hl
      cases h
      obtain ⟨ns, rfl, rfl⟩ := bytesOf_spec hl
      cases v <;> simp [byteOf] at hb
      rename_i k n
      cases k <;> simp at hb
      exact ⟨n :: ns, rfl, by simp [hb]⟩
    · cases h
theorem LRel.ints_inv {k : IntKind} : ∀ {ns : List Int} {l' : List Value}, LRel ρ (ns.map fun n => Value.int k n) l' → l' = ns.map fun n => Value.int k n
  | [], _, h => by cases h; rfl
  | n :: ns, _, h => by
    cases h with
    | cons h t => rw [h.int_inv, LRel.ints_inv t]; rfl
theorem run_bytes_loop (w : World) (f : Value → ByteArray → Sem (ForInStep ByteArray)) (hf : ∀ n s, (f (.int .u8 n) s).run P w = .ok (.yield (s.push (UInt8.ofNat n.toNat))) w) : ∀ (ns : List Int) (s : ByteArray),
    (forIn (m := Sem) (ns.map fun n => Value.int .u8 n) s f).run P w = .ok (ns.foldl (fun s n => s.push (UInt8.ofNat n.toNat)) s) w
  | [], s => by simp
  | n :: ns, s => by
    simp only [List.map_cons, List.forIn_cons, Sem.run_bind, hf, Result.andThen, List.foldl_cons]
    exact run_bytes_loop w f hf ns _
theorem foldl_push (ns : List Int) (s : ByteArray) : (ns.foldl (fun s n => s.push (UInt8.ofNat n.toNat)) s) = ⟨s.data ++ (ns.map fun n => UInt8.ofNat n.toNat).toArray⟩ := by
  induction ns generalizing s with
  | nil => simp
  | cons n ns ih =>
    rw [List.foldl_cons, ih]
    congr 1
    apply Array.ext'
    simp [ByteArray.push]
theorem textOf_sound (H : HRel P B w0 ρ h w) {x x' v : Value} (hx : VRel ρ x x') (hv : textOf x h = some v) : (Conv.bytesToString x').run P w = .ok v w ∧ lit1 v = true := by
  unfold textOf at hv
  split at hv
  · cases hv
    have : x' = .slice none 0 0 := by cases hx; rfl
    subst this
    exact ⟨by simp [Conv.bytesToString], rfl⟩
  · rename_i a n c
    have hzero : ∀ (b : Addr) (cap : Nat), (Conv.bytesToString (.slice (some b) 0 cap)).run P w = .ok (.string .empty) w := by
      intro b cap
      simp [Conv.bytesToString, loadCells, loadCellsFrom, Result.andThen]
    split at hv
    · cases hv
      refine ⟨?_, rfl⟩
      cases hx with
      | lit _ e => simp [lit1] at e
      | slice => exact hzero _ _
      | owned => exact hzero _ _
      | empty => exact hzero _ _
    · rename_i hn0
      split at hv
      · rename_i cs own ho
        simp only [Option.map_eq_some_iff, Option.bind_eq_some_iff] at hv
        obtain ⟨l, ⟨vs, e1, e2⟩, rfl⟩ := hv
        obtain ⟨ns, rfl, rfl⟩ := bytesOf_spec e2
        obtain ⟨lc, hlc, hor⟩ := H.obj _ _ ho
        obtain ⟨vs', g1, g2, g3⟩ := hor.cells e1
        have g4 := LRel.ints_inv g2
        subst g4
        refine ⟨?_, rfl⟩
        have main : ∀ cap, (Conv.bytesToString (.slice (some ⟨lc.blk, a.off, none⟩) n cap)).run P w = .ok (.string ⟨(ns.map fun n => UInt8.ofNat n.toNat).toArray⟩) w := by
          intro cap
          simp only [Conv.bytesToString, Sem.run_bind, run_loadCells_at g1 g3, Result.andThen]
          rw [← Array.forIn_toList]
          simp only [List.toList_toArray]
          rw [run_bytes_loop w _ (fun n s => rfl) ns ByteArray.empty, foldl_push]
          simp [Result.andThen, ByteArray.empty, ByteArray.emptyWithCapacity]
          rfl
        cases hx with
        | lit _ e => simp [lit1] at e
        | empty => exact absurd rfl hn0
        | slice i off _ _ cap l' hl' =>
          have : l' = lc := by simp at hlc; rw [hlc] at hl'; exact (Option.some.inj hl').symm
          subst this; exact main cap
        | owned i off _ _ cap z l' hl' =>
          have : l' = lc := by simp at hlc; rw [hlc] at hl'; exact (Option.some.inj hl').symm
          subst this; exact main cap
      · cases hv
  · cases hv
end
end Go.Abs
end

section
set_option linter.unusedSimpArgs false
set_option linter.unusedVariables false
namespace Go.Abs
open Go.RowKit (Below)

section
variable {P : Program} {B : Nat} {w0 w : World} {ρ : Rho} {h : St}

theorem keyMode_spec (t : TypeId) : match keyMode P t with
    | .int k => P.underlying t = some (.int k)
    | .text => P.underlying t = some .string
    | .bool => P.underlying t = some .bool
    | .flat ks => flatT P t = some ks
    | .bad => True := by
  unfold keyMode
  cases hu : P.underlying t with
  | none => simp
  | some d =>
    cases d <;> simp
    split
    all_goals (rename_i e; first | (split at e <;> simp_all; done) | skip)

/-- What is found there, and here. -/
def Found (ρ : Rho) (es' : List MapEntry) : Option (Nat × MapEntry) → Option (Nat × Value) → Prop
  | none, none => True
  | some (i, e), some (j, v) => i = j ∧ ∃ e', es'[i]? = some e' ∧ e'.val = v ∧ ERel ρ e e'
  | _, _ => False

theorem findE_now {d : TypeDesc} {k : Value} (hk : ∀ k' r, eqOne k k' = some r → Instr.sameNow d k k' = some r) : ∀ {es es' : List MapEntry}, MRel ρ es es' → ∀ (i : Nat) (r : Option (Nat × MapEntry)), findE k es i = some r →
    ∃ r', Instr.findNow d k es' i = some r' ∧ (match r, r' with
      | none, none => True
      | some (a, e), some (b, v) => a = b ∧ i ≤ a ∧ ∃ e', es'[a - i]? = some e' ∧ e'.val = v ∧ ERel ρ e e'
      | _, _ => False)
  | _, _, .nil, i, r, h => by simp [findE] at h; subst h; exact ⟨none, rfl, trivial⟩
  | _, _, .cons (e := e) (e' := e') hh t, i, r, h => by
    simp only [findE] at h
    split at h
    · rename_i e1
      cases h
      rw [hh.1] at e1
      exact ⟨some (i, e'.val), by simp [Instr.findNow, hk _ _ e1], rfl, Nat.le_refl i, e', by simp, rfl, hh⟩
    · rename_i e1
      rw [hh.1] at e1
      obtain ⟨r', h1, h2⟩ := findE_now hk t (i + 1) r h
      refine ⟨r', by simp [Instr.findNow, hk _ _ e1, h1], ?_⟩
      cases r <;> cases r' <;> simp only at h2 ⊢
      obtain ⟨h3, h4, e2, h5, h6⟩ := h2
      refine ⟨h3, by omega, e2, ?_, h6⟩
      rename_i v1 v2
      rw [show v1.1 - i = (v1.1 - (i + 1)) + 1 by omega]
      simpa using h5
    · cases h
theorem eqAll_left {ks : List Ck} {as as' bs : List Value} (hc : LRel ρ as as') {b : Bool} (hb : eqAll ks as bs = some b) : eqAll ks as' bs = some b := by
  induction ks generalizing as as' bs with
  | nil => cases hc <;> cases bs <;> simp [eqAll] at hb ⊢; exact hb
  | cons k ks ih =>
    cases hc with
    | nil => simp [eqAll] at hb
    | @cons a a' _ _ ha ta => cases bs with
      | nil => simp [eqAll] at hb
      | cons y bs =>
        simp only [eqAll] at hb ⊢
        have same : ∀ r, eqCk k a y = some r → a' = a := by
          intro r hr
          cases k <;> cases a <;> cases y <;> simp [eqCk] at hr
          · exact ha.bool_inv
          · exact ha.int_inv
          · exact ha.string_inv
        split at hb
        · rename_i e1; rw [same _ e1, e1]; exact ih ta hb
        · rename_i e1; rw [same _ e1, e1]; exact hb
        · cases hb
theorem flatT_struct {t : TypeId} {ks : List Ck} (hf : flatT P t = some ks) : ∃ fields, P.underlying t = some (.struct fields) := by
  unfold flatT at hf
  split at hf
  · rename_i fields hu; exact ⟨fields, hu⟩
  · cases hf
theorem findF_ask {t : TypeId} {ks : List Ck} (hf : flatT P t = some ks) {c c' : Array Value} (hc : LRel ρ c.toList c'.toList) (w : World) : ∀ {es es' : List MapEntry}, MRel ρ es es' → ∀ (i : Nat) (r : Option (Nat × MapEntry)), findF ks c.toList es i = some r →
    ∃ r', (Instr.findAsking t (.agg c') es' i).run P w = .ok r' w ∧ (match r, r' with
      | none, none => True
      | some (a, e), some (b, v) => a = b ∧ i ≤ a ∧ ∃ e', es'[a - i]? = some e' ∧ e'.val = v ∧ ERel ρ e e'
      | _, _ => False)
  | _, _, .nil, i, r, h => by simp [findF] at h; subst h; exact ⟨none, by simp [Instr.findAsking], trivial⟩
  | _, _, .cons (e := e) (e' := e') hh t', i, r, h => by
    simp only [findF] at h
    split at h
    · rename_i q hq
      have hq' : e'.key = .agg q := by rw [← hh.1]; exact hq
      have eq_run : ∀ b, eqAll ks c.toList q.toList = some b → (Op.equal t (.agg c') e'.key).run P w = .ok b w := by
        intro b hb
        rw [hq']
        exact run_equalIn_flat hf (eqAll_left hc hb) 9998 w
      split at h
      · rename_i e1
        cases h
        exact ⟨some (i, e'.val), by simp [Instr.findAsking, eq_run _ e1, Result.andThen], rfl, Nat.le_refl i, e', by simp, rfl, hh⟩
      · rename_i e1
        obtain ⟨r', h1, h2⟩ := findF_ask hf hc w t' (i + 1) r h
        refine ⟨r', by simp [Instr.findAsking, eq_run _ e1, Result.andThen, h1], ?_⟩
        cases r <;> cases r' <;> simp only at h2 ⊢
        obtain ⟨h3, h4, e2, h5, h6⟩ := h2
        refine ⟨h3, by omega, e2, ?_, h6⟩
        rename_i v1 v2
        rw [show v1.1 - i = (v1.1 - (i + 1)) + 1 by omega]
        simpa using h5
      · cases h
    · cases h
theorem eqAll_self {ks : List Ck} {as : List Value} (h : (eqAll ks as as).isSome = true) : as.length = ks.length ∧ ∀ {as'}, LRel ρ as as' → as' = as := by
  induction ks generalizing as with
  | nil => cases as <;> simp [eqAll] at h ⊢; intro as' h; cases h; rfl
  | cons k ks ih =>
    cases as with
    | nil => simp [eqAll] at h
    | cons a as =>
      simp only [eqAll] at h
      have hsame : ∃ r, eqCk k a a = some r := by
        cases e : eqCk k a a with
        | none => simp [e] at h
        | some r => exact ⟨r, rfl⟩
      obtain ⟨r, hr⟩ := hsame
      have hr' : r = true := by cases k <;> cases a <;> simp [eqCk] at hr <;> first | exact hr | exact hr.symm | (rw [beq_toListBytes] at hr; simpa using hr.symm)
      subst hr'
      simp only [hr] at h
      obtain ⟨h1, h2⟩ := ih h
      refine ⟨by simp [h1], ?_⟩
      intro as' hh
      cases hh with
      | cons hv ht => rw [(eqCk_lit hv hv hr).1, h2 ht]
theorem checkKey_flat {t : TypeId} {ks : List Ck} (hf : flatT P t = some ks) {c : Array Value} (hc : c.toList.length = ks.length) (hck : (eqAll ks c.toList c.toList).isSome = true) (b : Bool) (d : Nat) (w : World) :
    (Instr.checkKey b (d + 2) t (.agg c)).run P w = .ok () w := by
  unfold flatT at hf
  split at hf
  · rename_i fields hu
    split at hf
    · rename_i hs
      rw [show d + 2 = (d + 1) + 1 from rfl]
      unfold Instr.checkKey
      generalize hD : d + 1 = D
      simp only [Sem.run_bind, run_underlying hu, Result.andThen]
      rw [← Array.forIn_toList]
      subst hD
      generalize hk : (0 : Nat) = k at hf
      have hlen : ∀ j, j < ks.length → ∃ v, c[k + j]? = some v := by
        intro j hj; subst hk; exact ⟨c[j]'(by rw [← Array.length_toList]; omega), by simp⟩
      clear hc hck hk
      generalize fields.toList = fs at hf
      induction fs generalizing k ks with
      | nil => simp
      | cons f fs ih =>
        simp only [flatFrom] at hf
        split at hf
        · rename_i ck cs' hc1 hc2
          cases hf
          obtain ⟨h1, h2, ⟨i, h3, h4⟩, h5⟩ := flatField_spec hc1
          obtain ⟨v, hv⟩ := hlen 0 (by simp)
          have hck : (Instr.checkKey b (d + 1) f.type v).run P w = .ok () w := by
            cases ck <;> simp only [CkT] at h5
            · simp [Instr.checkKey, run_underlying h5, Result.andThen]
            · obtain ⟨q, hq⟩ := h5; simp [Instr.checkKey, run_underlying hq, Result.andThen]
            · simp [Instr.checkKey, run_underlying h5, Result.andThen]
          simp only [List.forIn_cons, Sem.run_bind, h1, ne_eq, not_false_eq_true, if_true, h2, part_flat h3 h5 (by simpa using hv), Result.andThen, hck, Sem.run_pure]
          exact ih (k + 1) (hf := hc2) (hlen := fun j hj => by have := hlen (j + 1) (by simp; omega); rwa [show k + (j + 1) = k + 1 + j by omega] at this)
        · cases hf
    · cases hf
  · cases hf

theorem checkKey_int {t : TypeId} {k : IntKind} (hu : P.underlying t = some (.int k)) (b : Bool) (d : Nat) (v : Value) (w : World) : (Instr.checkKey b (d + 1) t v).run P w = .ok () w := by
  simp [Instr.checkKey, run_underlying hu, Result.andThen]
theorem checkKey_string {t : TypeId} (hu : P.underlying t = some .string) (b : Bool) (d : Nat) (v : Value) (w : World) : (Instr.checkKey b (d + 1) t v).run P w = .ok () w := by
  simp [Instr.checkKey, run_underlying hu, Result.andThen]
theorem checkKey_bool {t : TypeId} (hu : P.underlying t = some .bool) (b : Bool) (d : Nat) (v : Value) (w : World) : (Instr.checkKey b (d + 1) t v).run P w = .ok () w := by
  simp [Instr.checkKey, run_underlying hu, Result.andThen]
theorem find_sound {t : TypeId} {k k' : Value} {es es' : List MapEntry} {r : Option (Nat × MapEntry)} (hk : VRel ρ k k') (he : MRel ρ es es') (hr : find (keyMode P t) k es = some r) (b : Bool) (w : World) :
    k' = k ∧ (Instr.checkKey b 10000 t k').run P w = .ok () w ∧ ∃ r', (Instr.findKey t k' es').run P w = .ok r' w ∧ Found ρ es' r r' := by
  have hs := keyMode_spec (P := P) t
  generalize keyMode P t = m at hs hr
  have up : ∀ {r : Option (Nat × MapEntry)} {r' : Option (Nat × Value)}, (match r, r' with
      | none, none => True
      | some (a, e), some (b, v) => a = b ∧ 0 ≤ a ∧ ∃ e', es'[a - 0]? = some e' ∧ e'.val = v ∧ ERel ρ e e'
      | _, _ => False) → Found ρ es' r r' := by
    intro r r' h
    cases r <;> cases r' <;> simp only [Found] at h ⊢
    obtain ⟨h1, _, e', h2, h3⟩ := h
    exact ⟨h1, e', by simpa using h2, h3⟩
  have scalar : ∀ (d : TypeDesc), P.underlying t = some d → (∀ k' r, eqOne k k' = some r → Instr.sameNow d k k' = some r) → (Instr.checkKey b 10000 t k).run P w = .ok () w → findE k es 0 = some r →
      (Instr.checkKey b 10000 t k).run P w = .ok () w ∧ ∃ r', (Instr.findKey t k es').run P w = .ok r' w ∧ Found ρ es' r r' := by
    intro d hd hsame hck hf
    obtain ⟨r', h1, h2⟩ := findE_now hsame he 0 r hf
    exact ⟨hck, r', by simp [Instr.findKey, run_underlying hd, h1, Result.andThen], up h2⟩
  unfold find at hr
  split at hr
  · rename_i q q' n
    split at hr
    · rename_i e; subst e
      obtain rfl := hk.int_inv
      exact ⟨rfl, scalar _ hs (fun k' r h => by cases k' <;> simp [eqOne] at h; simp [Instr.sameNow, h]) (checkKey_int hs b 9999 _ w) hr⟩
    · cases hr
  · obtain rfl := hk.string_inv
    exact ⟨rfl, scalar _ hs (fun k' r h => by cases k' <;> simp [eqOne] at h; simp [Instr.sameNow, h]) (checkKey_string hs b 9999 _ w) hr⟩
  · obtain rfl := hk.bool_inv
    exact ⟨rfl, scalar _ hs (fun k' r h => by cases k' <;> simp [eqOne] at h; simp [Instr.sameNow, h]) (checkKey_bool hs b 9999 _ w) hr⟩
  · rename_i ks c
    split at hr
    · rename_i hself
      cases hk with
      | lit _ e => simp [lit1] at e
      | agg _ c' h1 h2 =>
        have hc := LRel.of_array h1 h2
        obtain ⟨g1, g2⟩ := eqAll_self (ρ := ρ) hself
        have hcc : c' = c := by
          have := g2 hc
          exact Array.ext' this
        subst hcc
        refine ⟨rfl, checkKey_flat hs g1 hself b 9998 w, ?_⟩
        obtain ⟨r', h3, h4⟩ := findF_ask hs hc w he 0 r hr
        refine ⟨r', ?_, up h4⟩
        obtain ⟨fields, hu⟩ := flatT_struct hs
        simp only [Instr.findKey, Sem.run_bind, run_underlying hu, Result.andThen]
        cases es' with
        | nil => cases he; simp [findF] at hr; subst hr; simp [Instr.findNow]; cases r' <;> simp [Found] at h4 ⊢
        | cons e' es' => simp [Instr.findNow, Instr.sameNow, h3]
    · cases hr
  · cases hr
end
end Go.Abs
end

section
set_option linter.unusedSimpArgs false
set_option linter.unusedVariables false
namespace Go.Abs
open Go.RowKit (Below)

section
variable {P : Program} {B : Nat} {w0 w : World} {ρ : Rho} {h : St}

theorem zeroV_spec {t : TypeId} {z : Value} (hz : zeroV P t = some z) (w : World) : (zeroValue t).run P w = .ok z w ∧ lit z = true := by
  unfold zeroV at hz
  split at hz
  · rename_i i hi
    split at hz
    · rename_i z' e
      split at hz
      · rename_i hl
        cases hz
        exact ⟨by simp [zeroValue, typeInfo, hi, e, Result.andThen], hl⟩
      · cases hz
    · cases hz
  · cases hz
theorem outV_rel {ok b : Bool} {v v' : Value} (hv : VRel ρ v v') : VRel ρ (outV ok v b) (if ok then .tuple #[v', .bool b] else v') := by
  cases ok with
  | false => exact hv
  | true => exact VRel.tupleL (l := [v, .bool b]) (a' := #[v', .bool b]) (.cons hv (.cons (.bool _ b) .nil))
theorem lookupOp_sound (H : HRel P B w0 ρ h w) {t : TypeId} {m m' k k' v : Value} {ok : Bool} (hm : VRel ρ m m') (hk : VRel ρ k k') (hv : lookupOp P t m k ok h = some v) :
    ∃ v', (Instr.lookup t m' k' ok).run P w = .ok v' w ∧ VRel ρ v v' := by
  unfold lookupOp at hv
  split at hv
  · rename_i key elem hu
    split at hv
    · rename_i z hz
      obtain ⟨hz1, hz2⟩ := zeroV_spec hz w
      unfold lookV at hv
      split at hv
      · simp only [Option.map_eq_some_iff] at hv
        obtain ⟨r, e1, rfl⟩ := hv
        obtain ⟨rfl, hc, r', h1, h2⟩ := find_sound (P := P) (ρ := ρ) hk .nil e1 true w
        obtain ⟨m2, rfl, hm2⟩ := hm.map_inv
        obtain rfl := none_of_isNone hm2
        have hr : r' = none := by cases r <;> cases r' <;> simp [Found] at h2 ⊢
        subst hr
        refine ⟨_, ?_, outV_rel (VRel.of_lit hz2)⟩
        simp [Instr.lookup, run_underlying hu, Result.andThen, hc, h1, hz1]
      · rename_i r0
        split at hv
        · rename_i es clock ho
          simp only [Option.map_eq_some_iff] at hv
          obtain ⟨r, e1, rfl⟩ := hv
          obtain ⟨l, hl, hown, hB, es', hblk, hes⟩ := H.obj _ _ ho
          cases hm with
          | lit _ e => simp [lit1] at e
          | map _ l' hl' =>
            have : l' = l := by rw [hl] at hl'; exact (Option.some.inj hl').symm
            subst this
            obtain ⟨rfl, hc, r', h1, h2⟩ := find_sound (P := P) hk hes e1 es'.isEmpty w
            have hget : (getObj l'.blk).run P w = .ok (.map es' clock) w := by simp [getObj, Sem.run, hblk]
            cases r with
            | none =>
              have hr : r' = none := by cases r' <;> simp [Found] at h2 ⊢
              subst hr
              refine ⟨_, ?_, outV_rel (VRel.of_lit hz2)⟩
              simp [Instr.lookup, run_underlying hu, Result.andThen, hget, hc, h1, hz1]
            | some ie =>
              obtain ⟨i, e⟩ := ie
              cases r' with
              | none => simp [Found] at h2
              | some jv =>
                obtain ⟨j, v'⟩ := jv
                obtain ⟨h3, e', h4, h5, h6⟩ := h2
                refine ⟨_, ?_, outV_rel (h5 ▸ h6.2.2)⟩
                simp [Instr.lookup, run_underlying hu, Result.andThen, hget, hc, h1]
        · cases hv
      · cases hv
    · cases hv
  · cases hv
theorem lenOp_sound (H : HRel P B w0 ρ h w) {t ty : TypeId} {ts : Array TypeId} {xs : Array Value} {x x' v : Value} (ht : ts[0]? = some t) (hxs : xs[0]? = some x') (hx : VRel ρ x x') (hv : lenOp P t x h = some v) :
    (Builtin.len_ ts ty xs).run P w = .ok v w ∧ lit1 v = true := by
  unfold lenOp at hv
  split at hv
  · rename_i hu
    unfold lenT at hv
    split at hv
    · cases hv; obtain rfl := hx.string_inv; exact ⟨by simp [Builtin.len_, ht, hxs, run_underlying hu, Result.andThen, goInt], rfl⟩
    · cases hv
  · rename_i e hu
    unfold lenS at hv
    split at hv
    · cases hv; obtain ⟨b', c', rfl, _⟩ := hx.slice_inv; exact ⟨by simp [Builtin.len_, ht, hxs, run_underlying hu, Result.andThen, goInt], rfl⟩
    · cases hv
  · rename_i k e hu
    unfold lenM at hv
    split at hv
    · cases hv; obtain ⟨b', rfl, hb⟩ := hx.map_inv; obtain rfl := none_of_isNone hb; exact ⟨by simp [Builtin.len_, ht, hxs, run_underlying hu, Result.andThen, goInt], rfl⟩
    · rename_i r
      split at hv
      · rename_i es clock ho
        cases hv
        obtain ⟨l, hl, hown, hB, es', hblk, hes⟩ := H.obj _ _ ho
        cases hx with
        | lit _ e => simp [lit1] at e
        | map _ l' hl' =>
          have : l' = l := by rw [hl] at hl'; exact (Option.some.inj hl').symm
          subst this
          have hget : (getObj l'.blk).run P w = .ok (.map es' clock) w := by simp [getObj, Sem.run, hblk]
          have hn := hes.length
          exact ⟨by simp [Builtin.len_, ht, hxs, run_underlying hu, Result.andThen, goInt, hget, hn], rfl⟩
      · cases hv
    · cases hv
  · rename_i n e hu
    cases hv; exact ⟨by simp [Builtin.len_, ht, hxs, run_underlying hu, Result.andThen, goInt], rfl⟩
  · cases hv
theorem ints_inv2 {k : IntKind} {x y : Int} {l' : List Value} (hx : LRel ρ [.int k x, .int k y] l') : l' = [.int k x, .int k y] := by
  cases hx with | cons h1 t => cases t with | cons h2 t => cases t; rw [h1.int_inv, h2.int_inv]
theorem ints_inv3 {k : IntKind} {x y z : Int} {l' : List Value} (hx : LRel ρ [.int k x, .int k y, .int k z] l') : l' = [.int k x, .int k y, .int k z] := by
  cases hx with | cons h1 t => cases t with | cons h2 t => cases t with | cons h3 t => cases t; rw [h1.int_inv, h2.int_inv, h3.int_inv]
theorem minV_sound {xs : List Value} {xs' : Array Value} {v : Value} (hx : LRel ρ xs xs'.toList) (hv : minV xs = some v) (ts : Array TypeId) (ty : TypeId) (w : World) : (Builtin.min_ ts ty xs').run P w = .ok v w ∧ lit1 v = true := by
  unfold minV at hv
  split at hv
  · split at hv
    · rename_i e; subst e; cases hv; exact ⟨by simp [Builtin.min_, ints_inv2 hx, Builtin.min2], rfl⟩
    · cases hv
  · split at hv
    · rename_i e; obtain ⟨rfl, rfl⟩ := e; cases hv; exact ⟨by simp [Builtin.min_, ints_inv3 hx, Builtin.min2, Result.andThen], rfl⟩
    · cases hv
  · cases hv
theorem maxV_sound {xs : List Value} {xs' : Array Value} {v : Value} (hx : LRel ρ xs xs'.toList) (hv : maxV xs = some v) (ts : Array TypeId) (ty : TypeId) (w : World) : (Builtin.max_ ts ty xs').run P w = .ok v w ∧ lit1 v = true := by
  unfold maxV at hv
  split at hv
  · split at hv
    · rename_i e; subst e; cases hv; exact ⟨by simp [Builtin.max_, ints_inv2 hx, Builtin.max2], rfl⟩
    · cases hv
  · split at hv
    · rename_i e; obtain ⟨rfl, rfl⟩ := e; cases hv; exact ⟨by simp [Builtin.max_, ints_inv3 hx, Builtin.max2, Result.andThen], rfl⟩
    · cases hv
  · cases hv
theorem capOp_sound {t ty : TypeId} {ts : Array TypeId} {xs : Array Value} {x x' v : Value} (ht : ts[0]? = some t) (hxs : xs[0]? = some x') (hx : VRel ρ x x') (hv : capOp P t x = some v) (w : World) :
    (Builtin.cap_ ts ty xs).run P w = .ok v w ∧ lit1 v = true := by
  unfold capOp at hv
  split at hv
  · rename_i e hu
    unfold capS at hv
    split at hv
    · cases hv; obtain rfl := hx.nilSlice_inv; exact ⟨by simp [Builtin.cap_, ht, hxs, run_underlying hu, Result.andThen, goInt], rfl⟩
    · rename_i a off z n c
      cases hv
      cases hx with
      | lit _ e => simp [lit1] at e
      | empty _ _ bb hk =>
        have : c = 0 := by have := hk (by simp); omega
        subst this
        exact ⟨by simp [Builtin.cap_, ht, hxs, run_underlying hu, Result.andThen, goInt], rfl⟩
      | owned _ _ _ _ cap _ lc hlc hn hc hlim hk =>
        have : cap = c := by have := hk (by omega); omega
        subst this
        exact ⟨by simp [Builtin.cap_, ht, hxs, run_underlying hu, Result.andThen, goInt], rfl⟩
    · cases hv
  · cases hv
theorem convV_sound (H : HRel P B w0 ρ h w) {s d : TypeId} {x x' v : Value} (hx : VRel ρ x x') (hv : convV P s d x h = some v) : (convert s d x').run P w = .ok v w ∧ lit1 v = true := by
  unfold convV at hv
  split at hv
  · rename_i u k hu hd
    unfold wrapV at hv
    split at hv
    · cases hv; obtain rfl := hx.int_inv
      exact ⟨by simp [convert, run_underlying hu, run_underlying hd, Result.andThen, Conv.intToInt], rfl⟩
    · cases hv
  · rename_i e hu hd
    split at hv
    · rename_i he
      obtain ⟨h1, h2⟩ := textOf_sound H hx hv
      refine ⟨?_, h2⟩
      have hx' : ∃ a n c, x' = .slice a n c := by
        unfold textOf at hv
        split at hv
        · exact ⟨none, 0, 0, hx.nilSlice_inv⟩
        · obtain ⟨b', c', rfl, _⟩ := hx.slice_inv; exact ⟨_, _, _, rfl⟩
        · cases hv
      obtain ⟨a, n, c, rfl⟩ := hx'
      simp [convert, run_underlying hu, run_underlying hd, run_underlying he, Result.andThen, h1]
    · cases hv
  · rename_i u _ hu hd
    unfold sameText at hv
    split at hv
    · cases hv; obtain rfl := hx.string_inv
      refine ⟨?_, rfl⟩
      simp only [convert, Sem.run_bind, run_underlying hu, run_underlying hd, Result.andThen]
      cases u <;> rfl
    · cases hv
  · cases hv
theorem assertOp_sound {s t : TypeId} {ok : Bool} {x x' v : Value} (hx : VRel ρ x x') (hv : assertOp P t ok x = some v) (w : World) : ∃ v', (Instr.typeAssert x' s t ok).run P w = .ok v' w ∧ VRel ρ v v' := by
  unfold assertOp at hv
  cases hu : P.underlying t with
  | none => simp [hu] at hv
  | some d =>
    have hv' : assertV t (zeroV P t) ok x = some v ∧ ∀ m, d ≠ .interface m := by cases d <;> simp [hu] at hv <;> exact ⟨hv, fun m => by simp⟩
    obtain ⟨hv', hd⟩ := hv'
    unfold assertV at hv'
    split at hv'
    · rename_i u x0
      obtain ⟨x0', rfl, h1⟩ := hx.iface_inv
      split at hv'
      · rename_i e
        have e' : u = t := by simpa using e
        subst e'
        cases hv'
        refine ⟨if ok then .tuple #[x0', .bool true] else x0', ?_, ?_⟩
        · simp only [Instr.typeAssert, Sem.run_bind, run_underlying hu, Result.andThen]
          cases d <;> simp at hd <;> simp [Instr.typeAssert]
        · cases ok
          · exact h1
          · exact VRel.tupleL (l := [x0, .bool true]) (a' := #[x0', .bool true]) (.cons h1 (.cons (.bool _ _) .nil))
      · rename_i e
        have e' : u ≠ t := by intro h; subst h; simp at e
        split at hv'
        · rename_i z hz
          cases hv'
          obtain ⟨hz1, hz2⟩ := zeroV_spec hz w
          refine ⟨.tuple #[z, .bool false], ?_, VRel.tupleL (l := [z, .bool false]) (a' := #[z, .bool false]) (.cons (VRel.of_lit hz2) (.cons (.bool _ _) .nil))⟩
          simp only [Instr.typeAssert, Sem.run_bind, run_underlying hu, Result.andThen]
          cases d <;> simp at hd <;> simp [e', hz1, Result.andThen]
        · cases hv'
    · obtain rfl := hx.nilIface_inv
      split at hv'
      · rename_i z hz
        cases hv'
        obtain ⟨hz1, hz2⟩ := zeroV_spec hz w
        refine ⟨.tuple #[z, .bool false], ?_, VRel.tupleL (l := [z, .bool false]) (a' := #[z, .bool false]) (.cons (VRel.of_lit hz2) (.cons (.bool _ _) .nil))⟩
        simp only [Instr.typeAssert, Sem.run_bind, run_underlying hu, Result.andThen]
        cases d <;> simp at hd <;> simp [hz1, Result.andThen]
      · cases hv'
    · cases hv'
end
end Go.Abs
end

section
set_option linter.unusedSimpArgs false
set_option linter.unusedVariables false
namespace Go.Abs
open Go.RowKit (Below)

section
variable {P : Program} {B : Nat} {w0 w : World} {ρ : Rho} {h : St}

theorem laid_list : ∀ (vc : List Value) (k off : Nat) (cs : Array Value), off + k + vc.length ≤ cs.size →
    ((vc.zipIdx k).foldl (fun cs (p : Value × Nat) => cs.setIfInBounds (off + p.2) p.1) cs).toList = cs.toList.take (off + k) ++ vc ++ cs.toList.drop (off + k + vc.length)
  | [], k, off, cs, hle => by simp
  | v :: vc, k, off, cs, hle => by
    simp only [List.length_cons] at hle
    rw [List.zipIdx_cons, List.foldl_cons, laid_list vc (k + 1) off _ (by simp; omega)]
    simp only [Array.toList_setIfInBounds, List.length_cons]
    have hk : off + k < cs.toList.length := by simp; omega
    rw [List.set_eq_take_append_cons_drop, if_pos hk]
    have hl : (cs.toList.take (off + k)).length = off + k := by rw [List.length_take]; omega
    rw [List.take_append, List.drop_append, hl]
    have e1 : off + (k + 1) - (off + k) = 1 := by omega
    have e2 : off + (k + 1) + vc.length - (off + k) = vc.length + 1 := by omega
    rw [e1, e2]
    simp only [List.take_succ_cons, List.take_zero, List.drop_succ_cons, List.drop_drop]
    rw [List.take_of_length_le (by rw [hl]; omega), List.drop_of_length_le (by rw [hl]; omega)]
    simp only [List.nil_append, List.append_assoc, List.singleton_append, List.cons_append]
    congr 3
    congr 1
    omega

inductive PRel (ρ : Rho) (place : Nat → Option (Nat × Nat)) : List (Nat × Nat × Value) → List (Nat × Value) → Prop
  | nil : PRel ρ place [] []
  | cons {off n i : Nat} {v v' : Value} {l : List (Nat × Nat × Value)} {l' : List (Nat × Value)} (hp : place i = some (off, n)) (hv : VRel ρ v v') (t : PRel ρ place l l') :
      PRel ρ place ((off, n, v) :: l) ((i, v') :: l')
theorem unk_cells : (unk : Value).cells.size = 1 := rfl
theorem VRel.cellsSize {v v' : Value} (hv : VRel ρ v v') (hu : v ≠ Abs.unk) : v'.cells.size = v.cells.size := (LRel.size (hv.cells hu)).symm
/-- No part is unknown. -/
def known : List (Nat × Nat × Value) → Prop
  | [] => True
  | (_, _, v) :: r => v ≠ unk ∧ known r
theorem fillL_sound {place : Nat → Option (Nat × Nat)} : ∀ {l : List (Nat × Nat × Value)} {l' : List (Nat × Value)}, PRel ρ place l l' → known l → ∀ {cs : List Value} {cs' : Array Value} {out : List Value}, LRel ρ cs cs'.toList → fillL l cs = some out →
    ∃ out', Instr.fill place cs' l' = some out' ∧ LRel ρ out out'.toList
  | _, _, .nil, _, cs, cs', out, hc, hf => by simp [fillL] at hf; subst hf; exact ⟨cs', rfl, hc⟩
  | _, _, .cons (off := off) (n := n) (i := i) (v := v) (v' := v') hp hv t, hk, cs, cs', out, hc, hf => by
    simp only [fillL] at hf
    split at hf
    · rename_i hcond
      obtain ⟨h1, h2⟩ := hcond
      have hsz := hv.cellsSize hk.1
      have hlen := hc.length
      have hfit : off + v'.cells.size ≤ cs'.size := by rw [hsz, h1]; simpa [hlen] using h2
      have hlaid := laid_list v'.cells.toList 0 off cs' (by simpa using hfit)
      have hc2 : LRel ρ (cs.take off ++ v.cells.toList ++ cs.drop (off + n)) (v'.cells.zipIdx.foldl (fun cs (c, j) => cs.setIfInBounds (off + j) c) cs').toList := by
        have e : (v'.cells.zipIdx.foldl (fun cs (c, j) => cs.setIfInBounds (off + j) c) cs').toList = cs'.toList.take off ++ v'.cells.toList ++ cs'.toList.drop (off + n) := by
          rw [← Array.foldl_toList, Array.toList_zipIdx]
          have := hlaid
          simp only [Nat.add_zero] at this
          rw [show (v'.cells.toList.zipIdx) = v'.cells.toList.zipIdx 0 from rfl, this, Array.length_toList, hsz, h1]
        rw [e]
        exact ((hc.take off).append (hv.cells hk.1)).append (hc.drop (off + n))
      obtain ⟨out', g1, g2⟩ := fillL_sound t hk.2 hc2 hf
      refine ⟨out', ?_, g2⟩
      unfold Instr.fill
      simp only [hp]
      rw [if_neg (by simp; omega)]
      exact g1
    · cases hf
theorem zeroOf_spec {t : TypeId} {z : List Value} (hz : zeroOf P t = some z) : ∃ i v, P.info? t = some i ∧ i.zero = some v ∧ v.cells.toList = z ∧ z.all lit1 = true ∧ ∀ w, (zeroValue t).run P w = .ok v w := by
  unfold zeroOf at hz
  split at hz
  · rename_i i hi
    split at hz
    · rename_i v e
      split at hz
      · rename_i hl
        cases hz
        exact ⟨i, v, hi, e, rfl, hl, fun w => by simp [zeroValue, typeInfo, hi, e, Result.andThen]⟩
      · cases hz
    · cases hz
  · cases hz
theorem knownB_spec : ∀ {l : List (Nat × Nat × Value)}, (l.all fun p => !isUnk p.2.2) = true → known l
  | [], _ => trivial
  | (_, _, v) :: r, h => by
    simp only [List.all_cons, Bool.and_eq_true, Bool.not_eq_true'] at h
    refine ⟨fun e => ?_, knownB_spec h.2⟩
    rw [e] at h
    simp [isUnk, unk] at h
theorem placesOf_rel {fields : Array Field} {ev ev' : Operand → Value} (hev : ∀ x, VRel ρ (ev x) (ev' x)) {places : Array (Nat × Nat)} (hpl : ∀ (i : Nat) (f : Field) (ti : TypeInfo), fields[i]? = some f → P.info? f.type = some ti → places[i]? = some (f.offset, ti.size)) :
    ∀ {l : List (Nat × Operand)} {out : List (Nat × Nat × Value)}, placesOf P fields ev l = some out → PRel ρ (places[·]?) out (l.map fun (i, x) => (i, ev' x))
  | [], out, h => by simp [placesOf] at h; subst h; exact .nil
  | (i, x) :: r, out, h => by
    simp only [placesOf] at h
    split at h
    · rename_i f l hf hl
      split at h
      · rename_i ti hti
        cases h
        exact .cons (hpl i f ti hf hti) (hev x) (placesOf_rel hev hpl hl)
      · cases h
    · cases h
theorem partsV_rel {ev ev' : Operand → Value} (hev : ∀ x, VRel ρ (ev x) (ev' x)) {elem : TypeId} {n : Nat} : ∀ (l : List (Nat × Operand)),
    PRel ρ (fun i => some (i * n, n)) (partsV P elem ev l n) (l.map fun (i, x) => (i, ev' x))
  | [] => .nil
  | (i, x) :: r => .cons rfl (hev x) (partsV_rel hev r)
theorem run_places {fields : Array Field} (hs : sizesOk P fields = true) (w : World) : ∃ places : Array (Nat × Nat), (fields.mapM fun f => do pure (f.offset, ← sizeOf f.type) : Sem (Array (Nat × Nat))).run P w = .ok places w ∧
    ∀ (i : Nat) (f : Field) (ti : TypeInfo), fields[i]? = some f → P.info? f.type = some ti → places[i]? = some (f.offset, ti.size) := by
  rw [Array.mapM_eq_mapM_toList]
  have key : ∀ l : List Field, (l.all fun f => (P.info? f.type).isSome) = true → ∃ out : List (Nat × Nat), (l.mapM fun f => do pure (f.offset, ← sizeOf f.type) : Sem (List (Nat × Nat))).run P w = .ok out w ∧
      ∀ (i : Nat) (f : Field) (ti : TypeInfo), l[i]? = some f → P.info? f.type = some ti → out[i]? = some (f.offset, ti.size) := by
    intro l
    induction l with
    | nil => intro _; exact ⟨[], by simp, fun i f ti h => by simp at h⟩
    | cons f l ih =>
      intro h
      simp only [List.all_cons, Bool.and_eq_true] at h
      obtain ⟨out, h1, h2⟩ := ih h.2
      obtain ⟨ti, hti⟩ := Option.isSome_iff_exists.1 h.1
      refine ⟨(f.offset, ti.size) :: out, ?_, ?_⟩
      · simp only [List.mapM_cons, Sem.run_bind, run_size' hti, Result.andThen, Sem.run_pure, h1]
      · intro i g tg hg htg
        cases i with
        | zero => simp at hg; subst hg; rw [hti] at htg; cases htg; rfl
        | succ i => exact h2 i g tg (by simpa using hg) htg
  obtain ⟨out, h1, h2⟩ := key fields.toList hs
  refine ⟨out.toArray, by rw [Sem.run_map, h1]; rfl, fun i f ti hf hti => ?_⟩
  simpa using h2 i f ti (by simpa using hf) hti
theorem buildOp_sound {t : TypeId} {parts : Array (Nat × Operand)} {ev ev' : Operand → Value} (hev : ∀ x, VRel ρ (ev x) (ev' x)) {v : Value} (hv : buildOp P t parts ev = some v) (w : World) :
    ∃ v', (Instr.build t (parts.map fun (i, x) => (i, ev' x))).run P w = .ok v' w ∧ VRel ρ v v' := by
  unfold buildOp at hv
  split at hv
  · rename_i fields hu
    split at hv
    · rename_i z hs hz
      unfold buildV at hv
      split at hv
      · rename_i l hl
        split at hv
        · rename_i hkn
          simp only [Option.map_eq_some_iff] at hv
          obtain ⟨cs, e1, rfl⟩ := hv
          obtain ⟨i, zv, hi, hz1, hz2, hz3, hz4⟩ := zeroOf_spec hz
          obtain ⟨places, hp1, hp2⟩ := run_places hs w
          obtain ⟨out', g1, g2⟩ := fillL_sound (placesOf_rel hev hp2 hl) (knownB_spec hkn) (cs' := zv.cells) (by rw [hz2]; exact LRel.refl hz3) e1
          refine ⟨.agg out', ?_, VRel.aggL g2⟩
          simp only [Instr.build, Sem.run_bind, hz4, run_underlying hu, hp1, Result.andThen, Array.toList_map]
          rw [g1]
          rfl
        · cases hv
      · cases hv
    · cases hv
  · rename_i n elem hu
    split at hv
    · rename_i i z hi hz
      unfold buildV at hv
      split at hv
      · rename_i l hl
        cases hl
        split at hv
        · rename_i hkn
          simp only [Option.map_eq_some_iff] at hv
          obtain ⟨cs, e1, rfl⟩ := hv
          obtain ⟨i2, zv, hi2, hz1, hz2, hz3, hz4⟩ := zeroOf_spec hz
          obtain ⟨out', g1, g2⟩ := fillL_sound (partsV_rel (P := P) hev (elem := elem) (n := i.size) parts.toList) (knownB_spec hkn) (cs' := zv.cells) (by rw [hz2]; exact LRel.refl hz3) e1
          refine ⟨.agg out', ?_, VRel.aggL g2⟩
          simp only [Instr.build, Sem.run_bind, hz4, run_underlying hu, run_size' hi, Result.andThen, Array.toList_map]
          rw [g1]
          rfl
        · cases hv
      · cases hv
    · cases hv
  · cases hv
end
end Go.Abs
end

section
set_option linter.unusedSimpArgs false
set_option linter.unusedVariables false
namespace Go.Abs
open Go.RowKit (Below)

section
variable {P : Program} {B : Nat} {w0 w : World} {ρ : Rho} {h : St}

theorem eqGuard_run {op : BinOp} {t : TypeId} {x y : Operand} {a b : Value} (h1 : ¬ (a = .nilIface ∧ b = .nilIface)) (h2 : ∀ u v, a = .agg u → b = .agg v → P.eqGuardType P.depth t = false) (w : World) :
    (eqGuard op t x y a b).run P w = .ok () w := by
  unfold eqGuard
  cases op
  case eql | neq =>
    simp only [Bool.not_true, Bool.false_eq_true, if_false]
    split
    · exact absurd ⟨rfl, rfl⟩ h1
    · have := h2 _ _ rfl rfl
      simp [this, Result.andThen]
    · rfl
  all_goals rfl
/-- Values at which '==' goes by the type. -/
def byType : Value → Prop
  | .bool _ | .agg _ | .pointer _ | .map _ | .slice _ _ _ | .nilFunc | .func _ _ _ | .iface _ _ | .nilIface => True
  | _ => False
theorem run_eql {t : TypeId} {a b : Value} (ha : byType a) (w : World) : (Go.binOp .eql t a b).run P w = ((Op.equal t a b).run P w).andThen fun r w => .ok (.bool r) w := by
  cases a <;> first | exact ha.elim | (cases b <;> simp [Go.binOp])
theorem run_neq {t : TypeId} {a b : Value} (ha : byType a) (w : World) : (Go.binOp .neq t a b).run P w = ((Op.equal t a b).run P w).andThen fun r w => .ok (.bool (!r)) w := by
  cases a <;> first | exact ha.elim | (cases b <;> simp [Go.binOp])
theorem eqV_byType {s : Shp} {x y x' : Value} {b : Bool} (hx : VRel ρ x x') (hv : eqV s x y = some b) : byType x' ∧ ¬ (x = .nilIface ∧ y = .nilIface) ∧ (∀ u v, x = .agg u → y = .agg v → ∃ ks, s = .flat ks) ∧ x ≠ unk ∧ y ≠ unk := by
  unfold eqV at hv
  split at hv <;> first | (cases hv; done) | skip
  all_goals refine ⟨?_, ?_, ?_, ?_, ?_⟩
  all_goals first
    | (intro h; simp [unk] at h; done)
    | (rintro ⟨h1, h2⟩; simp at h1 h2; done)
    | (intro u v h1 h2; simp at h1; done)
    | (intro u v h1 h2; exact ⟨_, rfl⟩)
    | skip
  · rw [hx.bool_inv]; trivial
  · cases hx with | lit _ e => simp [lit1] at e | agg => trivial
  · obtain ⟨a, rfl, _⟩ := hx.ptr_inv; trivial
  · obtain ⟨a, rfl, _⟩ := hx.ptr_inv; trivial
  · obtain ⟨a, rfl, _⟩ := hx.map_inv; trivial
  · obtain ⟨a, rfl, _⟩ := hx.map_inv; trivial
  · rw [hx.nilSlice_inv]; trivial
  · obtain ⟨a, c, rfl, _⟩ := hx.slice_inv; trivial
  · rw [hx.nilFunc_inv]; trivial
  · rw [hx.nilFunc_inv]; trivial
  · obtain ⟨a, c, rfl⟩ := hx.func_inv; trivial
  · obtain ⟨a, rfl, _⟩ := hx.iface_inv; trivial
  · rw [hx.nilIface_inv]; trivial
theorem VRel.nilIface_back {x : Value} (hx : VRel ρ x .nilIface) (hu : x ≠ Abs.unk) : x = .nilIface := by
  cases hx with
  | unk => exact absurd rfl hu
  | lit => rfl
theorem VRel.agg_back {x : Value} {a' : Array Value} (hx : VRel ρ x (.agg a')) (hu : x ≠ Abs.unk) : ∃ a, x = .agg a := by
  cases hx with
  | unk => exact absurd rfl hu
  | lit _ e => simp [lit1] at e
  | agg a => exact ⟨a, rfl⟩
theorem binV_sound {b : BinOp} {t : TypeId} {xo yo : Operand} {x y x' y' v : Value} (hx : VRel ρ x x') (hy : VRel ρ y y') (hv : binV b (shapeOf P t) x y = some v) (w : World) :
    (do eqGuard b t xo yo x' y'; Go.binOp b t x' y' : Sem Value).run P w = .ok v w ∧ lit1 v = true := by
  unfold binV at hv
  split at hv
  · rename_i k a k' c
    obtain rfl := hx.int_inv; obtain rfl := hy.int_inv
    rw [Sem.run_bind, eqGuard_run (by simp) (by simp)]
    split at hv
    · exact shiftV_sound hv t w
    · rename_i hs
      split at hv
      · rename_i e; subst e; exact intV_sound hs hv t w
      · cases hv
  · rename_i a c
    obtain rfl := hx.string_inv; obtain rfl := hy.string_inv
    rw [Sem.run_bind, eqGuard_run (by simp) (by simp)]
    split at hv
    · cases hv
    · rename_i hs
      exact textV_sound hs hv t w
  · split at hv
    · simp only [Option.map_eq_some_iff] at hv
      obtain ⟨r, e, rfl⟩ := hv
      obtain ⟨h1, h2, h3, h4, h5⟩ := eqV_byType hx e
      rw [Sem.run_bind, eqGuard_run (fun ⟨g1, g2⟩ => h2 ⟨(g1 ▸ hx).nilIface_back h4, (g2 ▸ hy).nilIface_back h5⟩) ?_]
      · simp only [Result.andThen]
        rw [run_eql h1, eqV_sound hx hy e]
        exact ⟨rfl, rfl⟩
      · intro u v g1 g2
        obtain ⟨a, rfl⟩ := (g1 ▸ hx).agg_back h4
        obtain ⟨c, rfl⟩ := (g2 ▸ hy).agg_back h5
        obtain ⟨ks, hks⟩ := h3 _ _ rfl rfl
        have := shapeOf_spec (P := P) t
        rw [hks] at this
        exact this.2
    · simp only [Option.map_eq_some_iff] at hv
      obtain ⟨r, e, rfl⟩ := hv
      obtain ⟨h1, h2, h3, h4, h5⟩ := eqV_byType hx e
      rw [Sem.run_bind, eqGuard_run (fun ⟨g1, g2⟩ => h2 ⟨(g1 ▸ hx).nilIface_back h4, (g2 ▸ hy).nilIface_back h5⟩) ?_]
      · simp only [Result.andThen]
        rw [run_neq h1, eqV_sound hx hy e]
        exact ⟨rfl, rfl⟩
      · intro u v g1 g2
        obtain ⟨a, rfl⟩ := (g1 ▸ hx).agg_back h4
        obtain ⟨c, rfl⟩ := (g2 ▸ hy).agg_back h5
        obtain ⟨ks, hks⟩ := h3 _ _ rfl rfl
        have := shapeOf_spec (P := P) t
        rw [hks] at this
        exact this.2
    · cases hv
theorem binOpV_sound {b : BinOp} {t : TypeId} {xo yo : Operand} {x y x' y' v : Value} (hx : VRel ρ x x') (hy : VRel ρ y y') (hv : binOpV P b t (isConstO xo || isConstO yo) x y = some v) (w : World) :
    (do eqGuard b t xo yo x' y'; Go.binOp b t x' y' : Sem Value).run P w = .ok v w ∧ lit1 v = true := by
  unfold binOpV at hv
  split at hv
  · rename_i hc
    unfold binNil at hv
    have guard : ∀ b : BinOp, (eqGuard b t xo yo .nilIface .nilIface).run P w = .ok () w := by
      intro b
      unfold eqGuard
      cases b
      case eql | neq =>
        simp only [Bool.not_true, Bool.false_eq_true, if_false]
        cases xo <;> cases yo <;> first | rfl | (simp [isConstO] at hc)
      all_goals rfl
    split at hv
    · rename_i hsh
      cases hv
      obtain rfl := hx.nilIface_inv; obtain rfl := hy.nilIface_inv
      have hs := shapeOf_spec (P := P) t
      rw [hsh] at hs
      obtain ⟨m, hm⟩ := hs
      rw [Sem.run_bind, guard]
      simp only [Result.andThen]
      rw [run_eql (a := .nilIface) trivial]
      unfold Op.equal Op.maxDepth
      rw [(eq_iface 9999 hm 0 (.bool true) w).1]
      exact ⟨rfl, rfl⟩
    · rename_i hsh
      cases hv
      obtain rfl := hx.nilIface_inv; obtain rfl := hy.nilIface_inv
      have hs := shapeOf_spec (P := P) t
      rw [hsh] at hs
      obtain ⟨m, hm⟩ := hs
      rw [Sem.run_bind, guard]
      simp only [Result.andThen]
      rw [run_neq (a := .nilIface) trivial]
      unfold Op.equal Op.maxDepth
      rw [(eq_iface 9999 hm 0 (.bool true) w).1]
      exact ⟨rfl, rfl⟩
    · exact binV_sound hx hy hv w
  · exact binV_sound hx hy hv w

theorem LRel.map {f f' : Operand → Value} (hf : ∀ x, VRel ρ (f x) (f' x)) : ∀ l : List Operand, LRel ρ (l.map f) (l.map f')
  | [] => .nil
  | x :: l => .cons (hf x) (LRel.map hf l)
theorem VRel.mapA {f f' : Operand → Value} (hf : ∀ x, VRel ρ (f x) (f' x)) (a : Array Operand) : LRel ρ (a.map f).toList (a.map f').toList := by
  simpa using LRel.map hf a.toList

theorem back_toArray (l : List Nat) : l.toArray.back? = l.getLast? := by simp
theorem MRel.findBorn {es es' : List MapEntry} (hr : MRel ρ es es') (b : Nat) {e : MapEntry} (h : es.find? (fun e => e.born == b) = some e) : ∃ e', es'.find? (fun e => e.born == b) = some e' ∧ ERel ρ e e' := by
  induction hr with
  | nil => simp at h
  | @cons x x' l l' hh _ ih =>
    by_cases hb : (x.born == b) = true
    · have hb' : (x'.born == b) = true := by rw [← hh.2.1]; exact hb
      simp only [List.find?_cons, hb] at h
      cases h
      exact ⟨x', by simp only [List.find?_cons, hb'], hh⟩
    · have hb' : ¬ (x'.born == b) = true := by rw [← hh.2.1]; exact hb
      simp only [List.find?_cons, eq_false_of_ne_true hb] at h
      obtain ⟨e', h1, h2⟩ := ih h
      exact ⟨e', by simp only [List.find?_cons, eq_false_of_ne_true hb']; exact h1, h2⟩
theorem entryV_sound (H : HRel P B w0 ρ h w) {x x' v : Value} (hx : VRel ρ x x') (hv : entryV x h = some v) : ∃ v', (Instr.entry x').run P w = .ok v' w ∧ VRel ρ v v' := by
  unfold entryV at hv
  split at hv
  · rename_i i
    split at hv
    · rename_i r since seen stepped ho
      split at hv
      · rename_i b es clock hb hm
        split at hv
        · rename_i hc
          have hc := Nat.eq_of_beq_eq_true hc
          subst hc
          have : ∃ e, es.find? (fun e => e.born == b) = some e ∧ lit e.key = true ∧ v = .tuple #[e.key, e.val] := by
            split at hv
            · rename_i e he
              split at hv
              · rename_i hlit; cases hv; exact ⟨e, he, hlit, rfl⟩
              · cases hv
            · cases hv
          obtain ⟨e, he, hlit, rfl⟩ := this
          obtain ⟨li, hli, g1, g2, m', g3, g4⟩ := H.obj _ _ ho
          obtain ⟨lm, hlm, q1, q2, es', q3, q4⟩ := H.obj _ _ hm
          cases m' with
          | none => exact g4.elim
          | some bm =>
            obtain ⟨lr, h5, h6⟩ := g4
            have : lr = lm := by rw [hlm] at h5; exact (Option.some.inj h5).symm
            subst this
            subst h6
            obtain ⟨e', f1, f2⟩ := q4.findBorn b he
            have hkey : e.key = e'.key := f2.1
            cases hx with
            | lit _ e => simp [lit1] at e
            | ptr _ _ l' hl' =>
              have : l' = li := by rw [hli] at hl'; exact (Option.some.inj hl').symm
              subst this
              have hf : es'.find? (fun e => e.born == b) = some e' := by rw [← Array.find?_toList]; exact f1
              refine ⟨.tuple #[e'.key, e'.val], ?_, ?_⟩
              · simp only [Instr.entry, getObj, Sem.run_bind, Sem.run, g3, q3, Result.andThen, back_toArray, hb, bne_self_eq_false, Bool.false_eq_true, if_false, hf]
                rfl
              · refine .tupleL (l := [e.key, e.val]) (.cons ?_ (.cons f2.2.2 .nil))
                rw [← hkey]; exact VRel.of_lit hlit
        · cases hv
      · cases hv
    · cases hv
  · cases hv
theorem opV_sound (H : HRel P B w0 ρ h w) {ev ev' : Operand → Value} (hev : ∀ x, VRel ρ (ev x) (ev' x)) {o : Oper} {v : Value} (hv : opV P o.op ev h = some v) :
    ∃ v', (execOp ev' o).run P w = .ok (.value v') w ∧ VRel ρ v v' := by
  have val : ∀ {s : Sem Value} {u : Value}, s.run P w = .ok u w → (do pure (.value (← s)) : Sem Next).run P w = .ok (.value u) w := by
    intro s u hs
    simp [hs, Result.andThen]
  have lit : ∀ {s : Sem Value} {u : Value}, (s.run P w = .ok u w ∧ lit1 u = true) → ∃ v', (do pure (.value (← s)) : Sem Next).run P w = .ok (.value v') w ∧ VRel ρ u v' :=
    fun hs => ⟨_, val hs.1, .lit _ hs.2⟩
  have up : ∀ {s : Sem Value} {u : Value}, (∃ v', s.run P w = .ok v' w ∧ VRel ρ u v') → ∃ v', (do pure (.value (← s)) : Sem Next).run P w = .ok (.value v') w ∧ VRel ρ u v' :=
    fun ⟨v', h1, h2⟩ => ⟨v', val h1, h2⟩
  obtain ⟨dst, op, type, pos, after, guard⟩ := o
  simp only at hv
  unfold opV at hv
  cases op <;> simp only at hv <;> try (cases hv; done)
  case move x => cases hv; exact ⟨_, rfl, hev x⟩
  case assign x => cases hv; exact ⟨_, rfl, hev x⟩
  case pick c a b =>
    obtain ⟨t, h1, h2⟩ := pickV_sound (P := P) (hev c) (hev a) (hev b) hv w
    exact ⟨if t then ev' a else ev' b, by simp only [execOp, Sem.run_bind, h1, Result.andThen, Sem.run_pure], h2⟩
  case build t parts => exact up (buildOp_sound hev hv w)
  case load t a => exact up (loadOp_sound H (hev a) hv)
  case nilCheck x =>
    obtain ⟨rfl, h2⟩ := nilV_sound (hev x) hv
    refine ⟨ev' x, ?_, hev x⟩
    simp only [execOp]
    generalize ev' x = u at h2
    cases u with
    | pointer a => cases a <;> first | exact h2.elim | rfl
    | func fn a b => cases fn <;> first | exact h2.elim | rfl
    | nilFunc => exact h2.elim
    | nilIface => exact h2.elim
    | _ => rfl
  case binOp b t x y ty => exact lit (binOpV_sound (hev x) (hev y) hv w)
  case unOp u t x => exact lit (unV_sound (hev x) hv w)
  case convert s d x => exact lit (convV_sound H (hev x) hv)
  case makeInterface t x => exact up (ifaceOp_sound (hev x) hv w)
  case makeFunc fn first cap =>
    cases hv
    have h1 := VRel.mapA hev first
    have h2 := VRel.mapA hev cap
    exact ⟨_, rfl, .func _ _ _ _ _ (LRel.size h1) (LRel.size h2) (LRel.array h1) (LRel.array h2)⟩
  case slice t x lo hi mx =>
    cases mx with
    | some m =>
      simp only at hv
      unfold sliceOp3 at hv
      split at hv
      · rename_i e hu
        split at hv
        · rename_i i hi'
          obtain ⟨v', h1, h2⟩ := cutS3_sound hu hi' (hev x) (ORelO.map hev lo) (ORelO.map hev hi) (.some (hev m)) hv w
          exact ⟨v', by simp [execOp, Instr.sliceAt, run_underlying hu, h1, Result.andThen], h2⟩
        · cases hv
      · cases hv
    | none =>
      simp only at hv
      unfold sliceOp at hv
      split at hv
      · rename_i hu
        obtain ⟨v', h1, h2⟩ := cutT_sound hu (hev x) (ORelO.map hev lo) (ORelO.map hev hi) hv w
        exact ⟨v', by simp [execOp, Instr.sliceAt, run_underlying hu, h1, Result.andThen], h2⟩
      · rename_i e hu
        split at hv
        · rename_i i hi'
          obtain ⟨v', h1, h2⟩ := cutS_sound hu hi' (hev x) (ORelO.map hev lo) (ORelO.map hev hi) hv w
          exact ⟨v', by simp [execOp, Instr.sliceAt, run_underlying hu, h1, Result.andThen], h2⟩
        · cases hv
      · rename_i n e hu
        split at hv
        · rename_i i hi'
          unfold cutR at hv
          split at hv
          · rename_i a off hx
            split at hv
            · rename_i cs ho
              split at hv
              · rename_i hroom
                obtain ⟨l, hl, hown, _, arr, ty, fr, hb, hlim, hlen, _⟩ := H.obj _ _ ho
                obtain ⟨v', h1, h2⟩ := cutA_sound hu hi' H (hev x) (ORelO.map hev lo) (ORelO.map hev hi) hroom.2 (fun a' off' l' he hl' => by
                  rw [hx] at he
                  cases he
                  rw [hl] at hl'
                  cases hl'
                  have := (hlim rfl).2
                  omega) hv
                exact ⟨v', by simp [execOp, h1, Result.andThen], h2⟩
              · cases hv
            · rename_i cs ho
              split at hv
              · rename_i hroom
                obtain ⟨l, hl, hown, _⟩ := H.obj _ _ ho
                obtain ⟨v', h1, h2⟩ := cutN_sound hu hi' (hev x) (ORelO.map hev lo) (ORelO.map hev hi) hroom (fun a' off' l' he hl' => by
                  rw [hx] at he
                  cases he
                  rw [hl] at hl'
                  cases hl'
                  exact hown.symm) hv w
                exact ⟨v', by simp [execOp, h1, Result.andThen], h2⟩
              · cases hv
            · cases hv
          · cases hv
        · cases hv
      · cases hv
  case sliceToArrayPointer t x => exact up (arrOp_sound (hev x) hv w)
  case fieldAddr s x f => exact up (fieldAddrOp_sound (hev x) hv w)
  case field s x f => exact up (fieldOp_sound (hev x) hv w)
  case indexAddr t x i => exact up (indexAddrOp_sound (hev x) (hev i) hv w)
  case index t x i => exact up (indexOp_sound (hev x) (hev i) hv w)
  case lookup t m k ok => exact up (lookupOp_sound H (hev m) (hev k) hv)
  case extract x i => exact up (extV_sound (hev x) hv w)
  case typeAssert x s t ok => exact up (assertOp_sound (hev x) hv w)
  case entry x => exact up (entryV_sound H (hev x) hv)
  case call c =>
    unfold callV at hv
    split at hv
    · rename_i b hb
      unfold builtinV at hv
      have hargs := VRel.mapA hev c.args
      have run : ∀ {s : Sem Value} {u : Value}, (∀ cs, Go.builtin b c.argTypes type cs (c.args.map ev') = (do pure (.value (← s)) : Sem Next)) → (s.run P w = .ok u w ∧ lit1 u = true) →
          ∃ v', (execOp ev' ⟨dst, .call c, type, pos, after, guard⟩).run P w = .ok (.value v') w ∧ VRel ρ u v' := by
        intro s u h1 h2
        refine ⟨u, ?_, .lit _ h2.2⟩
        simp only [execOp, resolve, hb, Sem.run_bind, Sem.run_pure, Result.andThen, invoke]
        rw [h1]
        exact val h2.1
      split at hv
      · split at hv
        · rename_i t _ x _ e1 e2
          refine run (s := Builtin.len_ c.argTypes type (c.args.map ev')) (fun _ => rfl) ?_
          have hx : (c.args.map ev')[0]? = (c.args[0]?).map ev' := by simp
          have ht : c.argTypes[0]? = some t := by rw [← Array.getElem?_toList, e1]; rfl
          have hl : (c.args.toList.map ev)[0]? = some x := by rw [e2]; rfl
          simp only [List.getElem?_map, Option.map_eq_some_iff, Array.getElem?_toList] at hl
          obtain ⟨ox, g1, rfl⟩ := hl
          exact lenOp_sound H ht (by rw [hx, g1]; rfl) (hev ox) hv
        · cases hv
      · refine run (s := Builtin.min_ c.argTypes type (c.args.map ev')) (fun _ => rfl) (minV_sound (by simpa using hargs) hv _ _ w)
      · refine run (s := Builtin.max_ c.argTypes type (c.args.map ev')) (fun _ => rfl) (maxV_sound (by simpa using hargs) hv _ _ w)
      · split at hv
        · rename_i t _ x _ e1 e2
          refine run (s := Builtin.cap_ c.argTypes type (c.args.map ev')) (fun _ => rfl) ?_
          have hx : (c.args.map ev')[0]? = (c.args[0]?).map ev' := by simp
          have ht : c.argTypes[0]? = some t := by rw [← Array.getElem?_toList, e1]; rfl
          have hl : (c.args.toList.map ev)[0]? = some x := by rw [e2]; rfl
          simp only [List.getElem?_map, Option.map_eq_some_iff, Array.getElem?_toList] at hl
          obtain ⟨ox, g1, rfl⟩ := hl
          exact capOp_sound ht (by rw [hx, g1]; rfl) (hev ox) hv w
        · cases hv
      · cases hv
    · cases hv
end
end Go.Abs
end
