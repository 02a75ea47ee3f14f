/-
  A part of the proof: L1, L2, L3, L4, L5, L6, L7, L8, L9, L10, L11, L12, L13, L14, L15, L16, L17.
-/
import GoSem.Core.Program
import GoSem.Core.View
import GoSem.Core.Utf8
import GoSem.Core.Layout
import Derived.Orders
import Derived.Below
import Derived.Laws.Sem
import Derived.Laws.World
import Derived.Laws.Cells
import Derived.Laws.CopyRow
import Derived.ChangeKeysEq
import Derived.WideLaws
import Derived.Laws.Slices
import Derived.Laws.BytesString
import Derived.Laws.Tables
section
/-
  LITE 1: a deterministic, fuel-bounded evaluator of Go functions over abstract values. No statement about the model stands here.
-/
namespace Go.Lite
open Go

/-! ### Kinds and data -/
inductive K where
  | int (k : IntKind) | bool | str | unit
  | slice (k : K)
  | array (n : Nat) (k : K)
  | pair (a b : K)
  deriving DecidableEq, Repr, Inhabited

def K.D : K → Type
  | .int _ => Int
  | .bool => Bool
  | .str => ByteArray
  | .unit => Unit
  | .slice k => List k.D
  | .array _ k => List k.D
  | .pair a b => a.D × b.D

def K.zero : (k : K) → k.D
  | .int _ => (0 : Int)
  | .bool => false
  | .str => ByteArray.empty
  | .unit => ()
  | .slice k => ([] : List k.D)
  | .array n k => List.replicate n k.zero
  | .pair a b => (a.zero, b.zero)

def K.sz : K → Nat
  | .unit => 0
  | .array n k => n * k.sz
  | .pair a b => a.sz + b.sz
  | _ => 1

def K.isAgg : K → Bool
  | .unit | .array .. | .pair .. => true
  | _ => false

/-- A value of one kind taken as one of another: the same kind, or none. -/
def K.cast? (k k' : K) (d : k.D) : Option k'.D := if h : k = k' then some (h ▸ d) else none

/-- Equality of data, as Go's '==' on comparable types. -/
def K.beq : (k : K) → k.D → k.D → Bool
  | .int _, (x : Int), (y : Int) => x == y
  | .bool, (x : Bool), (y : Bool) => x == y
  | .str, (x : ByteArray), (y : ByteArray) => x.toList == y.toList
  | .unit, _, _ => true
  | .slice _, _, _ => false
  | .array _ k, (x : List k.D), (y : List k.D) => x.length == y.length && (x.zip y).all fun p => k.beq p.1 p.2
  | .pair a b, (x : a.D × b.D), (y : a.D × b.D) => a.beq x.1 y.1 && b.beq x.2 y.2

/-- Can values of this kind be compared, and be keys. -/
def K.cmp : K → Bool
  | .slice _ => false
  | .array _ k => k.cmp
  | .pair a b => a.cmp && b.cmp
  | _ => true

structure Comp where
  k : K
  d : k.D

/-- The f-th field of a struct. -/
def K.comp1 : (k : K) → k.D → Nat → Option Comp
  | .pair a _, d, 0 => some ⟨a, d.1⟩
  | .pair _ b, d, n + 1 => b.comp1 d.2 n
  | _, _, _ => none

def K.comp : List Nat → (k : K) → k.D → Option Comp
  | [], k, d => some ⟨k, d⟩
  | f :: fs, k, d => match k.comp1 d f with
    | some ⟨k', d'⟩ => K.comp fs k' d'
    | none => none

/-- The kind of the f-th field, and the cells ahead of it. -/
def K.off1 : K → Nat → Option (Nat × K)
  | .pair a _, 0 => some (0, a)
  | .pair a b, n + 1 => match b.off1 n with
    | some (o, k) => some (a.sz + o, k)
    | none => none
  | _, _ => none

def K.set1 : (k : K) → k.D → Nat → Comp → Option k.D
  | .pair a _, d, 0, v => match K.cast? v.k a v.d with
    | some x => some (x, d.2)
    | none => none
  | .pair _ b, d, n + 1, v => match b.set1 d.2 n v with
    | some y => some (d.1, y)
    | none => none
  | _, _, _, _ => none

def K.set : List Nat → (k : K) → k.D → Comp → Option k.D
  | [], k, _, v => K.cast? v.k k v.d
  | f :: fs, k, d, v => match k.comp1 d f with
    | some ⟨k', d'⟩ => match K.set fs k' d' v with
      | some y => k.set1 d f ⟨k', y⟩
      | none => none
    | none => none

/-! ### Abstract values -/
structure Step where
  i : Int
  fs : List Nat
  deriving DecidableEq, Inhabited

inductive AV where
  | undef                                  -- nothing is said
  | skip                                   -- what an operation leaves that was not wanted
  | data (k : K) (d : k.D)
  | lit (k : K) (l : List k.D)             -- a slice literal: its capacity is its length
  | nilS (t : TypeId)                      -- a nil slice of a type
  | nilV (v : Value)                       -- a nil pointer, map, function, interface
  | agg (l : List AV)                      -- a struct or an array, by cells
  | tuple (l : List AV)
  | ptr (r off : Nat)                      -- the address of a cell of a box
  | at (k : K) (d : k.D)                   -- the address of what never changes
  | sl (r ver : Nat) (p : List Step) (off len : Int)      -- a slice over an array of ours
  | el (r ver : Nat) (p : List Step) (i : Int) (fs : List Nat)   -- the address of (a field of) an element
  | fn (f : FuncId) (caps : List AV)
  | mp (r : Nat)
  | it (r : Nat)
  | iface (t : TypeId) (v : AV)

/-- Which rows inside are of our own, too: 'row f': this one is, its elements go by f. -/
inductive Fl where
  | no
  | row (f : Fl)
  | pr (a b : Fl)
  deriving DecidableEq, Inhabited, Repr

inductive Root where
  | box (cells : List AV)
  | arr (fl : Fl) (k : K) (xs : List k.D) (ver : Nat) (hole : Option (List Step))
  | frz (k : K) (xs : List k.D)
  | mp (kk kv : K) (es : List (kk.D × kv.D))
  | it (s : ByteArray) (pos : Nat)

abbrev Heap := Nat → Option Root
abbrev Slots := Nat → AV
def upd {α : Type} (i : Nat) (v : α) (f : Nat → α) : Nat → α := fun j => if j = i then v else f j

structure St where
  slots : Slots
  heap : Heap
  next : Nat

/-! ### Types, hints, the context -/
inductive TD where
  | bool | int (k : IntKind) | string
  | slice (e : TypeId)
  | array (n : Nat) (e : TypeId)
  | struct (fields : List (Nat × TypeId))
  | map (k v : TypeId)
  | ptr (e : TypeId)
  | iface | func | other
  deriving DecidableEq, Inhabited, Repr

structure Ty where
  td : TD
  size : Nat
  bytes : Nat
  kind : Option K

structure Hint where
  own : List Nat := []                     -- parameters that are handed over
  keep : List Nat := []                    -- results that stay the caller's own
  grow : List (TypeId × Fl) := []          -- slice types whose nil and literal slices are rows of our own
  rows : List (TypeId × Fl × K) := []      -- slice types whose nil slices are rows of our own from a cut on
  names : Nat := 0                         -- roots that keep their names at a cut
  pre : List (Nat × List Nat) := []        -- regions ahead of which only these variables are kept
  post : List (Nat × List Nat) := []       -- regions behind which only these variables are kept

structure Cx where
  fn : Nat → Option Func
  ty : Nat → Option Ty
  zero : Nat → Option (List AV)
  eqOk : Nat → Bool
  hint : Nat → Hint
  glob : Nat → Option Comp

/-! ### Small words -/
/-- Both ways of a test; simp looks into neither. -/
def ite' {α : Type} (b : Bool) (x y : Unit → α) : α := match b with
  | true => x ()
  | false => y ()
def chk {α : Type} (b : Bool) (x : Unit → Option α) : Option α := match b with
  | true => x ()
  | false => none

def get? {α : Type} : List α → Nat → Option α
  | [], _ => none
  | a :: _, 0 => some a
  | _ :: l, n + 1 => get? l n

def K.one (k : K) : Bool := !k.isAgg

def flatAll {α : Type} (f : α → List AV) : List α → List AV
  | [] => []
  | d :: l => f d ++ flatAll f l
/-- The cells of a value that lies in memory. -/
def K.flat : (k : K) → k.D → List AV
  | .unit, _ => []
  | .array _ k, (l : List k.D) => flatAll k.flat l
  | .pair a b, d => a.flat d.1 ++ b.flat d.2
  | .int k, d => [.data (.int k) d]
  | .bool, d => [.data .bool d]
  | .str, d => [.data .str d]
  | .slice k, d => [.data (.slice k) d]

def AV.isData : AV → Bool
  | .data .. => true
  | _ => false

def readAll {α : Type} (f : List AV → Option (α × List AV)) : (n : Nat) → List AV → Option (List α × List AV)
  | 0, l => some ([], l)
  | n + 1, l => match f l with
    | some (x, l) => match readAll f n l with
      | some (xs, l) => some (x :: xs, l)
      | none => none
    | none => none
/-- One cell as data of a kind. -/
def cellAs (k : K) : AV → Option k.D
  | .data k' d => K.cast? k' k d
  | .lit k' d => K.cast? (.slice k') k d
  | .nilS _ => match k with
    | .slice k => some ([] : List k.D)
    | _ => none
  | _ => none
def readOne (k : K) : List AV → Option (k.D × List AV)
  | c :: l => match cellAs k c with
    | some x => some (x, l)
    | none => none
  | [] => none
/-- Cells put together to a value of a kind; what is left over. -/
def K.read : (k : K) → List AV → Option (k.D × List AV)
  | .unit, l => some ((), l)
  | .pair a b, l => match a.read l with
    | some (x, l) => match b.read l with
      | some (y, l) => some ((x, y), l)
      | none => none
    | none => none
  | .array n k, l => readAll k.read n l
  | .slice k, l => readOne (.slice k) l
  | .int k, l => readOne (.int k) l
  | .bool, l => readOne .bool l
  | .str, l => readOne .str l

/-! ### Names of roots in values -/
mutual
def AV.ids : AV → List Nat
  | .ptr r _ | .sl r _ _ _ _ | .el r _ _ _ _ | .mp r | .it r => [r]
  | .agg l | .tuple l | .fn _ l => idsAll l
  | .iface _ v => v.ids
  | _ => []
termination_by structural v => v
def idsAll : List AV → List Nat
  | [] => []
  | v :: l => v.ids ++ idsAll l
termination_by structural l => l
end
mutual
/-- New names; what has none is forgotten. -/
def AV.ren (f : Nat → Option Nat) : AV → AV
  | .ptr r o => match f r with | some r => .ptr r o | none => .undef
  | .sl r ver p o n => match f r with | some r => .sl r ver p o n | none => .undef
  | .el r ver p i fs => match f r with | some r => .el r ver p i fs | none => .undef
  | .mp r => match f r with | some r => .mp r | none => .undef
  | .it r => match f r with | some r => .it r | none => .undef
  | .agg l => .agg (renAll f l)
  | .tuple l => .tuple (renAll f l)
  | .fn g l => .fn g (renAll f l)
  | .iface t v => .iface t (v.ren f)
  | v => v
termination_by structural v => v
def renAll (f : Nat → Option Nat) : List AV → List AV
  | [] => []
  | v :: l => v.ren f :: renAll f l
termination_by structural l => l
end
def Root.ids : Root → List Nat
  | .box cells => idsAll cells
  | _ => []
def Root.ren (f : Nat → Option Nat) : Root → Root
  | .box cells => .box (renAll f cells)
  | r => r
/-- What can be come to, each once, in the order in which it is met; none: too much. -/
def reach (H : Heap) : (fuel : Nat) → List Nat → List Nat → Option (List Nat)
  | 0, _, _ => none
  | _ + 1, [], seen => some seen
  | n + 1, r :: todo, seen => match seen.contains r with
    | true => reach H n todo seen
    | false => match H r with
      | some root => reach H n (root.ids ++ todo) (seen ++ [r])
      | none => reach H n todo seen
def pos? : List Nat → Nat → Option Nat
  | [], _ => none
  | a :: l, r => match a == r with
    | true => some 0
    | false => match pos? l r with | some n => some (n + 1) | none => none
def slotsOf : List (Nat × AV) → Slots
  | [] => fun _ => .undef
  | (t, v) :: l => upd t v (slotsOf l)
def heapFrom : Nat → List (Option Root) → Heap
  | _, [] => fun _ => none
  | n, r :: l => upd n r (heapFrom (n + 1) l)
def argsFrom : Nat → List AV → Slots
  | _, [] => fun _ => .undef
  | n, r :: l => upd n r (argsFrom (n + 1) l)
def mapAll {α β : Type} (f : α → Option β) : List α → Option (List β)
  | [] => some []
  | a :: l => match f a with
    | some b => match mapAll f l with
      | some bs => some (b :: bs)
      | none => none
    | none => none
def REACH : Nat := 4000
/-! ### Rows -/
structure Rw where
  k : K
  xs : List k.D
def getP : List Step → (k : K) → List k.D → Option Rw
  | [], k, xs => some ⟨k, xs⟩
  | s :: p, k, xs => match K.comp s.fs k (xs.getD s.i.toNat k.zero) with
    | some ⟨.slice k', d⟩ => getP p k' d
    | _ => none
def setP : List Step → (k : K) → List k.D → Rw → Option (List k.D)
  | [], k, _, r => K.cast? (.slice r.k) (.slice k) r.xs
  | s :: p, k, xs, r => match K.comp s.fs k (xs.getD s.i.toNat k.zero) with
    | some ⟨.slice k', d⟩ => match setP p k' d r with
      | some d' => match K.set s.fs k (xs.getD s.i.toNat k.zero) ⟨.slice k', d'⟩ with
        | some x => some (xs.set s.i.toNat x)
        | none => none
      | none => none
    | _ => none
def Fl.comp1 : Fl → Nat → Fl
  | .pr a _, 0 => a
  | .pr _ b, n + 1 => b.comp1 n
  | _, _ => .no
def Fl.comp : List Nat → Fl → Fl
  | [], f => f
  | n :: fs, f => Fl.comp fs (f.comp1 n)
/-- The flags of the elements of the row at the end of a path, all of whose rows are of our own. -/
def Fl.path : Fl → List Step → Option Fl
  | f, [] => some f
  | f, s :: p => match Fl.comp s.fs f with
    | .row g => g.path p
    | _ => none
structure View where
  fl : Fl
  row : Rw
  own : Bool
/-- The row that is meant by a root and a path. -/
def view (H : Heap) (r ver : Nat) (p : List Step) : Option View := match H r with
  | some (.arr fl k xs ver' none) => match p.isEmpty || ver == ver' with
    | true => match fl.path p, getP p k xs with
      | some f, some row => some ⟨f, row, true⟩
      | _, _ => none
    | false => none
  | some (.frz k xs) => match p with
    | [] => some ⟨.no, ⟨k, xs⟩, false⟩
    | _ => none
  | _ => none
def Rw.cut (r : Rw) (off len : Int) : Rw := ⟨r.k, (r.xs.drop off.toNat).take len.toNat⟩
/-- What a slice holds, as data. -/
def content (cx : Cx) (H : Heap) : AV → Option Rw
  | .data (.slice k) d => some ⟨k, d⟩
  | .lit k l => some ⟨k, l⟩
  | .sl r ver p off len => match view H r ver p with
    | some v => some (v.row.cut off len)
    | none => none
  | .nilS t => match cx.ty t with
    | some { td := .slice e, .. } => match cx.ty e with
      | some { kind := some k, .. } => some ⟨k, []⟩
      | _ => none
    | _ => none
  | _ => none
/-- A value as data, its slices as they now read. -/
def AV.lend (cx : Cx) (H : Heap) (v : AV) : AV := match v with
  | .sl .. => match content cx H v with
    | some r => .data (.slice r.k) r.xs
    | none => v
  | v => v
def asData (cx : Cx) (H : Heap) (k : K) : AV → Option k.D
  | .data k' d => K.cast? k' k d
  | .agg l => match k.isAgg, k.read (l.map (AV.lend cx H)) with
    | true, some (d, []) => some d
    | _, _ => none
  | v => match k.isAgg, k.read [v.lend cx H] with
    | false, some (d, []) => some d
    | _, _ => none
def freeze (H : Heap) : List Nat → Heap
  | [] => H
  | r :: l => match H r with
    | some (.arr _ k xs _ none) => freeze (upd r (some (.frz k xs)) H) l
    | _ => freeze H l
def K.flatRows : K → Bool       -- no slice inside
  | .slice _ => false
  | .array _ k => k.flatRows
  | .pair a b => a.flatRows && b.flatRows
  | _ => true
/-- A value made an element with these flags; what it held of ours is frozen, or becomes a part. -/
def absorb (cx : Cx) (H : Heap) : (fl : Fl) → (k : K) → AV → Option (k.D × Heap)
  | .row f, .slice k, .sl r _ [] off len => match H r with
    | some (.arr f' k' xs _ none) => match f == f' && off == 0 && len == xs.length with
      | true => match K.cast? (.slice k') (.slice k) xs with
        | some d => some (d, upd r none H)
        | none => none
      | false => none
    | _ => none
  | .row _, .slice k, .nilS _ => some (([] : List k.D), H)
  | .no, k, v => match asData cx H k v with
    | some d => some (d, match k.flatRows with | true => H | false => freeze H v.ids)
    | none => none
  | _, _, _ => none
end Go.Lite
end

section
/-
  LITE 2: operations, code and functions.
-/
set_option linter.unusedVariables false
namespace Go.Lite
open Go

def intV (k : IntKind) (n : Int) : AV := .data (.int k) n
def boolV (b : Bool) : AV := .data .bool b

def constAV : Value → Option AV
  | .int k n => some (intV k n)
  | .bool b => some (boolV b)
  | .string s => some (.data .str s)
  | .pointer none => some (.nilV (.pointer none))
  | .map none => some (.nilV (.map none))
  | .nilFunc => some (.nilV .nilFunc)
  | .nilIface => some (.nilV .nilIface)
  | .slice none 0 0 => some (.nilS 0)
  | _ => none

def operand (cx : Cx) (s : Slots) : Operand → Option AV
  | .tmp t => some (s t)
  | .const v => constAV v
  | .func f => some (.fn f [])
  | .global g => match cx.glob g with
    | some c => some (.at c.k c.d)
    | none => none

def bitsInt (op : BinOp) (k : IntKind) (x y : Int) : Int :=
  let a := BitVec.ofInt k.bits x
  let b := BitVec.ofInt k.bits y
  k.wrap (match op with
    | .and => (a &&& b).toNat
    | .or => (a ||| b).toNat
    | .xor => (a ^^^ b).toNat
    | _ => (a &&& ~~~b).toNat)

def intBin (op : BinOp) (k : IntKind) (x y : Int) : Option AV := match op with
  | .add => some (intV k (k.wrap (x + y)))
  | .sub => some (intV k (k.wrap (x - y)))
  | .mul => some (intV k (k.wrap (x * y)))
  | .quo => chk (!(y == 0)) fun _ => some (intV k (k.wrap (x.tdiv y)))
  | .rem => chk (!(y == 0)) fun _ => some (intV k (x.tmod y))
  | .and | .or | .xor | .andNot => some (intV k (bitsInt op k x y))
  | .eql => some (boolV (x == y))
  | .neq => some (boolV (x != y))
  | .lss => some (boolV (decide (x < y)))
  | .leq => some (boolV (decide (x ≤ y)))
  | .gtr => some (boolV (decide (x > y)))
  | .geq => some (boolV (decide (x ≥ y)))
  | _ => none

def shiftInt (op : BinOp) (k : IntKind) (x y : Int) : Option AV :=
  chk (decide (0 ≤ y)) fun _ => match op with
    | .shl => some (intV k (k.wrap (x * 2 ^ min y.toNat k.bits)))
    | .shr => some (intV k (x.fdiv (2 ^ min y.toNat k.bits)))
    | _ => none

def bytesLess : List UInt8 → List UInt8 → Bool
  | _, [] => false
  | [], _ :: _ => true
  | a :: x, b :: y => a < b || (a == b && bytesLess x y)

def strBin (op : BinOp) (x y : ByteArray) : Option AV := match op with
  | .add => chk (decide (x.size + y.size ≤ 1073741824)) fun _ => some (.data .str (x ++ y))
  | .eql => some (boolV (x.toList == y.toList))
  | .neq => some (boolV (!(x.toList == y.toList)))
  | .lss => some (boolV (bytesLess x.toList y.toList))
  | .leq => some (boolV (bytesLess x.toList y.toList || x.toList == y.toList))
  | .gtr => some (boolV (!(bytesLess x.toList y.toList || x.toList == y.toList)))
  | .geq => some (boolV (!bytesLess x.toList y.toList))
  | _ => none

def kindAt (cx : Cx) (t : TypeId) : Option K := (cx.ty t).bind Ty.kind
def tdAt (cx : Cx) (t : TypeId) : Option TD := (cx.ty t).map Ty.td
def isPtrT (cx : Cx) (t : TypeId) : Bool := match tdAt cx t with | some (.ptr _) => true | _ => false
def isSliceT (cx : Cx) (t : TypeId) : Bool := match tdAt cx t with | some (.slice _) => true | _ => false
def isMapT (cx : Cx) (t : TypeId) : Bool := match tdAt cx t with | some (.map _ _) => true | _ => false
def isIfaceT (cx : Cx) (t : TypeId) : Bool := match tdAt cx t with | some .iface => true | _ => false
def isFuncT (cx : Cx) (t : TypeId) : Bool := match tdAt cx t with | some .func => true | _ => false
/-- A slice that surely is not nil. -/
def someS : AV → Bool
  | .data (.slice _) (l : List _) => !l.isEmpty
  | .lit _ l => !l.isEmpty
  | .sl _ _ _ _ n => decide (0 < n)
  | _ => false
/-- '==' between values one of which may be nil. -/
def eqNil (cx : Cx) (t : TypeId) : AV → AV → Option Bool
  | .nilV (.pointer none), .nilV (.pointer none) => chk (isPtrT cx t) fun _ => some true
  | .nilV (.pointer none), .ptr .. | .ptr .., .nilV (.pointer none) => chk (isPtrT cx t) fun _ => some false
  | .nilV (.pointer none), .at .. | .at .., .nilV (.pointer none) => chk (isPtrT cx t) fun _ => some false
  | .nilV .nilFunc, .fn .. | .fn .., .nilV .nilFunc => chk (isFuncT cx t) fun _ => some false
  | .nilV .nilFunc, .nilV .nilFunc => chk (isFuncT cx t) fun _ => some true
  | .nilV .nilIface, .iface .. | .iface .., .nilV .nilIface => chk (isIfaceT cx t) fun _ => some false
  | .nilS _, .nilS _ => chk (isSliceT cx t) fun _ => some true
  | .nilS _, v | v, .nilS _ => chk (isSliceT cx t && someS v) fun _ => some false
  | _, _ => none

/-- The kinds whose equality is told: so far those of one cell. -/
def eqKind (cx : Cx) (t : TypeId) (k : K) : Bool := match k with
  | .bool => kindAt cx t == some .bool
  | _ => false
def keyKind : K → Bool
  | .int _ | .bool | .str => true
  | _ => false
def binOp (cx : Cx) (op : BinOp) (t : TypeId) (x y : AV) : Option AV := match x, y with
  | .data (.int k) a, .data (.int k') b => match op with
    | .shl | .shr => shiftInt op k a b
    | _ => match decide (k = k') with
      | true => intBin op k a b
      | false => none
  | .data .str a, .data .str b => strBin op a b
  | .data k a, .data k' b => match eqKind cx t k, K.cast? k' k b with
    | true, some b => match op with
      | .eql => some (boolV (k.beq a b))
      | .neq => some (boolV (!k.beq a b))
      | _ => none
    | _, _ => none
  | _, _ => match op with
    | .eql => (eqNil cx t x y).map boolV
    | .neq => (eqNil cx t x y).map fun b => boolV (!b)
    | _ => none

def unOp (op : UnOp) (x : AV) : Option AV := match op, x with
  | .neg, .data (.int k) (n : Int) => some (intV k (k.wrap (0 - n)))
  | .xor, .data (.int k) (n : Int) => some (intV k (bitsInt .xor k (if k.signed then -1 else k.max) n))
  | .not, .data .bool b => some (boolV (!b))
  | _, _ => none

def bytesOf (s : ByteArray) : List Int := s.toList.map fun b => (b.toNat : Int)
def strOf (l : List Int) : ByteArray := ⟨(l.map fun n => UInt8.ofNat n.toNat).toArray⟩

def convert (cx : Cx) (H : Heap) (src dst : TypeId) (x : AV) : Option AV :=
  match (cx.ty src).map Ty.td, (cx.ty dst).map Ty.td with
  | some (.int _), some (.int k) => match x with
    | .data (.int _) n => some (intV k (k.wrap n))
    | _ => none
  | some .string, some .string => match x with
    | .data .str s => some (.data .str s)
    | _ => none
  | some (.slice e), some .string => match content cx H x, kindAt cx e == some (.int .u8) with
    | some ⟨.int .u8, l⟩, true => some (.data .str (strOf l))
    | _, _ => none
  | _, _ => none

def plainNil : Value → Bool
  | .pointer none | .map none | .nilFunc | .nilIface => true
  | _ => false
/-- A value of one cell. -/
def oneAV : AV → Bool
  | .data k _ => !k.isAgg
  | .agg _ | .tuple _ | .undef | .skip => false
  | .nilV u => plainNil u
  | _ => true
/-- A value that fills a variable: its cells. -/
def cellsOf : AV → Option (List AV)
  | .data k d => some (match k.isAgg with | true => k.flat d | false => [.data k d])
  | .agg l => match l.all oneAV with | true => some l | false => none
  | .tuple _ => none
  | .undef => none
  | .skip => none
  | .nilV u => match plainNil u with | true => some [.nilV u] | false => none
  | v => some [v]

def oneCell : List AV → Option AV
  | [c] => some c
  | _ => none
def aggCells (kind : Option K) (cells : List AV) : Option AV := match kind, cells.all AV.isData with
  | some k, true => match k.read cells with
    | some (d, []) => some (.data k d)
    | _ => none
  | _, _ => some (.agg cells)
def assemble (i : Ty) (cells : List AV) : Option AV :=
  match i.td with
  | .struct _ | .array .. => aggCells i.kind cells
  | _ => oneCell cells

def setCells (l : List AV) (off : Nat) (new : List AV) : List AV := l.take off ++ new ++ l.drop (off + new.length)

/-- The cells ahead of what a field path leads to, and its kind. -/
def offs : List Nat → K → Option (Nat × K)
  | [], k => some (0, k)
  | f :: fs, k => match k.off1 f with
    | some (o, k') => match offs fs k' with
      | some (o', k'') => some (o + o', k'')
      | none => none
    | none => none
/-- The kind of the elements of the row at the end of a path. -/
def pathKind : K → List Step → Option K
  | k, [] => some k
  | k, s :: p => match offs s.fs k with
    | some (_, .slice k') => pathKind k' p
    | _ => none
def rowKind (H : Heap) (r : Nat) (p : List Step) : Option K := match H r with
  | some (.arr _ k _ _ _) => pathKind k p
  | _ => none

/-- The cells of an element (from field n on, where 'top' isn't set), where some of its rows are our own. -/
def openCells (mkRow : List Nat → Nat → AV) : (fs : List Nat) → (n : Nat) → Fl → (k : K) → k.D → Option (List AV)
  | fs, 0, .row _, .slice _, (l : List _) => some [mkRow fs l.length]
  | fs, n, .pr a b, .pair ka kb, d => match openCells mkRow (fs ++ [n]) 0 a ka d.1, openCells mkRow fs (n + 1) b kb d.2 with
    | some c, some l => some (c ++ l)
    | _, _ => none
  | _, _, .no, k, d => some (k.flat d)
  | _, _, _, _, _ => none
def openEl (r ver : Nat) (p : List Step) (i : Int) (fs : List Nat) : Fl → (k : K) → k.D → Option AV
  | .row _, .slice _, (l : List _) => some (.sl r ver (p ++ [⟨i, fs⟩]) 0 l.length)
  | .no, k, d => some (.data k d)
  | f, k, d => match openCells (fun fs n => .sl r ver (p ++ [⟨i, fs⟩]) 0 n) fs 0 f k d with
    | some l => some (.agg l)
    | none => none

def verOf (H : Heap) (r ver : Nat) : Nat := match H r with
  | some (.arr _ _ _ ver' _) => ver'
  | _ => ver
def load (cx : Cx) (H : Heap) (t : TypeId) (a : AV) : Option AV := match a with
  | .at k d => match kindAt cx t == some k with
    | true => some (.data k d)
    | false => none
  | .ptr r off => match H r, cx.ty t with
    | some (.box cells), some i => match decide (off + i.size ≤ cells.length) with
      | true => assemble i ((cells.drop off).take i.size)
      | false => none
    | _, _ => none
  | .el r ver p i fs => match view H r ver p with
    | some v => match K.comp fs v.row.k (v.row.xs.getD i.toNat v.row.k.zero) with
      | some c => match kindAt cx t == some c.k with
        | true => openEl r (verOf H r ver) p i fs (Fl.comp fs v.fl) c.k c.d
        | false => none
      | none => none
    | none => none
  | _ => none

def holeOk (hole : Option (List Step)) (q : List Step) : Bool := match hole with
  | none => true
  | some h => h == q
def verNext (hole : Option (List Step)) (k : K) (ver : Nat) : Nat := match hole, k.flatRows with
  | none, true => ver
  | _, _ => ver + 1
/-- A store into an element of a row of our own. -/
def storeEl (cx : Cx) (H : Heap) (t : TypeId) (r : Nat) (p : List Step) (i : Int) (fs : List Nat) (x : AV) (fl : Fl) (k : K) (xs : List k.D) (ver : Nat) (hole : Option (List Step)) : Option Heap :=
  match fl.path p, getP p k xs with
  | some f, some row => match K.comp fs row.k (row.xs.getD i.toNat row.k.zero) with
    | some c => match kindAt cx t == some c.k && holeOk hole (p ++ [⟨i, fs⟩]) with
      | true => match absorb cx H (Fl.comp fs f) c.k x with
        | some (d, H') => match K.set fs row.k (row.xs.getD i.toNat row.k.zero) ⟨c.k, d⟩ with
          | some y => match setP p k xs ⟨row.k, row.xs.set i.toNat y⟩, H' r with
            | some xs', some (.arr ..) => some (upd r (some (.arr fl k xs' (verNext hole c.k ver) none)) H')
            | _, _ => none
          | none => none
        | none => none
      | false => none
    | none => none
  | _, _ => none
def store (cx : Cx) (H : Heap) (t : TypeId) (a x : AV) : Option Heap := match a with
  | .ptr r off => match H r, cx.ty t, cellsOf x with
    | some (.box cells), some i, some cs => match cs.length == i.size && decide (off + i.size ≤ cells.length) with
      | true => some (upd r (some (.box (setCells cells off cs))) H)
      | false => none
    | _, _, _ => none
  | .el r ver p i fs => match H r with
    | some (.arr fl k xs ver' hole) => match ver == ver' with
      | false => none
      | true => storeEl cx H t r p i fs x fl k xs ver hole
    | _ => none
  | _ => none

def growFl (h : Hint) (t : TypeId) : Option Fl := (h.grow.find? fun p => p.1 == t).map (·.2)
def elemKind (cx : Cx) (t : TypeId) : Option (TypeId × Ty × K) := match cx.ty t with
  | some { td := .slice e, .. } => match cx.ty e with
    | some i => match i.kind with
      | some k => some (e, i, k)
      | none => none
    | none => none
  | _ => none
def LIM : Nat := 1073741824

/-- A nil slice of a type that grows is a row of our own. -/
def nilOf (cx : Cx) (h : Hint) (H : Heap) (t : TypeId) (nid : Nat) : Option (AV × Heap) := match growFl h t with
  | none => some (.nilS t, H)
  | some fl => match elemKind cx t with
    | some (_, _, k) => some (.sl nid 0 [] 0 0, upd nid (some (.arr fl k [] 0 none)) H)
    | none => none

def absorbAll (cx : Cx) (fl : Fl) (k : K) : Heap → List AV → Option (List k.D × Heap)
  | H, [] => some ([], H)
  | H, v :: l => match absorb cx H fl k v with
    | some (d, H) => match absorbAll cx fl k H l with
      | some (ds, H) => some (d :: ds, H)
      | none => none
    | none => none

/-- What is appended: elements, and what becomes of the heap. -/
def added (cx : Cx) (H : Heap) (fl : Fl) (k : K) (x : AV) : Option (List k.D × Heap) := match x with
  | .data .str s => match fl, K.cast? (.slice (.int .u8)) (.slice k) (bytesOf s) with
    | .no, some l => some (l, H)
    | _, _ => none
  | v => match fl with
    | .no => match content cx H v with
      | some r => match K.cast? (.slice r.k) (.slice k) r.xs with
        | some l => some (l, match k.flatRows with | true => H | false => freeze H v.ids)
        | none => none
      | none => none
    | fl => match v with      -- elements whose rows are our own: the whole of another such row
      | .sl r _ [] off len => match H r with
        | some (.arr f' k' xs _ none) => match f' == fl && off == 0 && len == xs.length with
          | true => match K.cast? (.slice k') (.slice k) xs with
            | some d => some (d, upd r none H)
            | none => none
          | false => none
        | _ => none
      | .nilS _ => some ([], H)
      | _ => none

/-- What an append leaves of its base. -/
def left (fl : Fl) (k : K) (xs : List k.D) (ver : Nat) : List Step → Option Root
  | [] => none
  | p => some (.arr fl k xs ver (some p))
/-- The row after an append, as a new root. -/
def appPut (i : Ty) (k : K) (nid : Nat) (fl : Fl) (old new : List k.D) (H : Heap) : Option (AV × Heap) :=
  chk (decide ((old.length + new.length) * i.bytes ≤ LIM) && decide (old.length + new.length ≤ LIM)) fun _ =>
    some (.sl nid 0 [] 0 ((old ++ new).length : Nat), upd nid (some (.arr fl k (old ++ new) 0 none)) H)
def append (cx : Cx) (h : Hint) (H : Heap) (t : TypeId) (base x : AV) (nid : Nat) : Option (AV × Heap) :=
  match elemKind cx t with
  | none => none
  | some (_, i, k) => match base with
    | .nilS _ => match added cx H ((growFl h t).getD .no) k x with
      | some ([], _) => some (.nilS t, H)
      | some (new, H1) => appPut i k nid ((growFl h t).getD .no) [] new H1
      | none => none
    | .lit k' l => match K.cast? (.slice k') (.slice k) l with
      | some l => match added cx H .no k x with
        | some ([], _) => some (.lit k l, H)
        | some (new, H1) => appPut i k nid .no l new H1
        | none => none
      | none => none
    | .sl r ver p off len => match H r, view H r ver p with
      | some (.arr fl0 k0 xs0 ver0 none), some v => match K.cast? (.slice v.row.k) (.slice k) v.row.xs with
        | some ys => match added cx H v.fl k x with
          | some (new, H1) => match H1 r with
            | some (.arr ..) => match appPut i k nid v.fl ((ys.drop off.toNat).take len.toNat) new H1 with
              | some (a, H2) => some (a, upd r (left fl0 k0 xs0 ver0 p) H2)
              | none => none
            | _ => none
          | none => none
        | none => none
      | _, _ => none
    | _ => none

/-- What is appended goes by its type: a string, or a slice. -/
def srcOk : TD → AV → Bool
  | .string, .data .str _ => true
  | .slice _, .data .str _ => false
  | .slice _, _ => true
  | _, _ => false

def makeSlice (cx : Cx) (h : Hint) (H : Heap) (t : TypeId) (len cap : AV) (nid : Nat) : Option (AV × Heap) :=
  match elemKind cx t, len, cap with
  | some (_, i, k), .data (.int _) (n : Int), .data (.int _) (c : Int) =>
    chk (decide (0 ≤ n) && decide (n ≤ c) && decide (c ≤ LIM) && decide (c * i.bytes ≤ LIM) && ((growFl h t).getD .no == .no)) fun _ =>
      some (.sl nid 0 [] 0 n, upd nid (some (.arr .no k (List.replicate n.toNat k.zero) 0 none)) H)
  | _, _, _ => none

def asInt : AV → Option Int
  | .data (.int _) (n : Int) => some n
  | _ => none

def within (lo hi n : Int) : Bool := decide (0 ≤ lo) && decide (lo ≤ hi) && decide (hi ≤ n)

def lowOf : Option AV → Option Int
  | none => some 0
  | some v => asInt v
def highOf (n : Int) : Option AV → Option Int
  | none => some n
  | some v => asInt v
/-- What '[lo:hi:max]' cuts; a cut with a capacity of its own, of what isn't ours, is as a literal. -/
def cut (cx : Cx) (H : Heap) (t : TypeId) (x : AV) (lo hi mx : Option AV) : Option AV :=
  match x with
  | .data .str s => match lowOf lo, highOf s.size hi, mx with
    | some l, some h, none => chk (within l h s.size && tdAt cx t == some .string) fun _ => some (.data .str (s.extract l.toNat h.toNat))
    | _, _, _ => none
  | .nilS u => match lowOf lo, highOf 0 hi, mx with
    | some l, some h, none => chk (l == 0 && h == 0 && (elemKind cx t).isSome) fun _ => some (.nilS u)
    | _, _, _ => none
  | .data (.slice k) d => match lowOf lo, highOf ((d : List k.D).length : Nat) hi, mx with
    | some l, some h, none => chk (within l h (d : List k.D).length && kindAt cx t == some (.slice k)) fun _ => some (.data (.slice k) ((List.drop l.toNat (d : List k.D)).take (h - l).toNat))
    | some l, some h, some m => match hi, asInt m with
      | some _, some m => chk (within l h (d : List k.D).length && m == h && kindAt cx t == some (.slice k)) fun _ => some (.lit k ((List.drop l.toNat (d : List k.D)).take (h - l).toNat))
      | _, _ => none
    | _, _, _ => none
  | .sl r ver p off len => match lowOf lo, highOf len hi, view H r ver p, mx with
    | some l, some h, some v, none => chk (within l h len && (kindAt cx t == some (.slice v.row.k))) fun _ => some (.sl r ver p (off + l) (h - l))
    | _, _, _, _ => none
  | _ => none

def indexAddr (cx : Cx) (H : Heap) (t : TypeId) (x i : AV) : Option AV := match x, asInt i with
  | .data (.slice k) d, some i => chk (kindAt cx t == some (.slice k) && decide (0 ≤ i) && decide (i < ((d : List k.D).length : Nat))) fun _ => some (.at k ((d : List k.D).getD i.toNat k.zero))
  | .lit k d, some i => chk (kindAt cx t == some (.slice k) && decide (0 ≤ i) && decide (i < (d.length : Nat))) fun _ => some (.at k (d.getD i.toNat k.zero))
  | .at (.array n k) d, some i => chk (kindAt cx t == some (.array n k) && decide (0 ≤ i) && decide (i < (n : Nat)) && decide (2 ≤ n)) fun _ => some (.at k ((d : List k.D).getD i.toNat k.zero))
  | .sl r ver p off len, some i => match H r with
    | some (.frz k xs) => match p with
      | [] => chk (kindAt cx t == some (.slice k) && decide (0 ≤ i) && decide (i < len)) fun _ => some (.at k (xs.getD (off + i).toNat k.zero))
      | _ => none
    | some (.arr _ _ _ ver' _) => match p.isEmpty || ver == ver', rowKind H r p with
      | true, some k => chk (kindAt cx t == some (.slice k) && decide (0 ≤ i) && decide (i < len)) fun _ => some (.el r ver' p (off + i) [])
      | _, _ => none
    | _ => none
  | .ptr r off, some i => match tdAt cx t with
    | some (.array n e) => match cx.ty e with
      | some ie => chk (decide (0 ≤ i) && decide (i < (n : Int))) fun _ => some (.ptr r (off + i.toNat * ie.size))
      | none => none
    | _ => none
  | _, _ => none

/-- The place of a field, if the type's own fields lie as the kind's. -/
def fieldOf (cx : Cx) (t : TypeId) (f : Nat) : Option (Nat × Ty) := match (cx.ty t).map Ty.td with
  | some (.struct fs) => match get? fs f with
    | some (o, ft) => match cx.ty ft with
      | some i => match i.size with
        | 0 => none
        | _ + 1 => some (o, i)
      | none => none
    | none => none
  | _ => none
def fieldAddr (cx : Cx) (H : Heap) (t : TypeId) (x : AV) (f : Nat) : Option AV := match fieldOf cx t f with
  | none => none
  | some (o, _) => match x with
    | .ptr r off => some (.ptr r (off + o))
    | .at k d => match k.comp1 d f, k.off1 f with
      | some c, some (o', _) => match o == o' with
        | true => some (.at c.k c.d)
        | false => none
      | _, _ => none
    | .el r ver p i fs => match rowKind H r p with
      | some k => match offs fs k with
        | some (_, k') => match k'.off1 f with
          | some (o', _) => match o == o' with
            | true => some (.el r ver p i (fs ++ [f]))
            | false => none
          | none => none
        | none => none
      | none => none
    | _ => none

def field (cx : Cx) (t : TypeId) (x : AV) (f : Nat) : Option AV := match x with
  | .data k d => match (cx.ty t).bind Ty.kind == some k with
    | true => match k.comp1 d f with
      | some c => some (.data c.k c.d)
      | none => none
    | false => none
  | .agg l => match (cx.ty t).map Ty.td with
    | some (.struct fs) => match get? fs f with
      | some (o, ft) => match cx.ty ft with
        | some i => assemble i ((l.drop o).take i.size)
        | none => none
      | none => none
    | _ => none
  | _ => none

def index (cx : Cx) (t : TypeId) (x i : AV) : Option AV := match x, asInt i with
  | .data .str s, some i => chk ((tdAt cx t == some .string) && decide (0 ≤ i) && decide (i < (s.size : Nat))) fun _ => some (intV .u8 ((s.data.toList.getD i.toNat 0).toNat : Nat))
  | .data (.array n k) d, some i => chk (kindAt cx t == some (.array n k) && decide (0 ≤ i) && decide (i < (n : Nat))) fun _ => some (.data k ((d : List k.D).getD i.toNat k.zero))
  | _, _ => none

def fillParts (place : Nat → Option (Nat × Nat)) : List AV → List (Nat × AV) → Option (List AV)
  | z, [] => some z
  | z, (n, v) :: l => match place n, cellsOf v with
    | some (o, sz), some cs => match cs.length == sz && decide (o + cs.length ≤ z.length) with
      | true => fillParts place (setCells z o cs) l
      | false => none
    | _, _ => none
def placesOf (cx : Cx) : List (Nat × TypeId) → Option (List (Nat × Nat))
  | [] => some []
  | (o, t) :: l => match cx.ty t, placesOf cx l with
    | some i, some r => some ((o, i.size) :: r)
    | _, _ => none
/-- A struct or array literal: its fields' cells over zero's. -/
def build (cx : Cx) (t : TypeId) (parts : List (Nat × AV)) : Option AV :=
  match cx.ty t, cx.zero t with
  | some i, some z => match i.td with
    | .struct fs => match placesOf cx fs with
      | some pl => match fillParts (get? pl) z parts with
        | some cs => assemble i cs
        | none => none
      | none => none
    | .array _ e => match cx.ty e with
      | some j => match fillParts (fun n => some (n * j.size, j.size)) z parts with
        | some cs => assemble i cs
        | none => none
      | none => none
    | _ => none
  | _, _ => none

def lookupK (kk kv : K) (key : kk.D) : List (kk.D × kv.D) → Option kv.D
  | [] => none
  | e :: es => match kk.beq key e.1 with
    | true => some e.2
    | false => lookupK kk kv key es
def insertK (kk kv : K) (key : kk.D) (v : kv.D) : List (kk.D × kv.D) → List (kk.D × kv.D)
  | [] => [(key, v)]
  | e :: es => match kk.beq key e.1 with
    | true => (key, v) :: es
    | false => e :: insertK kk kv key v es

def mapKinds (cx : Cx) (t : TypeId) (kk kv : K) : Bool := match tdAt cx t with
  | some (.map a b) => kindAt cx a == some kk && kindAt cx b == some kv && keyKind kk
  | _ => false
def lookRes (ok : Bool) (kv : K) (x : kv.D) (there : Bool) : AV := match ok with
  | true => .tuple [.data kv x, boolV there]
  | false => .data kv x
def lookup (cx : Cx) (H : Heap) (t : TypeId) (m key : AV) (ok : Bool) : Option AV := match m with
  | .mp r => match H r with
    | some (.mp kk kv es) => match asData cx H kk key, mapKinds cx t kk kv with
      | some k, true =>
        some (lookRes ok kv ((lookupK kk kv k es).getD kv.zero) (lookupK kk kv k es).isSome)
      | _, _ => none
    | _ => none
  | _ => none

def mapUpdate (cx : Cx) (H : Heap) (t : TypeId) (m key v : AV) : Option Heap := match m with
  | .mp r => match H r with
    | some (.mp kk kv es) => match asData cx H kk key, asData cx H kv v with
      | some k, some v => match keyKind kk && kv.flatRows && mapKinds cx t kk kv with
        | true => some (upd r (some (.mp kk kv (insertK kk kv k v es))) H)
        | false => none
      | _, _ => none
    | _ => none
  | _ => none

def lenOf (cx : Cx) (H : Heap) (t : TypeId) : AV → Option Int
  | .data .str s => chk (tdAt cx t == some .string) fun _ => some s.size
  | .data (.slice _) (l : List _) => chk (isSliceT cx t) fun _ => some l.length
  | .lit _ l => chk (isSliceT cx t) fun _ => some l.length
  | .nilS _ => chk (isSliceT cx t) fun _ => some 0
  | .nilV (.map none) => chk (isMapT cx t) fun _ => some 0
  | .sl _ _ _ _ n => chk (isSliceT cx t) fun _ => some n
  | .mp r => match H r with
    | some (.mp _ _ es) => chk (isMapT cx t) fun _ => some es.length
    | _ => none
  | _ => none

def copyInto (cx : Cx) (H : Heap) (t : TypeId) (dst src : AV) : Option (AV × Heap) := match dst with
  | .sl r ver p off len => match H r, view H r ver p, content cx H src with
    | some (.arr fl0 k0 xs0 ver0 none), some v, some s => match v.fl, K.cast? (.slice s.k) (.slice v.row.k) s.xs with
      | .no, some l =>
        let l := l.take len.toNat
        match kindAt cx t == some (.slice v.row.k) with
        | false => none
        | true => match setP p k0 xs0 ⟨v.row.k, v.row.xs.take off.toNat ++ l ++ v.row.xs.drop (off.toNat + l.length)⟩, v.row.k.flatRows with
        | some xs, true => some (intV .i64 (l.length : Nat), upd r (some (.arr fl0 k0 xs ver0 none)) H)
        | _, _ => none
      | _, _ => none
    | _, _, _ => none
  | _ => none

def minmax (mx : Bool) : AV → List AV → Option AV
  | x, [] => some x
  | .data (.int k) (x : Int), .data (.int _) (y : Int) :: l => minmax mx (intV k (match mx with
      | true => if x < y then y else x
      | false => if y < x then y else x)) l
  | _, _ => none

/-! ### Calls -/
abbrev CallF := FuncId → List AV → List Root → Option (AV × List (Option Root))

mutual
def hasRows : AV → Bool
  | .data k _ => !k.flatRows
  | .lit .. | .at .. => true
  | .agg l | .tuple l | .fn _ l => hasRowsAll l
  | .iface _ v => hasRows v
  | _ => false
termination_by structural v => v
def hasRowsAll : List AV → Bool
  | [] => false
  | v :: l => hasRows v || hasRowsAll l
termination_by structural l => l
end
/-- Have the elements, but for the rows of our own, no slice inside? -/
def Fl.leafFlat : Fl → K → Bool
  | .no, k => k.flatRows
  | .row f, .slice k => f.leafFlat k
  | .pr a b, .pair ka kb => a.leafFlat ka && b.leafFlat kb
  | _, _ => false
def Root.rows : Root → Bool
  | .box cells => hasRowsAll cells
  | .arr fl k _ _ _ => !fl.leafFlat k
  | .frz .. => true
  | _ => false
def rowsAny : List (Option Root) → Bool
  | [] => false
  | some r :: l => r.rows || rowsAny l
  | none :: l => rowsAny l

/-- Arguments as they are handed over; and the names of what is lent. -/
def handOver (cx : Cx) (H : Heap) (own : List Nat) : (i : Nat) → List TypeId → List AV → Option (List AV × List Nat)
  | _, [], vs => some (vs, [])
  | _, _ :: _, [] => none
  | i, t :: ts, v :: vs => match handOver cx H own (i + 1) ts vs with
    | none => none
    | some (rest, lent) => match own.contains i, (cx.ty t).map Ty.kind with
      | false, some (some k) => match asData cx H k v with
        | some d => some (.data k d :: rest, match k.flatRows with | true => lent | false => v.ids ++ lent)
        | none => none
      | _, _ => some (v :: rest, lent)

def giveBack (names : Nat → Option Nat) : (j : Nat) → List (Option Root) → Heap → Heap
  | _, [], H => H
  | j, r :: l, H => match names j with
    | some id => giveBack names (j + 1) l (upd id (r.map (Root.ren names)) H)
    | none => giveBack names (j + 1) l H

/-- The caller's names of what comes back. -/
def backName (ids : List Nat) (nid bound j : Nat) : Option Nat := match get? ids j with
  | some r => some r
  | none => match decide (j < bound) with
    | true => some (nid + (j - ids.length))
    | false => none
def doCall (cx : Cx) (callF : CallF) (f : FuncId) (args : List AV) (H : Heap) (nid : Nat) : Option (AV × Heap) :=
  match cx.fn f with
  | none => none
  | some fn => match fn.body, handOver cx H (cx.hint f).own 0 fn.params.toList args with
    | some _, some (args, lent) => match reach H REACH (idsAll args) [] with
      | none => none
      | some ids => match lent.any ids.contains, mapAll H ids with
        | false, some roots => match callF f (renAll (pos? ids) args) (roots.map (Root.ren (pos? ids))) with
          | none => none
          | some (v, roots2) => chk (decide (ids.length ≤ roots2.length) && decide (roots2.length ≤ ids.length + 8)) fun _ =>
            some (v.ren (backName ids nid roots2.length), giveBack (backName ids nid roots2.length) 0 roots2 (match hasRows v || rowsAny roots2 with | true => freeze H lent | false => H))
        | _, _ => none
    | _, _ => none

structure Res where
  v : AV
  H : Heap

def evalOp (cx : Cx) (h : Hint) (callF : CallF) (o : Oper) (s : St) (nid : Nat) : Option Res :=
  let ev (x : Operand) : Option AV := operand cx s.slots x
  let H := s.heap
  let val (v : Option AV) : Option Res := match v with | some v => some ⟨v, H⟩ | none => none
  let mk (v : Option (AV × Heap)) : Option Res := match v with | some (v, H) => some ⟨v, H⟩ | none => none
  let isSlice (t : TypeId) : Bool := match (cx.ty t).map Ty.td with | some (.slice _) => true | _ => false
  match o.op with
  | .move x | .assign x => match ev x with
    | some (.nilS 0) => match isSlice o.type with
      | true => mk (nilOf cx h H o.type nid)
      | false => val (some (.nilS 0))
    | some v => val (some v)
    | none => none
  | .pick c a b => match ev c with
    | some (.data .bool c) => ite' c (fun _ => val (ev a)) (fun _ => val (ev b))
    | _ => none
  | .unOp op _ x => match ev x with | some x => val (unOp op x) | none => none
  | .binOp op t x y _ => match ev x, ev y with | some x, some y => val (binOp cx op t x y) | _, _ => none
  | .convert a b x => match ev x with | some x => val (convert cx H a b x) | none => none
  | .extract x i => match ev x with | some (.tuple l) => val (get? l i) | _ => none
  | .nilCheck x => match ev x with
    | some (.ptr r o) => val (some (.ptr r o))
    | some (.at k d) => val (some (.at k d))
    | some (.el r ver p i fs) => val (some (.el r ver p i fs))
    | some (.fn f caps) => val (some (.fn f caps))
    | some (.iface t v) => val (some (.iface t v))
    | _ => none
  | .fieldAddr t x f => match ev x with | some x => val (fieldAddr cx H t x f) | none => none
  | .field t x f => match ev x with | some x => val (field cx t x f) | none => none
  | .load t a => match ev a with | some a => val (load cx H t a) | none => none
  | .store t a x => match ev a, ev x with
    | some a, some (.nilS 0) => match nilOf cx h H t nid with
      | some (x, H) => match store cx H t a x with | some H => some ⟨.skip, H⟩ | none => none
      | none => none
    | some a, some x => match store cx H t a x with | some H => some ⟨.skip, H⟩ | none => none
    | _, _ => none
  | .build t ps => match mapAll (fun p => (ev p.2).map (p.1, ·)) ps.toList with
    | some ps => val (build cx t ps)
    | none => none
  | .box _ x => match ev x with
    | some x => match cellsOf x with
      | some cs => some ⟨.ptr nid 0, upd nid (some (.box cs)) H⟩
      | none => none
    | none => none
  | .alloc t => match cx.zero t with
    | some cs => some ⟨.ptr nid 0, upd nid (some (.box cs)) H⟩
    | none => none
  | .buildSlice t len ps => match mapAll (fun p => (ev p.2).map (p.1, ·)) ps.toList, elemKind cx t with
    | some ps, some (_, i, k) => match ps.length == len && (ps.zipIdx.all fun p => p.1.1 == p.2) && decide (len * i.size ≤ 65536) && decide (0 < i.size) with
      | true => match growFl h t with
        | some fl => match absorbAll cx fl k H (ps.map (·.2)) with
          | some (l, H) => some ⟨.sl nid 0 [] 0 (l.length : Nat), upd nid (some (.arr fl k l 0 none)) H⟩
          | none => none
        | none => match absorbAll cx .no k H (ps.map (·.2)) with
          | some (l, H) => some ⟨.lit k l, H⟩
          | none => none
      | false => none
    | _, _ => none
  | .indexAddr t x i => match ev x, ev i with | some x, some i => val (indexAddr cx H t x i) | _, _ => none
  | .index t x i => match ev x, ev i with | some x, some i => val (index cx t x i) | _, _ => none
  | .makeSlice t n c => match ev n, ev c with | some n, some c => mk (makeSlice cx h H t n c nid) | _, _ => none
  | .slice t x lo hi mx =>
    let op (y : Option Operand) : Option (Option AV) := match y with | some y => (match ev y with | some v => some (some v) | none => none) | none => some none
    match ev x, op lo, op hi, op mx with
    | some x, some lo, some hi, some mx => val (cut cx H t x lo hi mx)
    | _, _, _, _ => none
  | .makeMap t x => match tdAt cx t with
    | some (.map a b) => match kindAt cx a, kindAt cx b with
      | some ka, some kb => match keyKind ka && kb.flatRows && (match x with | some x => (match ev x with | some (.data (.int _) _) => true | _ => false) | none => true) with
        | true => some ⟨.mp nid, upd nid (some (.mp ka kb [])) H⟩
        | false => none
      | _, _ => none
    | _ => none
  | .lookup t m k ok => match ev m, ev k with | some m, some k => val (lookup cx H t m k ok) | _, _ => none
  | .mapUpdate t m k v => match ev m, ev k, ev v with
    | some m, some k, some v => match mapUpdate cx H t m k v with | some H => some ⟨.skip, H⟩ | none => none
    | _, _, _ => none
  | .makeInterface t x => match ev x, tdAt cx t with
    | _, some .iface => none
    | some x, some _ => val (some (.iface t x))
    | _, _ => none
  | .makeFunc (.func f) first caps => match mapAll ev caps.toList, first.toList with
    | some caps, [] => val (some (.fn f caps))
    | _, _ => none
  | .call c => match mapAll ev c.args.toList with
    | none => none
    | some args => match c.callee with
      | .value f => match ev f with
        | some (.fn f caps) => mk (doCall cx callF f (args ++ caps) H nid)
        | _ => none
      | .invoke .. => none
      | .builtin b => match b, args, c.argTypes.toList with
        | .len, [x], t :: _ => match lenOf cx H t x with | some n => val (some (intV .i64 n)) | none => none
        | .append, [a, b], [t, u] => match tdAt cx u with
          | some d => match srcOk d b with
            | true => mk (append cx h H t a b nid)
            | false => none
          | none => none
        | .min, x :: l, _ => val (minmax false x l)
        | .max, x :: l, _ => val (minmax true x l)
        | _, _, _ => none
  | _ => none

inductive Ex where
  | norm | ret
  | exit (id : Nat)
  deriving DecidableEq

structure Out where
  ex : Ex
  s : St

/-- Is the operation asked for? -/
def asked (ops : Array Oper) (s : Slots) (o : Oper) : Option (Option Bool) := match o.guard with
  | none => some none
  | some (j, want) => match (ops[j]?).bind (·.dst) with
    | none => none
    | some d => match s d with
      | .data .bool (b : Bool) => some (some (b == want))
      | .skip => some (some false)
      | _ => none

def putD (d : Option Nat) (v : AV) (s : Slots) : Slots := match d with
  | some d => upd d v s
  | none => s

/-- The operations of a region in the text's order. -/
def evalOps (cx : Cx) (h : Hint) (callF : CallF) (nt : Nat) (ops : Array Oper) : List Oper → St → Option St
  | [], s => some s
  | o :: l, s => match (match o.dst with | some d => decide (d < nt) | none => true), asked ops s.slots o with
    | false, _ => none
    | true, none => none
    | true, some none => match evalOp cx h callF o s s.next with
      | some r => evalOps cx h callF nt ops l ⟨putD o.dst r.v s.slots, r.H, s.next + 8⟩
      | none => none
    | true, some (some b) => ite' b
      (fun _ => match evalOp cx h callF o s s.next with
        | some r => evalOps cx h callF nt ops l ⟨putD o.dst r.v s.slots, r.H, s.next + 8⟩
        | none => none)
      (fun _ => evalOps cx h callF nt ops l ⟨putD o.dst .skip s.slots, s.heap, s.next + 8⟩)

/-! ### Regions whose operations may go in any order that the edges allow -/
inductive Cls where
  | pure | read | make | chg
  deriving DecidableEq, Repr

def listSame {α : Type} (f : α → α → Bool) : List α → List α → Bool
  | [], [] => true
  | a :: l, b :: m => f a b && listSame f l m
  | _, _ => false
def K.same : (k : K) → k.D → k.D → Bool
  | .int _, (x : Int), (y : Int) => x == y
  | .bool, (x : Bool), (y : Bool) => x == y
  | .str, (x : ByteArray), (y : ByteArray) => x.toList == y.toList
  | .unit, _, _ => true
  | .slice k, (x : List k.D), (y : List k.D) => listSame k.same x y
  | .array _ k, (x : List k.D), (y : List k.D) => listSame k.same x y
  | .pair a b, (x : a.D × b.D), (y : a.D × b.D) => a.same x.1 y.1 && b.same x.2 y.2
def K.same? (k k' : K) (d : k.D) (d' : k'.D) : Bool := match K.cast? k' k d' with
  | some d' => k.same d d'
  | none => false
mutual
/-- The same value, as far as that is looked at. -/
def AV.same : AV → AV → Bool
  | .data k d, .data k' d' => K.same? k k' d d'
  | .lit k d, .lit k' d' => K.same? (.slice k) (.slice k') d d'
  | .at k d, .at k' d' => K.same? k k' d d'
  | .nilS t, .nilS t' => t == t'
  | .nilV (.map none), .nilV (.map none) => true
  | .nilV (.pointer none), .nilV (.pointer none) => true
  | .nilV .nilFunc, .nilV .nilFunc => true
  | .nilV .nilIface, .nilV .nilIface => true
  | .ptr r o, .ptr r' o' => r == r' && o == o'
  | .sl r ver p off len, .sl r' ver' p' off' len' => r == r' && ver == ver' && p == p' && off == off' && len == len'
  | .el r ver p i fs, .el r' ver' p' i' fs' => r == r' && ver == ver' && p == p' && i == i' && fs == fs'
  | .mp r, .mp r' => r == r'
  | .fn f l, .fn f' l' => f == f' && sameAll l l'
  | .agg l, .agg l' => sameAll l l'
  | _, _ => false
termination_by structural v => v
def sameAll : List AV → List AV → Bool
  | [], [] => true
  | a :: l, b :: m => a.same b && sameAll l m
  | _, _ => false
termination_by structural l => l
end

/-- One operation of a region, as it was in the text's order. -/
structure Rec where
  o : Oper
  w : Bool                 -- asked for
  pre : St
  v : AV
  H : Heap
  pr : List Nat            -- what must be ahead of it

def operIds (cx : Cx) (s : Slots) (o : Oper) : List Nat := o.op.operands.toList.flatMap fun x => match operand cx s x with
  | some v => v.ids
  | none => []
def clsOp (cx : Cx) (h : Hint) (s : Slots) (o : Oper) : Cls := match o.op with
  | .move x | .assign x => match operand cx s x with
    | some (.nilS 0) => match growFl h o.type with
      | none => .pure
      | some _ => .make
    | _ => .pure
  | .pick .. | .unOp .. | .binOp .. | .extract .. | .nilCheck .. | .field .. | .build .. | .index .. | .makeInterface .. | .makeFunc .. => .pure
  | .fieldAddr .. | .load .. | .indexAddr .. | .slice .. | .convert .. | .lookup .. => .read
  | .call ⟨.builtin .len, _, _⟩ => .read
  | .alloc .. | .box .. | .makeSlice .. => .make
  | .buildSlice .. => match operIds cx s o with
    | [] => .make
    | _ => .chg
  | _ => .chg
def Rec.cls (cx : Cx) (h : Hint) (r : Rec) : Cls := match r.w with
  | true => clsOp cx h r.pre.slots r.o
  | false => .pure

def resIs (v : AV) : Option Res → Bool
  | some r => v.same r.v
  | none => false

/-- May these two, the first of which stands ahead in the text, go in either order? -/
def pairOk (cx : Cx) (h : Hint) (callF : CallF) (ops : Array Oper) (a b : Rec) : Bool :=
  a.o.apart ops b.o && match a.cls cx h, b.cls cx h with
    | .chg, .chg => false
    | .make, .chg => false
    | .make, .read => !((operIds cx b.pre.slots b.o).contains a.pre.next)
    | .chg, .read => (operIds cx b.pre.slots b.o).all (fun q => decide (q < a.pre.next)) && resIs b.v (evalOp cx h callF b.o ⟨b.pre.slots, a.pre.heap, 0⟩ b.pre.next)
    | .read, .chg => resIs a.v (evalOp cx h callF a.o ⟨a.pre.slots, b.H, 0⟩ a.pre.next)
    | _, _ => true

/-- What must go ahead of an operation, through all edges; none: an edge that doesn't point back. -/
def predsOf (prs : List (List Nat)) (i : Nat) : List Edge → Option (List Nat)
  | [] => some []
  | e :: es => match Go.Region.binds .any e, predsOf prs i es with
    | true, some l => match decide (e.on < i), get? prs e.on with
      | true, some m => some (e.on :: (m ++ l))
      | _, _ => none
    | false, some l => some l
    | _, none => none

/-- The operations in the text's order, with what they did. -/
def traceOps (cx : Cx) (h : Hint) (callF : CallF) (nt : Nat) (ops : Array Oper) : (i : Nat) → (prs : List (List Nat)) → List Oper → St → Option (List Rec × St)
  | _, _, [], s => some ([], s)
  | i, prs, o :: l, s => match (match o.dst with | some d => decide (d < nt) | none => true), asked ops s.slots o, predsOf prs i o.after.toList with
    | true, some none, some pr => match evalOp cx h callF o s s.next with
      | some r => match traceOps cx h callF nt ops (i + 1) (prs ++ [pr]) l ⟨putD o.dst r.v s.slots, r.H, s.next + 8⟩ with
        | some (t, s') => some (⟨o, true, s, r.v, r.H, pr⟩ :: t, s')
        | none => none
      | none => none
    | true, some (some b), some pr => ite' b
      (fun _ => match evalOp cx h callF o s s.next with
        | some r => match traceOps cx h callF nt ops (i + 1) (prs ++ [pr]) l ⟨putD o.dst r.v s.slots, r.H, s.next + 8⟩ with
          | some (t, s') => some (⟨o, true, s, r.v, r.H, pr⟩ :: t, s')
          | none => none
        | none => none)
      (fun _ => match traceOps cx h callF nt ops (i + 1) (prs ++ [pr]) l ⟨putD o.dst .skip s.slots, s.heap, s.next + 8⟩ with
        | some (t, s') => some (⟨o, false, s, .skip, s.heap, pr⟩ :: t, s')
        | none => none)
    | _, _, _ => none

/-- Every two operations of which neither must go ahead of the other may go in either order. -/
def pairsOk (cx : Cx) (h : Hint) (callF : CallF) (ops : Array Oper) : (i : Nat) → List Rec → Bool
  | _, [] => true
  | i, a :: l => l.all (fun b => b.pr.contains i || pairOk cx h callF ops a b) && pairsOk cx h callF ops (i + 1) l

def evalDrawn (cx : Cx) (h : Hint) (callF : CallF) (nt : Nat) (ops : Array Oper) (s : St) : Option St := match traceOps cx h callF nt ops 0 [] ops.toList s with
  | some (t, s') => chk (pairsOk cx h callF ops 0 t) fun _ => some s'
  | none => none

/-- The names by which a function's roots go back. -/
def downName (H : Heap) (m : Nat) (new : List Nat) (r : Nat) : Option Nat := match H r with
  | none => none
  | some _ => match decide (r < m) with
    | true => some r
    | false => match pos? new r with
      | some i => some (m + i)
      | none => none
/-- All but some variables is forgotten; what they come to gets new names, behind those of the first m. -/
def canon (m : Nat) (live : List Nat) (s : St) : Option St := match reach s.heap REACH (List.range m ++ idsAll (live.map s.slots)) [] with
  | none => none
  | some ids =>
    let new := ids.filter (fun r => decide (m ≤ r))
    some ⟨slotsOf (live.map fun t => (t, (s.slots t).ren (downName s.heap m new))), heapFrom 0 ((List.range m).map (fun r => (s.heap r).map (Root.ren (downName s.heap m new))) ++ new.map (fun r => (s.heap r).map (Root.ren (downName s.heap m new)))), m + new.length⟩
def cutFor : List (Nat × List Nat) → Nat → Option (List Nat)
  | [], _ => none
  | (i, l) :: r, id => match Nat.beq i id with
    | true => some l
    | false => cutFor r id
/-- Nil slices of some types are rows of our own from now on. -/
def rowFor : List (TypeId × Fl × K) → TypeId → Option (Fl × K)
  | [], _ => none
  | (u, fk) :: r, t => match Nat.beq u t with
    | true => some fk
    | false => rowFor r t
def rowOf (rows : List (TypeId × Fl × K)) (H : Heap) (n : Nat) (v : AV) : AV × Heap := match v with
  | .nilS u => match rowFor rows u with
    | some (fl, k) => (.sl n 0 [] 0 0, upd n (some (.arr fl k [] 0 none)) H)
    | none => (.nilS u, H)
  | v => (v, H)
def rowsAll (rows : List (TypeId × Fl × K)) : List AV → Heap → Nat → List AV × Heap × Nat
  | [], H, n => ([], H, n)
  | v :: l, H, n => match rowOf rows H n v with
    | (v, H) => match rowsAll rows l H (n + 1) with
      | (l, H, n) => (v :: l, H, n)
def rowsSlots (rows : List (TypeId × Fl × K)) : List Nat → St → St
  | [], s => s
  | t :: l, s => match rowOf rows s.heap s.next (s.slots t) with
    | (v, H) => rowsSlots rows l ⟨upd t v s.slots, H, s.next + 1⟩
def rowsBoxes (rows : List (TypeId × Fl × K)) : List Nat → St → St
  | [], s => s
  | r :: l, s => match s.heap r with
    | some (.box cells) => match rowsAll rows cells s.heap s.next with
      | (cells, H, n) => rowsBoxes rows l ⟨s.slots, upd r (some (.box cells)) H, n⟩
    | _ => rowsBoxes rows l s
def rowsSt (rows : List (TypeId × Fl × K)) (live : List Nat) (s : St) : Option St := match rows with
  | [] => some s
  | rows => match reach s.heap REACH (idsAll (live.map s.slots)) [] with
    | some ids => some (rowsBoxes rows ids (rowsSlots rows live s))
    | none => none
def cutAt (h : Hint) (l : List (Nat × List Nat)) (id : Nat) (s : St) : Option St := match cutFor l id with
  | none => some s
  | some live => match rowsSt h.rows live s with
    | some s => canon h.names live s
    | none => none

def rounds (body : St → Option Out) : Nat → St → Option Out
  | 0, _ => none
  | n + 1, s => match body s with
    | some ⟨.norm, s⟩ => rounds body n s
    | r => r

def evalCode (cx : Cx) (h : Hint) (callF : CallF) (nt n : Nat) : Code → St → Option Out
  | .skip, s => some ⟨.norm, s⟩
  | .label _, s => some ⟨.norm, s⟩
  | .region id ops draw, s => match cutAt h h.pre id s with
    | some s => match (match draw with | false => evalOps cx h callF nt ops ops.toList s | true => evalDrawn cx h callF nt ops s) with
      | some s => match cutAt h h.post id s with
        | some s => some ⟨.norm, s⟩
        | none => none
      | none => none
    | none => none
  | .seq a b, s => match evalCode cx h callF nt n a s with
    | some ⟨.norm, s⟩ => evalCode cx h callF nt n b s
    | r => r
  | .cond c a b, s => match operand cx s.slots c with
    | some (.data .bool x) => ite' x (fun _ => evalCode cx h callF nt n a s) (fun _ => evalCode cx h callF nt n b s)
    | _ => none
  | .block id c, s => match evalCode cx h callF nt n c s with
    | some ⟨.exit j, s⟩ => match j == id with
      | true => some ⟨.norm, s⟩
      | false => some ⟨.exit j, s⟩
    | r => r
  | .loop c, s => rounds (evalCode cx h callF nt n c) n s
  | .exit id, s => some ⟨.exit id, s⟩
  | .scope c, s => evalCode cx h callF nt n c s
  | .ret, s => some ⟨.ret, s⟩
  | _, _ => none

/-- Results as the caller is to have them: as data where their kind allows, unless they stay its own. -/
def finishV (cx : Cx) (keep : List Nat) : (i : Nat) → List TypeId → List AV → Heap → Option (List AV × Heap)
  | _, [], [], H => some ([], H)
  | i, t :: ts, v :: vs, H => match keep.contains i, (cx.ty t).map Ty.kind with
    | false, some (some k) => match asData cx H k v, finishV cx keep (i + 1) ts vs (match k.flatRows with | true => H | false => freeze H v.ids) with
      | some d, some (l, H) => some (.data k d :: l, H)
      | _, _ => none
    | _, _ => match finishV cx keep (i + 1) ts vs H with
      | some (l, H) => some (v :: l, H)
      | none => none
  | _, _, _, _ => none

def notFrozen : Option Root → Option Root
  | some (.frz ..) => none
  | r => r

def oneOf : List AV → AV
  | [v] => v
  | vs => .tuple vs
def finishAt (H : Heap) (m : Nat) (v : AV) : Option (AV × List (Option Root)) := match reach H REACH (List.range m ++ v.ids) [] with
  | none => none
  | some ids =>
    let new := ids.filter (fun r => decide (m ≤ r))
    some (v.ren (downName H m new), (List.range m).map (fun r => (H r).map (Root.ren (downName H m new))) ++ new.map (fun r => (H r).map (Root.ren (downName H m new))))
def finish (cx : Cx) (fn : Func) (keep : List Nat) (m : Nat) (s : St) : Option (AV × List (Option Root)) :=
  match mapAll (fun r => match r with
      | .tmp t => some (s.slots t)
      | .cell a t => load cx s.heap t (s.slots a)) fn.results.toList with
  | none => none
  | some vs => match finishV cx keep 0 fn.resultTypes.toList vs s.heap with
    | none => none
    | some (vs, H) => finishAt (fun r => notFrozen (H r)) m (oneOf vs)

def evalFn (cx : Cx) : Nat → CallF
  | 0, _, _, _ => none
  | n + 1, f, args, roots => match cx.fn f with
    | none => none
    | some fn => match fn.body with
      | none => none
      | some c => chk (decide (roots.length ≤ (cx.hint f).names) || ((cx.hint f).pre.isEmpty && (cx.hint f).post.isEmpty)) fun _ => match evalCode cx (cx.hint f) (evalFn cx n) fn.ntmps n c ⟨argsFrom 0 args, heapFrom 0 (roots.map some), roots.length⟩ with
        | some ⟨.norm, s⟩ | some ⟨.ret, s⟩ => finish cx fn (cx.hint f).keep roots.length s
        | _ => none
end Go.Lite

namespace Go.Lite
/-! ### The context of a program -/
def tdOf : TypeDesc → TD
  | .bool => .bool
  | .int k => .int k
  | .string => .string
  | .slice e => .slice e
  | .array n e => .array n e
  | .struct fs => .struct (fs.toList.map fun f => (f.offset, f.type))
  | .map k v => .map k v
  | .pointer e => .ptr e
  | .interface _ => .iface
  | .func .. => .func
  | _ => .other

def sameVal : Value → Value → Bool
  | .int k a, .int k' b => k == k' && a == b
  | .bool a, .bool b => a == b
  | .string a, .string b => a.data.toList == b.data.toList
  | .slice none 0 0, .slice none 0 0 => true
  | _, _ => false
def sameVals : List Value → List Value → Bool
  | [], [] => true
  | a :: l, b :: m => sameVal a b && sameVals l m
  | _, _ => false
def K.zeroVals : K → List Value
  | .int k => [.int k 0]
  | .bool => [.bool false]
  | .str => [.string ByteArray.empty]
  | .unit => []
  | .slice _ => [.slice none 0 0]
  | .array n k => (List.replicate n k.zeroVals).flatten
  | .pair a b => a.zeroVals ++ b.zeroVals

def kindsOf (f : TypeId → Option K) : (off : Nat) → List Field → Option K
  | _, [] => some .unit
  | off, t :: ts => match f t.type with
    | some a => match t.offset == off with
      | true => match kindsOf f (off + a.sz) ts with
        | some b => some (.pair a b)
        | none => none
      | false => none
    | none => none
def rawKind (f : TypeId → Option K) : TypeDesc → Option K
  | .bool => some .bool
  | .int k => some (.int k)
  | .string => some .str
  | .slice e => (f e).map .slice
  | .array m e => (f e).map (.array m)
  | .struct fs => kindsOf f 0 fs.toList
  | _ => none
def isAggV : Value → Bool
  | .agg _ => true
  | _ => false
def kindOf (P : Program) : (fuel : Nat) → TypeId → Option K
  | 0, _ => none
  | n + 1, t => match P.info? t, P.underlying t with
    | some i, some d => match rawKind (kindOf P n) d with
      | some k => match i.size == k.sz && (match i.zero with | some v => sameVals k.zeroVals v.cells.toList && (isAggV v == k.isAgg) | none => false) with
        | true => some k
        | false => none
      | none => none
    | _, _ => none
def tyOf (P : Program) (t : TypeId) : Option Ty := match P.info? t, P.underlying t with
  | some i, some d => some { td := tdOf d, size := i.size, bytes := i.bytes, kind := kindOf P 12 t }
  | _, _ => none

def joinAll {α β : Type} (f : α → Option (List β)) : List α → Option (List β)
  | [] => some []
  | a :: l => match f a, joinAll f l with
    | some x, some y => some (x ++ y)
    | _, _ => none
def zeroRaw (P : Program) : (fuel : Nat) → TypeId → Option (List AV)
  | 0, _ => none
  | n + 1, t => match P.underlying t with
      | some .bool => some [boolV false]
      | some (.int k) => some [intV k 0]
      | some .string => some [.data .str ByteArray.empty]
      | some (.slice _) => some [.nilS t]
      | some (.map ..) => some [.nilV (.map none)]
      | some (.pointer _) => some [.nilV (.pointer none)]
      | some (.interface _) => some [.nilV .nilIface]
      | some (.func ..) => some [.nilV .nilFunc]
      | some (.array m e) => match zeroRaw P n e with
        | some z => some (List.replicate m z).flatten
        | none => none
      | some (.struct fs) => joinAll (fun f : Field => zeroRaw P n f.type) fs.toList
      | _ => none
def avIs : AV → Value → Bool
  | .data (.int k) (n : Int), .int k' n' => k == k' && n == n'
  | .data .bool (b : Bool), .bool b' => b == b'
  | .data .str (s : ByteArray), .string s' => s.data.toList == s'.data.toList
  | .nilS _, .slice none 0 0 => true
  | .nilV (.map none), .map none => true
  | .nilV (.pointer none), .pointer none => true
  | .nilV .nilIface, .nilIface => true
  | .nilV .nilFunc, .nilFunc => true
  | _, _ => false
def avsAre : List AV → List Value → Bool
  | [], [] => true
  | a :: l, b :: m => avIs a b && avsAre l m
  | _, _ => false
/-- A type's zero value by cells, held against the type's own. -/
def zeroOf (P : Program) (t : TypeId) : Option (List AV) := match P.info? t, zeroRaw P 12 t with
  | some i, some l => match i.zero with
    | some v => match avsAre l v.cells.toList && l.length == i.size with
      | true => some l
      | false => none
    | none => none
  | _, _ => none
def eqOkOf (P : Program) : (fuel : Nat) → TypeId → Bool
  | 0, _ => false
  | n + 1, t => match P.underlying t with
    | some .bool | some (.int _) | some .string => true
    | some (.array _ e) => eqOkOf P n e
    | some (.struct fs) => !P.stoodInHeld t && fs.toList.all fun f => f.name != "_" && eqOkOf P n f.type
    | _ => false

def mkCx (P : Program) (hint : Nat → Hint) (glob : Nat → Option Comp) : Cx :=
  { fn := fun f => P.funcs[f]?, ty := tyOf P, zero := zeroOf P, eqOk := eqOkOf P 12, hint, glob }
end Go.Lite
end

section
/-
  LITE 3: how abstract values lie in the model's memory.
-/
set_option linter.unusedVariables false
namespace Go.Lite
open Go Go.RowKit

/-! ### Lists -/
def All2 {α β : Type} (R : α → β → Prop) : List α → List β → Prop
  | [], [] => True
  | a :: l, b :: m => R a b ∧ All2 R l m
  | _, _ => False
theorem All2.length {α β : Type} {R : α → β → Prop} : ∀ {l : List α} {m : List β}, All2 R l m → l.length = m.length
  | [], [], _ => rfl
  | _ :: _, _ :: _, h => by simp [All2.length h.2]
  | [], _ :: _, h => h.elim
  | _ :: _, [], h => h.elim
theorem All2.imp {α β : Type} {R R' : α → β → Prop} : ∀ {l : List α} {m : List β}, (∀ a ∈ l, ∀ b, R a b → R' a b) → All2 R l m → All2 R' l m
  | [], [], _, _ => trivial
  | a :: l, b :: m, hi, h => ⟨hi a (by simp) b h.1, All2.imp (fun a ha b => hi a (by simp [ha]) b) h.2⟩
  | [], _ :: _, _, h => h.elim
  | _ :: _, [], _, h => h.elim
theorem All2.get {α β : Type} {R : α → β → Prop} : ∀ {l : List α} {m : List β}, All2 R l m → ∀ (i : Nat) (a : α), l[i]? = some a → ∃ b, m[i]? = some b ∧ R a b
  | [], [], _, i, a, h => by simp at h
  | x :: l, y :: m, hr, 0, a, h => by simp at h; subst h; exact ⟨y, rfl, hr.1⟩
  | x :: l, y :: m, hr, i + 1, a, h => by simpa using All2.get hr.2 i a (by simpa using h)
  | [], _ :: _, h, _, _, _ => h.elim
  | _ :: _, [], h, _, _, _ => h.elim
theorem All2.get' {α β : Type} {R : α → β → Prop} {l : List α} {m : List β} (hr : All2 R l m) (i : Nat) (b : β) (h : m[i]? = some b) : ∃ a, l[i]? = some a ∧ R a b := by
  have hl := hr.length
  have hi : i < m.length := (List.getElem?_eq_some_iff.1 h).1
  have ha : l[i]? = some (l[i]'(by omega)) := List.getElem?_eq_getElem (by omega)
  obtain ⟨b', hb, r⟩ := hr.get i _ ha
  rw [h] at hb; injection hb with hb; subst hb
  exact ⟨_, ha, r⟩
theorem All2.of_get {α β : Type} {R : α → β → Prop} : ∀ {l : List α} {m : List β}, l.length = m.length → (∀ (i : Nat) (a : α) (b : β), l[i]? = some a → m[i]? = some b → R a b) → All2 R l m
  | [], [], _, _ => trivial
  | a :: l, b :: m, hl, h => ⟨h 0 a b rfl rfl, All2.of_get (by simpa using hl) (fun i x y hx hy => h (i + 1) x y (by simpa using hx) (by simpa using hy))⟩
  | [], _ :: _, h, _ => by simp at h
  | _ :: _, [], h, _ => by simp at h
theorem All2.append {α β : Type} {R : α → β → Prop} : ∀ {l : List α} {m : List β} {l' : List α} {m' : List β}, All2 R l m → All2 R l' m' → All2 R (l ++ l') (m ++ m')
  | [], [], _, _, _, h => h
  | _ :: _, _ :: _, _, _, h, h' => ⟨h.1, All2.append h.2 h'⟩
  | [], _ :: _, _, _, h, _ => h.elim
  | _ :: _, [], _, _, h, _ => h.elim

/-! ### Worlds -/
/-- From one world to a later one: only what is ours, or new, has changed. -/
structure Tr (Own : Nat → Prop) (w w' : World) : Prop where
  size : w.heap.size ≤ w'.heap.size
  os : w'.os = w.os
  tape : w'.tape = w.tape
  output : w'.output = w.output
  keep : ∀ b, b < w.heap.size → ¬ Own b → w'.heap[b]? = w.heap[b]?
theorem Tr.refl (Own : Nat → Prop) (w : World) : Tr Own w w := ⟨Nat.le_refl _, rfl, rfl, rfl, fun _ _ _ => rfl⟩
theorem Tr.trans {O O' : Nat → Prop} {w w1 w2 : World} (h : Tr O w w1) (h' : Tr O' w1 w2) (ho : ∀ b, O' b → b < w.heap.size → O b) : Tr O w w2 :=
  ⟨Nat.le_trans h.size h'.size, h'.os.trans h.os, h'.tape.trans h.tape, h'.output.trans h.output, fun b hb hn =>
    (h'.keep b (Nat.lt_of_lt_of_le hb h.size) (fun hb' => hn (ho b hb' hb))).trans (h.keep b hb hn)⟩
theorem Tr.below {w w' : World} (h : Tr (fun _ => False) w w') : Below w.heap.size w w' := ⟨h.os, h.tape, h.output, h.size, fun b hb => h.keep b hb (fun x => x)⟩

theorem cell_of_heap {w w' : World} {a : Addr} (h : w'.heap[a.block]? = w.heap[a.block]?) : w'.cell? a = w.cell? a := by
  unfold World.cell?
  rw [h]
theorem add_block (a : Addr) (n : Nat) : (a.add n).block = a.block := by unfold Addr.add; split <;> rfl
theorem add_add (a : Addr) (n m : Nat) : (a.add n).add m = a.add (n + m) := by
  unfold Addr.add
  by_cases hn : n = 0
  · simp [hn]
  · by_cases hm : m = 0
    · simp [hm]
    · simp [hn, hm, Nat.add_assoc]
theorem add_mk (g s n : Nat) : (⟨g, s, none⟩ : Addr).add n = ⟨g, s + n, none⟩ := by unfold Addr.add; split <;> simp_all

/-! ### Data in memory that stays as it is -/
/-- The elements of a row, from an address on. -/
def RowAt (w : World) (S : Nat → Prop) (sz : Nat) {α : Type} (R : α → List Value → Prop) (A : Option Addr) (l : List α) : Prop :=
  l = [] ∨ ∃ ad, A = some ad ∧ S ad.block ∧ ∀ i x, l[i]? = some x → ∃ vs : List Value, vs.length = sz ∧ R x vs ∧ ∀ j, j < sz → w.cell? (ad.add (i * sz + j)) = vs[j]?

/-- Cells that read as data. -/
def RepC (S : Nat → Prop) (w : World) : (k : K) → k.D → List Value → Prop
  | .int k, (n : Int), cs => cs = [.int k n]
  | .bool, (b : Bool), cs => cs = [.bool b]
  | .str, (s : ByteArray), cs => cs = [.string s]
  | .unit, _, cs => cs = []
  | .pair a b, (d : a.D × b.D), cs => ∃ c1 c2, cs = c1 ++ c2 ∧ RepC S w a d.1 c1 ∧ RepC S w b d.2 c2
  | .array n k, (l : List k.D), cs => l.length = n ∧ ∃ vss : List (List Value), cs = vss.flatten ∧ All2 (RepC S w k) l vss
  | .slice k, (l : List k.D), cs => ∃ A c, cs = [.slice A l.length c] ∧ l.length ≤ c ∧ RowAt w S k.sz (RepC S w k) A l

theorem all2_flatten {S : Nat → Prop} {w : World} {k : K} (h : ∀ (d : k.D) (cs : List Value), RepC S w k d cs → cs.length = k.sz) :
    ∀ (l : List k.D) (vss : List (List Value)), All2 (RepC S w k) l vss → vss.flatten.length = l.length * k.sz
  | [], [], _ => by simp
  | x :: l, v :: vss, ha => by simp [h x v ha.1, all2_flatten h l vss ha.2, Nat.add_mul, Nat.add_comm]
  | [], _ :: _, ha => ha.elim
  | _ :: _, [], ha => ha.elim
theorem RepC.length {S : Nat → Prop} {w : World} (k : K) : ∀ (d : k.D) (cs : List Value), RepC S w k d cs → cs.length = k.sz := by
  induction k with
  | int _ => intro d cs h; simp only [RepC] at h; subst h; rfl
  | bool => intro d cs h; simp only [RepC] at h; subst h; rfl
  | str => intro d cs h; simp only [RepC] at h; subst h; rfl
  | unit => intro d cs h; simp only [RepC] at h; subst h; rfl
  | slice k ih => intro d cs h; obtain ⟨_, _, h, _⟩ := h; subst h; rfl
  | array n k ih =>
    intro d cs h
    obtain ⟨hn, vss, h, ha⟩ := h
    have := all2_flatten ih d vss ha
    rw [h, this, hn]; rfl
  | pair a b iha ihb =>
    intro d cs h
    obtain ⟨c1, c2, h, h1, h2⟩ := h
    rw [h, List.length_append, iha _ _ h1, ihb _ _ h2]; rfl

theorem RowAt.imp {w w' : World} {S S' : Nat → Prop} {sz : Nat} {α : Type} {R R' : α → List Value → Prop} {A : Option Addr} {l : List α}
    (hs : ∀ b, S b → S' b ∧ w'.heap[b]? = w.heap[b]?) (hr : ∀ x vs, R x vs → R' x vs) (h : RowAt w S sz R A l) : RowAt w' S' sz R' A l := by
  rcases h with h | ⟨ad, hA, hS, hc⟩
  · exact .inl h
  · refine .inr ⟨ad, hA, (hs _ hS).1, fun i x hx => ?_⟩
    obtain ⟨vs, hl, hR, hv⟩ := hc i x hx
    exact ⟨vs, hl, hr _ _ hR, fun j hj => (cell_of_heap (by rw [add_block]; exact (hs _ hS).2)).trans (hv j hj)⟩

theorem RepC.mono {S S' : Nat → Prop} {w w' : World} (hs : ∀ b, S b → S' b ∧ w'.heap[b]? = w.heap[b]?) (k : K) : ∀ (d : k.D) (cs : List Value), RepC S w k d cs → RepC S' w' k d cs := by
  induction k with
  | int _ => exact fun _ _ h => h
  | bool => exact fun _ _ h => h
  | str => exact fun _ _ h => h
  | unit => exact fun _ _ h => h
  | slice k ih => exact fun d cs ⟨A, c, h, hc, hr⟩ => ⟨A, c, h, hc, hr.imp hs ih⟩
  | array n k ih => exact fun d cs ⟨hn, vss, h, ha⟩ => ⟨hn, vss, h, ha.imp (fun _ _ _ hx => ih _ _ hx)⟩
  | pair a b iha ihb => exact fun d cs ⟨c1, c2, h, h1, h2⟩ => ⟨c1, c2, h, iha _ _ h1, ihb _ _ h2⟩

/-! ### Rows of our own, as they lie in memory -/
inductive T where
  | leaf (v : Value)
  | row (sz : Nat) (A : Option Addr) (c : Nat) (els : List (List T))
  | gap

def T.val : T → Value
  | .leaf v => v
  | .row _ A c els => .slice A els.length c
  | .gap => .slice none 0 0

/-- The cells of one row: what it holds, element by element. -/
def RowOk (w : World) (sz : Nat) (A : Option Addr) (c : Nat) (els : List (List T)) : Prop :=
  (∀ r ∈ els, r.length = sz) ∧ els.length ≤ c ∧
  (c = 0 ∨ ∃ g s cells e, A = some ⟨g, s, none⟩ ∧ w.heap[g]? = some (.cells cells e (0, 0)) ∧ s + c * sz ≤ cells.size ∧
    ∀ i r, els[i]? = some r → ∀ j t, r[j]? = some t → t ≠ .gap → cells[s + i * sz + j]? = some t.val)

mutual
def T.ok (w : World) : T → Prop
  | .row sz A c els => RowOk w sz A c els ∧ okEls w els
  | _ => True
termination_by structural t => t
def okEls (w : World) : List (List T) → Prop
  | [] => True
  | r :: l => okRow w r ∧ okEls w l
termination_by structural l => l
def okRow (w : World) : List T → Prop
  | [] => True
  | t :: l => t.ok w ∧ okRow w l
termination_by structural l => l
end
def headBlock (A : Option Addr) (c : Nat) : List Nat := match A, c with
  | some a, _ + 1 => [a.block]
  | _, _ => []
mutual
def T.blocks : T → List Nat
  | .row _ A c els => headBlock A c ++ blocksEls els
  | _ => []
termination_by structural t => t
def blocksEls : List (List T) → List Nat
  | [] => []
  | r :: l => blocksRow r ++ blocksEls l
termination_by structural l => l
def blocksRow : List T → List Nat
  | [] => []
  | t :: l => t.blocks ++ blocksRow l
termination_by structural l => l
end

theorem headBlock_pos {A : Option Addr} {c g s : Nat} (h : c ≠ 0) (hA : A = some ⟨g, s, none⟩) : headBlock A c = [g] := by
  subst hA
  cases c with
  | zero => exact absurd rfl h
  | succ c => rfl

theorem RowOk.mono {w w' : World} {sz : Nat} {A : Option Addr} {c : Nat} {els : List (List T)} (h : RowOk w sz A c els) (hb : ∀ b ∈ headBlock A c, w'.heap[b]? = w.heap[b]?) : RowOk w' sz A c els := by
  obtain ⟨h1, h2, h3⟩ := h
  refine ⟨h1, h2, ?_⟩
  by_cases hc : c = 0
  · exact .inl hc
  · rcases h3 with h3 | ⟨g, s, cells, e, hA, hh, r⟩
    · exact absurd h3 hc
    · exact .inr ⟨g, s, cells, e, hA, (hb g (by rw [headBlock_pos hc hA]; simp)).trans hh, r⟩

mutual
theorem T.ok_mono {w w' : World} : ∀ (t : T), (∀ b ∈ t.blocks, w'.heap[b]? = w.heap[b]?) → t.ok w → t.ok w'
  | .row sz A c els, hb, h => ⟨h.1.mono fun b hb' => hb b (by simp [T.blocks, hb']), okEls_mono els (fun b hb' => hb b (by simp [T.blocks, hb'])) h.2⟩
  | .leaf _, _, _ => trivial
  | .gap, _, _ => trivial
termination_by structural t => t
theorem okEls_mono {w w' : World} : ∀ (l : List (List T)), (∀ b ∈ blocksEls l, w'.heap[b]? = w.heap[b]?) → okEls w l → okEls w' l
  | [], _, _ => trivial
  | r :: l, hb, h => ⟨okRow_mono r (fun b hb' => hb b (by simp [blocksEls, hb'])) h.1, okEls_mono l (fun b hb' => hb b (by simp [blocksEls, hb'])) h.2⟩
termination_by structural l => l
theorem okRow_mono {w w' : World} : ∀ (l : List T), (∀ b ∈ blocksRow l, w'.heap[b]? = w.heap[b]?) → okRow w l → okRow w' l
  | [], _, _ => trivial
  | t :: l, hb, h => ⟨T.ok_mono t (fun b hb' => hb b (by simp [blocksRow, hb'])) h.1, okRow_mono l (fun b hb' => hb b (by simp [blocksRow, hb'])) h.2⟩
termination_by structural l => l
end
end Go.Lite
end

section
/-
  LITE 4: abstract values and the model's values.
-/
set_option linter.unusedVariables false
namespace Go.Lite
open Go Go.RowKit

/-! ### Paths in rows -/
structure RowT where
  sz : Nat
  A : Option Addr
  c : Nat
  els : List (List T)
def T.at? : T → Nat → Nat → Option T
  | .row _ _ _ els, i, j => match els[i]? with
    | some r => r[j]?
    | none => none
  | _, _, _ => none
def T.getRow : List (Nat × Nat) → T → Option RowT
  | [], .row sz A c els => some ⟨sz, A, c, els⟩
  | [], _ => none
  | (i, j) :: p, t => match t.at? i j with
    | some t => T.getRow p t
    | none => none
def setEl (els : List (List T)) (i j : Nat) (t : T) : List (List T) := match els[i]? with
  | some r => els.set i (r.set j t)
  | none => els
/-- What stands at the end of a path, put in place. -/
def T.setC : List (Nat × Nat) → T → T → Option T
  | [], new, _ => some new
  | (i, j) :: p, new, t => match t.at? i j with
    | none => none
    | some u => match T.setC p new u, t with
      | some u', .row sz A c els => some (.row sz A c (setEl els i j u'))
      | _, _ => none
def tpath : K → List Step → Option (List (Nat × Nat))
  | _, [] => some []
  | k, s :: p => match offs s.fs k with
    | some (o, .slice k') => match tpath k' p with
      | some q => some ((s.i.toNat, o) :: q)
      | none => none
    | _ => none

/-- Cells of our own that read as data. -/
def AbsT (S : Nat → Prop) (w : World) : Fl → (k : K) → k.D → List T → Prop
  | .no, k, d, ts => ∃ vs : List Value, ts = vs.map T.leaf ∧ RepC S w k d vs
  | .row f, .slice k, (l : List k.D), ts => ∃ A c els, ts = [.row k.sz A c els] ∧ All2 (AbsT S w f k) l els
  | .pr a b, .pair ka kb, (d : ka.D × kb.D), ts => ∃ t1 t2, ts = t1 ++ t2 ∧ AbsT S w a ka d.1 t1 ∧ AbsT S w b kb d.2 t2
  | _, _, _, _ => False
theorem AbsT.mono {S S' : Nat → Prop} {w w' : World} (hs : ∀ b, S b → S' b ∧ w'.heap[b]? = w.heap[b]?) (f : Fl) : ∀ (k : K) (d : k.D) (ts : List T), AbsT S w f k d ts → AbsT S' w' f k d ts := by
  induction f with
  | no => exact fun k d ts ⟨vs, h, hr⟩ => ⟨vs, h, hr.mono hs k _ _⟩
  | row f ih =>
    intro k d ts h
    cases k with
    | slice k => obtain ⟨A, c, els, h, ha⟩ := h; exact ⟨A, c, els, h, ha.imp (fun _ _ _ hx => ih _ _ _ hx)⟩
    | _ => exact h.elim
  | pr a b iha ihb =>
    intro k d ts h
    cases k with
    | pair ka kb => obtain ⟨t1, t2, h, h1, h2⟩ := h; exact ⟨t1, t2, h, iha _ _ _ h1, ihb _ _ _ h2⟩
    | _ => exact h.elim
theorem AbsT.length {S : Nat → Prop} {w : World} (f : Fl) : ∀ (k : K) (d : k.D) (ts : List T), AbsT S w f k d ts → ts.length = k.sz := by
  induction f with
  | no => exact fun k d ts ⟨vs, h, hr⟩ => by rw [h, List.length_map]; exact hr.length k _ _
  | row f ih =>
    intro k d ts h
    cases k with
    | slice k => obtain ⟨A, c, els, h, ha⟩ := h; rw [h]; rfl
    | _ => exact h.elim
  | pr a b iha ihb =>
    intro k d ts h
    cases k with
    | pair ka kb => obtain ⟨t1, t2, h, h1, h2⟩ := h; rw [h, List.length_append, iha _ _ _ h1, ihb _ _ _ h2]; rfl
    | _ => exact h.elim

/-! ### Roots -/
inductive GRoot where
  | box (g : Nat)
  | arr (t : T)
  | frz (A : Option Addr) (c n : Nat)
  | mp (g : Nat)
  | it (g : Nat)
def GRoot.blocks : GRoot → List Nat
  | .box g | .mp g | .it g => [g]
  | .arr t => t.blocks
  | .frz .. => []

structure Env where
  S : Nat → Prop
  w : World
  H : Heap
  G : Nat → Option GRoot
  F : Nat → Prop          -- blocks of others, neither ours nor read

/-- A slice's value over a row, from an element on. -/
def Hdr (sz : Nat) (A : Option Addr) (c n : Nat) (off len : Int) (v : Value) : Prop :=
  off + len ≤ n ∧ ∃ A' c', v = .slice A' len.toNat c' ∧ c' = c - off.toNat ∧ (c' = 0 ∨ ∃ a, A = some a ∧ A' = some (a.add (off.toNat * sz)))

/-- What is said of a path into a root: its version is no later one; and, while it is the version of now and no row is out, it leads to a row. -/
def PathOk (k : K) (ver' : Nat) (hole : Option (List Step)) (t : T) (ver : Nat) (p : List Step) : Prop :=
  (p ≠ [] → ver ≤ ver') ∧ (p = [] ∨ ver = ver' → hole = none → ∃ q R, tpath k p = some q ∧ t.getRow q = some R)
def SlRel (E : Env) (r ver : Nat) (p : List Step) (off len : Int) (v : Value) : Prop :=
  0 ≤ off ∧ 0 ≤ len ∧ (∃ A c, v = .slice A len.toNat c ∧ len.toNat ≤ c ∧ (c = 0 ∨ A.isSome = true)) ∧ match E.H r, E.G r with
    | some (.arr _ k _ ver' hole), some (.arr t) => PathOk k ver' hole t ver p ∧ (p = [] ∨ ver = ver' → ∀ q R, tpath k p = some q → t.getRow q = some R → Hdr R.sz R.A R.c R.els.length off len v)
    | some (.frz k _), some (.frz A c n) => p = [] → Hdr k.sz A c n off len v
    | _, _ => True
def ElRel (E : Env) (r ver : Nat) (p : List Step) (i : Int) (fs : List Nat) (v : Value) : Prop :=
  0 ≤ i ∧ (∃ a, v = .pointer (some a)) ∧ match E.H r, E.G r with
    | some (.arr _ k _ ver' hole), some (.arr t) => PathOk k ver' hole t ver p ∧ (p = [] ∨ ver = ver' → ∀ q R o k1 k2, tpath k p = some q → t.getRow q = some R → pathKind k p = some k1 → offs fs k1 = some (o, k2) →
        i < R.els.length ∧ ∃ a, R.A = some a ∧ v = .pointer (some (a.add (i.toNat * R.sz + o))))
    | some (.frz k _), some (.frz A c n) => p = [] → ∀ o k2, offs fs k = some (o, k2) → i < n ∧ ∃ a, A = some a ∧ v = .pointer (some (a.add (i.toNat * k.sz + o)))
    | _, _ => True

mutual
def RelV (E : Env) : AV → Value → Prop
  | .undef, _ => True
  | .skip, v => v = undef
  | .data k d, v => match k.isAgg with
    | true => ∃ cs : Array Value, v = .agg cs ∧ RepC E.S E.w k d cs.toList
    | false => RepC E.S E.w k d [v]
  | .lit k l, v => ∃ A, v = .slice A l.length l.length ∧ RowAt E.w E.S k.sz (RepC E.S E.w k) A l
  | .nilS _, v => v = .slice none 0 0
  | .nilV u, v => v = u
  | .agg l, v => ∃ vs : Array Value, v = .agg vs ∧ RelAll E l vs.toList
  | .tuple l, v => ∃ vs : Array Value, v = .tuple vs ∧ RelAll E l vs.toList
  | .ptr r off, v => ∃ g, v = .pointer (some ⟨g, off, none⟩) ∧ ∀ cells, E.H r = some (.box cells) → E.G r = some (.box g)
  | .at k d, v => ∃ a cs, v = .pointer (some a) ∧ E.S a.block ∧ RepC E.S E.w k d cs ∧ ∀ j, j < k.sz → E.w.cell? (a.add j) = cs[j]?
  | .sl r ver p off len, v => SlRel E r ver p off len v
  | .el r ver p i fs, v => ElRel E r ver p i fs v
  | .fn f caps, v => ∃ vs : Array Value, v = .func (.func f) #[] vs ∧ RelAll E caps vs.toList
  | .mp r, v => ∃ g, v = .map (some g) ∧ ∀ kk kv es, E.H r = some (.mp kk kv es) → E.G r = some (.mp g)
  | .it r, v => ∃ g, v = .pointer (some ⟨g, 0, none⟩) ∧ ∀ s pos, E.H r = some (.it s pos) → E.G r = some (.it g)
  | .iface t u, v => ∃ x, v = .iface t x ∧ RelV E u x
termination_by structural a => a
def RelAll (E : Env) : List AV → List Value → Prop
  | [], vs => vs = []
  | a :: l, vs => ∃ v vs', vs = v :: vs' ∧ RelV E a v ∧ RelAll E l vs'
termination_by structural l => l
end

theorem RelAll.iff {E : Env} : ∀ {l : List AV} {vs : List Value}, RelAll E l vs ↔ All2 (RelV E) l vs
  | [], [] => by simp [RelAll, All2]
  | [], _ :: _ => by simp [RelAll, All2]
  | a :: l, [] => by simp [RelAll, All2]
  | a :: l, v :: vs => by
    simp only [RelAll, All2]
    constructor
    · rintro ⟨v', vs', h, h1, h2⟩
      injection h with h h'
      subst h h'
      exact ⟨h1, RelAll.iff.1 h2⟩
    · rintro ⟨h1, h2⟩
      exact ⟨v, vs, rfl, h1, RelAll.iff.2 h2⟩

def RelEntry (E : Env) (kk kv : K) (e : kk.D × kv.D) (m : MapEntry) : Prop := RelV E (.data kk e.1) m.key ∧ RelV E (.data kv e.2) m.val

def RelRoot (E : Env) : Root → GRoot → Prop
  | .box cells, .box g => ∃ (vs : Array Value) (e : TypeId), E.w.heap[g]? = some (.cells vs e (0, 0)) ∧ All2 (RelV E) cells vs.toList
  | .arr fl k xs _ none, .arr t => ∃ A c els, t = .row k.sz A c els ∧ t.ok E.w ∧ All2 (AbsT E.S E.w fl k) xs els
  | .arr fl k xs _ (some q), .arr t => ∃ A c els pq, tpath k q = some pq ∧ q ≠ [] ∧ All2 (AbsT E.S E.w fl k) xs els ∧ T.setC pq .gap (.row k.sz A c els) = some t ∧ t.ok E.w
  | .frz k xs, .frz A c n => n = xs.length ∧ n ≤ c ∧ RowAt E.w E.S k.sz (RepC E.S E.w k) A xs
  | .mp kk kv es, .mp g => keyKind kk = true ∧ kv.flatRows = true ∧ ∃ (ents : Array MapEntry) (clock : Nat), E.w.heap[g]? = some (.map ents clock) ∧ All2 (RelEntry E kk kv) es ents.toList
  | .it s pos, .it g => E.w.heap[g]? = some (.stringIter s pos)
  | _, _ => False

def Own (G : Nat → Option GRoot) (b : Nat) : Prop := ∃ r gr, G r = some gr ∧ b ∈ gr.blocks

/-- All is as it should be: the roots lie in the world as they are said to, apart from one another; names are below n. -/
structure Good (E : Env) (n : Nat → Prop) : Prop where
  S : ∀ b, E.S b ↔ (b < E.w.heap.size ∧ ¬ Own E.G b ∧ ¬ E.F b)
  roots : ∀ r root, E.H r = some root → ∃ gr, E.G r = some gr ∧ RelRoot E root gr
  none : ∀ r, E.H r = none → E.G r = none
  lt : ∀ b, Own E.G b → b < E.w.heap.size
  apart : ∀ r r' gr gr', r ≠ r' → E.G r = some gr → E.G r' = some gr' → ∀ b, b ∈ gr.blocks → b ∉ gr'.blocks
  nodup : ∀ r gr, E.G r = some gr → gr.blocks.Nodup
  names : ∀ r root, E.H r = some root → n r ∧ ∀ q ∈ root.ids, n q
  F : ∀ b, E.F b → b < E.w.heap.size ∧ ¬ Own E.G b

/-- The same rows at the same places. -/
def Skel (t t' : T) : Prop := ∀ q R', t'.getRow q = some R' → ∃ R, t.getRow q = some R ∧ R.sz = R'.sz ∧ R.A = R'.A ∧ R.c = R'.c ∧ R.els.length = R'.els.length
theorem Skel.refl (t : T) : Skel t t := fun _ R h => ⟨R, h, rfl, rfl, rfl, rfl⟩

/-- A root later on: gone, or with its place kept. -/
def ExtR (H H' : Option Root) (G G' : Option GRoot) : Prop := match H' with
  | none => True
  | some (.box _) => (∃ c, H = some (.box c)) ∧ G' = G
  | some (.mp kk kv _) => (∃ es, H = some (.mp kk kv es)) ∧ G' = G
  | some (.it _ _) => (∃ s p, H = some (.it s p)) ∧ G' = G
  | some (.arr _ k _ ver' hole') => ∃ fl xs ver hole t t', H = some (.arr fl k xs ver hole) ∧ G = some (.arr t) ∧ G' = some (.arr t') ∧ ver ≤ ver' ∧
      (∀ R', t'.getRow [] = some R' → ∃ R, t.getRow [] = some R ∧ R.sz = R'.sz ∧ R.A = R'.A ∧ R.c = R'.c ∧ R.els.length = R'.els.length) ∧ (t'.getRow []).isSome = true ∧
      (ver = ver' → Skel t t' ∧ (hole' = none → hole = none ∧ Skel t' t))
  | some (.frz k _) => (∃ xs, H = some (.frz k xs) ∧ G' = G) ∨ ∃ fl xs ver hole A c els, H = some (.arr fl k xs ver hole) ∧ G = some (.arr (.row k.sz A c els)) ∧ G' = some (.frz A c els.length)

structure Ext (n : Nat → Prop) (E E' : Env) : Prop where
  stay : ∀ b, E.S b → E'.S b ∧ E'.w.heap[b]? = E.w.heap[b]?
  roots : ∀ r, n r → ExtR (E.H r) (E'.H r) (E.G r) (E'.G r)

theorem ExtR.refl (H : Option Root) (G : Option GRoot) (h : ∀ fl k xs ver hole, H = some (.arr fl k xs ver hole) → ∃ t, G = some (.arr t) ∧ (t.getRow []).isSome = true) : ExtR H H G G := by
  unfold ExtR
  split
  · trivial
  · exact ⟨⟨_, rfl⟩, rfl⟩
  · exact ⟨⟨_, rfl⟩, rfl⟩
  · exact ⟨⟨_, _, rfl⟩, rfl⟩
  · obtain ⟨t, ht, hs⟩ := h _ _ _ _ _ rfl
    exact ⟨_, _, _, _, t, t, rfl, ht, ht, Nat.le_refl _, fun R h => ⟨R, h, rfl, rfl, rfl, rfl⟩, hs, fun _ => ⟨Skel.refl _, fun h => ⟨h, Skel.refl _⟩⟩⟩
  · exact .inl ⟨_, rfl, rfl⟩

theorem PathOk.ext {k : K} {ver0 ver' ver : Nat} {hole hole' : Option (List Step)} {t t' : T} {p : List Step} (h : PathOk k ver0 hole t ver p) (hv : ver0 ≤ ver') (hs : (t'.getRow []).isSome = true)
    (hsk : ver0 = ver' → Skel t t' ∧ (hole' = none → hole = none ∧ Skel t' t)) : PathOk k ver' hole' t' ver p := by
  refine ⟨fun hp => Nat.le_trans (h.1 hp) hv, fun hp hh => ?_⟩
  by_cases hnil : p = []
  · subst hnil
    obtain ⟨R, hR⟩ := Option.isSome_iff_exists.1 hs
    exact ⟨[], R, rfl, hR⟩
  · have hver : ver = ver' := hp.resolve_left hnil
    have hle := h.1 hnil
    obtain ⟨_, h2⟩ := hsk (by omega)
    obtain ⟨h3, h4⟩ := h2 hh
    obtain ⟨q, R, hq, hR⟩ := h.2 (.inr (by omega)) h3
    obtain ⟨R', hR', _⟩ := h4 q R hR
    exact ⟨q, R', hq, hR'⟩

theorem SlRel.ext {n : Nat → Prop} {E E' : Env} (hx : Ext n E E') {r ver : Nat} {p : List Step} {off len : Int} {v : Value} (hr : n r) (h : SlRel E r ver p off len v) : SlRel E' r ver p off len v := by
  obtain ⟨h0, h1, hh, h2⟩ := h
  refine ⟨h0, h1, hh, ?_⟩
  have he := hx.roots r hr
  split
  · rename_i fl' k xs' ver' hole' t' hH' hG'
    rw [hH'] at he
    obtain ⟨fl, xs, ver0, hole, t, t1, hH, hG, hG1, hv, htop, hsome, hsk⟩ := he
    rw [hG'] at hG1
    injection hG1 with hG1
    injection hG1 with hG1
    subst hG1
    rw [hH, hG] at h2
    obtain ⟨ha, hb⟩ := h2
    refine ⟨ha.ext hv hsome hsk, fun hp q R hq hR => ?_⟩
    by_cases hnil : p = []
    · subst hnil
      simp only [tpath, Option.some.injEq] at hq
      subst hq
      obtain ⟨R0, hR0, e1, e2, e3, e4⟩ := htop R hR
      have := hb (.inl rfl) [] R0 rfl hR0
      rw [e1, e2, e3, e4] at this
      exact this
    · have hver : ver = ver' := hp.resolve_left hnil
      have hle := ha.1 hnil
      have hveq : ver0 = ver' := by omega
      obtain ⟨R0, hR0, e1, e2, e3, e4⟩ := (hsk hveq).1 q R hR
      have := hb (.inr (by omega)) q R0 hq hR0
      rw [e1, e2, e3, e4] at this
      exact this
  · rename_i k xs' A c n' hH' hG'
    rw [hH'] at he
    intro hp
    subst hp
    rcases he with ⟨xs, hH, hG⟩ | ⟨fl, xs, ver0, hole, A0, c0, els, hH, hG, hG1⟩
    · rw [hH, ← hG, hG'] at h2
      exact h2 rfl
    · rw [hG'] at hG1
      injection hG1 with hG1
      injection hG1 with e1 e2 e3
      subst e1 e2 e3
      rw [hH, hG] at h2
      exact h2.2 (.inl rfl) [] ⟨k.sz, A, c, els⟩ rfl rfl
  · trivial

theorem ElRel.ext {n : Nat → Prop} {E E' : Env} (hx : Ext n E E') {r ver : Nat} {p : List Step} {i : Int} {fs : List Nat} {v : Value} (hr : n r) (h : ElRel E r ver p i fs v) : ElRel E' r ver p i fs v := by
  obtain ⟨h0, hh, h2⟩ := h
  refine ⟨h0, hh, ?_⟩
  have he := hx.roots r hr
  split
  · rename_i fl' k xs' ver' hole' t' hH' hG'
    rw [hH'] at he
    obtain ⟨fl, xs, ver0, hole, t, t1, hH, hG, hG1, hv, htop, hsome, hsk⟩ := he
    rw [hG'] at hG1
    injection hG1 with hG1
    injection hG1 with hG1
    subst hG1
    rw [hH, hG] at h2
    obtain ⟨ha, hb⟩ := h2
    refine ⟨ha.ext hv hsome hsk, fun hp q R o k1 k2 hq hR hk1 ho => ?_⟩
    by_cases hnil : p = []
    · subst hnil
      simp only [tpath, Option.some.injEq] at hq
      subst hq
      obtain ⟨R0, hR0, e1, e2, e3, e4⟩ := htop R hR
      have := hb (.inl rfl) [] R0 o k1 k2 rfl hR0 hk1 ho
      rw [e1, e2, e4] at this
      exact this
    · have hver : ver = ver' := hp.resolve_left hnil
      have hle := ha.1 hnil
      obtain ⟨R0, hR0, e1, e2, e3, e4⟩ := (hsk (by omega)).1 q R hR
      have := hb (.inr (by omega)) q R0 o k1 k2 hq hR0 hk1 ho
      rw [e1, e2, e4] at this
      exact this
  · rename_i k xs' A c n' hH' hG'
    rw [hH'] at he
    intro hp o k2 ho
    subst hp
    rcases he with ⟨xs, hH, hG⟩ | ⟨fl, xs, ver0, hole, A0, c0, els, hH, hG, hG1⟩
    · rw [hH, ← hG, hG'] at h2
      exact h2 rfl o k2 ho
    · rw [hG'] at hG1
      injection hG1 with hG1
      injection hG1 with e1 e2 e3
      subst e1 e2 e3
      rw [hH, hG] at h2
      exact h2.2 (.inl rfl) [] ⟨k.sz, A, c, els⟩ o k k2 rfl rfl rfl ho
  · trivial

mutual
theorem RelV.ext {n : Nat → Prop} {E E' : Env} (hx : Ext n E E') : ∀ (a : AV) (v : Value), (∀ q ∈ a.ids, n q) → RelV E a v → RelV E' a v
  | .undef, _, _, _ => trivial
  | .skip, _, _, h => h
  | .data k d, v, _, h => by
    unfold RelV at h ⊢
    split
    · rename_i hk; simp only [hk] at h; obtain ⟨cs, e, hr⟩ := h; exact ⟨cs, e, hr.mono hx.stay k _ _⟩
    · rename_i hk; simp only [hk] at h; exact RepC.mono hx.stay k _ _ h
  | .lit k l, v, _, h => by obtain ⟨A, e, hr⟩ := h; exact ⟨A, e, hr.imp hx.stay (RepC.mono hx.stay k)⟩
  | .nilS _, _, _, h => h
  | .nilV _, _, _, h => h
  | .agg l, v, hi, h => by obtain ⟨vs, e, hr⟩ := h; exact ⟨vs, e, RelAll.ext hx l _ hi hr⟩
  | .tuple l, v, hi, h => by obtain ⟨vs, e, hr⟩ := h; exact ⟨vs, e, RelAll.ext hx l _ hi hr⟩
  | .ptr r off, v, hi, h => by
    obtain ⟨g, h1, h2⟩ := h
    refine ⟨g, h1, fun cells hc => ?_⟩
    have he := hx.roots r (hi r (by simp [AV.ids]))
    rw [hc] at he
    obtain ⟨⟨c, hH⟩, hG⟩ := he
    exact hG.trans (h2 c hH)
  | .at k d, v, _, h => by
    obtain ⟨a, cs, e, hs, hr, hc⟩ := h
    exact ⟨a, cs, e, (hx.stay _ hs).1, hr.mono hx.stay k _ _, fun j hj => (cell_of_heap (by rw [add_block]; exact (hx.stay _ hs).2)).trans (hc j hj)⟩
  | .sl r ver p off len, v, hi, h => SlRel.ext hx (hi r (by simp [AV.ids])) h
  | .el r ver p i fs, v, hi, h => ElRel.ext hx (hi r (by simp [AV.ids])) h
  | .fn f caps, v, hi, h => by obtain ⟨vs, e, hr⟩ := h; exact ⟨vs, e, RelAll.ext hx caps _ hi hr⟩
  | .mp r, v, hi, h => by
    obtain ⟨g, h1, h2⟩ := h
    refine ⟨g, h1, fun kk kv es hc => ?_⟩
    have he := hx.roots r (hi r (by simp [AV.ids]))
    rw [hc] at he
    obtain ⟨⟨es0, hH⟩, hG⟩ := he
    exact hG.trans (h2 kk kv es0 hH)
  | .it r, v, hi, h => by
    obtain ⟨g, h1, h2⟩ := h
    refine ⟨g, h1, fun s pos hc => ?_⟩
    have he := hx.roots r (hi r (by simp [AV.ids]))
    rw [hc] at he
    obtain ⟨⟨s0, p0, hH⟩, hG⟩ := he
    exact hG.trans (h2 s0 p0 hH)
  | .iface t u, v, hi, h => by obtain ⟨x, e, hr⟩ := h; exact ⟨x, e, RelV.ext hx u x hi hr⟩
termination_by structural a => a
theorem RelAll.ext {n : Nat → Prop} {E E' : Env} (hx : Ext n E E') : ∀ (l : List AV) (vs : List Value), (∀ q ∈ idsAll l, n q) → RelAll E l vs → RelAll E' l vs
  | [], _, _, h => h
  | a :: l, vs, hi, h => by
    obtain ⟨v, vs', e, h1, h2⟩ := h
    exact ⟨v, vs', e, RelV.ext hx a v (fun q hq => hi q (by simp [idsAll, hq])) h1, RelAll.ext hx l vs' (fun q hq => hi q (by simp [idsAll, hq])) h2⟩
termination_by structural l => l
end
theorem RelAll2.ext {n : Nat → Prop} {E E' : Env} (hx : Ext n E E') {l : List AV} {vs : List Value} (hi : ∀ q ∈ idsAll l, n q) (h : All2 (RelV E) l vs) : All2 (RelV E') l vs :=
  RelAll.iff.1 (RelAll.ext hx l vs hi (RelAll.iff.2 h))
end Go.Lite
end

section
/-
  LITE 5: the state, and operations that leave the memory as it is.
-/
set_option linter.unusedVariables false
set_option linter.unusedSimpArgs false
namespace Go.Lite
open Go Go.RowKit

/-! ### The state -/
structure RelS (glob : Nat → Option Comp) (E : Env) (n : Nat → Prop) (s : St) (a : Act) : Prop where
  H : E.H = s.heap
  good : Good E n
  slots : ∀ t, RelV E (s.slots t) (a.tmps.getD t undef)
  names : ∀ t, ∀ q ∈ (s.slots t).ids, n q
  glob : ∀ g c, glob g = some c → RelV E (.at c.k c.d) (.pointer (some ⟨g, 0, none⟩))

structure Post (E : Env) (n : Nat → Prop) (r : Res) (n' : Nat → Prop) (v : Value) (E' : Env) : Prop where
  H : E'.H = r.H
  good : Good E' n'
  ext : Ext n E E'
  rel : RelV E' r.v v
  names : ∀ q ∈ r.v.ids, n' q
  tr : Tr (Own E.G) E.w E'.w
  own : ∀ b, Own E'.G b → b < E.w.heap.size → Own E.G b
  F : E'.F = E.F

theorem Good.mono {E : Env} {n n' : Nat → Prop} (h : Good E n) (hn : ∀ q, n q → n' q) : Good E n' :=
  ⟨h.S, h.roots, h.none, h.lt, h.apart, h.nodup, fun r root hr => ⟨hn _ (h.names r root hr).1, fun q hq => hn _ ((h.names r root hr).2 q hq)⟩, h.F⟩
theorem setEl_length (els : List (List T)) (i j : Nat) (t : T) : (setEl els i j t).length = els.length := by unfold setEl; split <;> simp
theorem setC_row {p : List (Nat × Nat)} {u t' : T} {sz : Nat} {A : Option Addr} {c : Nat} {els : List (List T)} (hp : p ≠ []) (h : T.setC p u (.row sz A c els) = some t') : ∃ els', t' = .row sz A c els' ∧ els'.length = els.length := by
  cases p with
  | nil => exact absurd rfl hp
  | cons x p =>
    obtain ⟨i, j⟩ := x
    simp only [T.setC] at h
    cases hat : (T.row sz A c els).at? i j with
    | none => rw [hat] at h; cases h
    | some v =>
      rw [hat] at h
      cases hu : T.setC p u v with
      | none => simp only [hu] at h; cases h
      | some u' => simp only [hu] at h; injection h with h; exact ⟨_, h.symm, setEl_length _ _ _ _⟩
theorem RelRoot.arr {E : Env} {fl : Fl} {k : K} {xs : List k.D} {ver : Nat} {hole : Option (List Step)} {gr : GRoot} (h : RelRoot E (.arr fl k xs ver hole) gr) : ∃ A c els, gr = .arr (.row k.sz A c els) ∧ els.length = xs.length := by
  cases gr with
  | arr t =>
    cases hole with
    | none => obtain ⟨A, c, els, h, _, ha⟩ := h; exact ⟨A, c, els, by rw [h], ha.length.symm⟩
    | some q =>
      obtain ⟨A, c, els, pq, hq, hne, ha, hs, _⟩ := h
      have hpq : pq ≠ [] := by
        rintro rfl
        cases q with
        | nil => exact hne rfl
        | cons s q =>
          simp only [tpath] at hq
          split at hq
          · split at hq <;> cases hq
          · cases hq
      obtain ⟨els', rfl, hl⟩ := setC_row hpq hs
      exact ⟨A, c, els', rfl, hl.trans ha.length.symm⟩
  | _ => cases hole <;> exact h.elim
theorem Good.arr {E : Env} {n : Nat → Prop} (h : Good E n) (r : Nat) (fl : Fl) (k : K) (xs : List k.D) (ver : Nat) (hole : Option (List Step)) (hr : E.H r = some (.arr fl k xs ver hole)) : ∃ A c els, E.G r = some (.arr (.row k.sz A c els)) ∧ els.length = xs.length := by
  obtain ⟨gr, hg, hrel⟩ := h.roots r _ hr
  obtain ⟨A, c, els, rfl, hl⟩ := hrel.arr
  exact ⟨A, c, els, hg, hl⟩
theorem Ext.refl {E : Env} {n m : Nat → Prop} (h : Good E m) : Ext n E E := ⟨fun b hb => ⟨hb, rfl⟩, fun r _ => ExtR.refl _ _ (fun fl k xs ver hole hr => by
  obtain ⟨A, c, els, hg, _⟩ := h.arr r fl k xs ver hole hr
  exact ⟨_, hg, rfl⟩)⟩
theorem Post.same {E : Env} {n n' : Nat → Prop} {av : AV} {v : Value} (h : Good E n) (hn : ∀ q, n q → n' q) (hr : RelV E av v) (hi : ∀ q ∈ av.ids, n' q) : Post E n ⟨av, E.H⟩ n' v E :=
  ⟨rfl, h.mono hn, Ext.refl h, hr, hi, Tr.refl _ _, fun _ hb _ => hb, rfl⟩

/-! ### Words for scalar values -/
theorem relV_int {E : Env} {k : IntKind} {n : Int} {v : Value} : RelV E (.data (.int k) n) v ↔ v = .int k n := by
  simp [RelV, K.isAgg, RepC]
theorem relV_intV {E : Env} {k : IntKind} {n : Int} {v : Value} : RelV E (intV k n) v ↔ v = .int k n := relV_int
theorem relV_bool {E : Env} {b : Bool} {v : Value} : RelV E (.data .bool b) v ↔ v = .bool b := by
  simp [RelV, K.isAgg, RepC]
theorem relV_boolV {E : Env} {b : Bool} {v : Value} : RelV E (boolV b) v ↔ v = .bool b := relV_bool
theorem relV_str {E : Env} {s : ByteArray} {v : Value} : RelV E (.data .str s) v ↔ v = .string s := by
  simp [RelV, K.isAgg, RepC]
theorem cast_some {k k' : K} {d : k.D} {d' : k'.D} (h : K.cast? k k' d = some d') : ∃ e : k = k', d' = e ▸ d := by
  unfold K.cast? at h
  split at h
  · rename_i e; injection h with h; exact ⟨e, h.symm⟩
  · cases h
theorem cast_self (k : K) (d : k.D) : K.cast? k k d = some d := by simp [K.cast?]

theorem chk_some {α : Type} {b : Bool} {x : Unit → Option α} {r : α} (h : chk b x = some r) : b = true ∧ x () = some r := by
  cases b with
  | true => exact ⟨rfl, h⟩
  | false => cases h

theorem constAV_rel {E : Env} {v : Value} {av : AV} (h : constAV v = some av) : RelV E av v ∧ av.ids = [] := by
  unfold constAV at h
  split at h <;> first
    | (injection h with h; subst h; exact ⟨by simp [relV_intV], rfl⟩)
    | (injection h with h; subst h; exact ⟨by simp [relV_boolV], rfl⟩)
    | (injection h with h; subst h; exact ⟨by simp [relV_str], rfl⟩)
    | (injection h with h; subst h; exact ⟨rfl, rfl⟩)
    | cases h

theorem operand_rel {P : Program} {hint : Nat → Hint} {glob : Nat → Option Comp} {E : Env} {n : Nat → Prop} {s : St} {a : Act} (hs : RelS glob E n s a) {x : Operand} {av : AV} (h : operand (mkCx P hint glob) s.slots x = some av) :
    RelV E av (a.eval x) ∧ ∀ q ∈ av.ids, n q := by
  cases x with
  | tmp t => injection h with h; subst h; exact ⟨hs.slots t, hs.names t⟩
  | const v => obtain ⟨h1, h2⟩ := constAV_rel (E := E) h; exact ⟨h1, by simp [h2]⟩
  | func f => injection h with h; subst h; exact ⟨⟨#[], rfl, rfl⟩, by simp [AV.ids, idsAll]⟩
  | global g =>
    simp only [operand, mkCx] at h
    split at h
    · rename_i c hc; injection h with h; subst h; exact ⟨hs.glob g c hc, by simp [AV.ids]⟩
    · cases h

theorem wp_of_value {P : Program} {o : Oper} {a : Act} {w w' : World} {K : Act → World → Prop} {Q : Exit → Act → World → Prop} {v : Value}
    (h : (execOp a.eval o).run P w = .ok (.value v) w') (hk : K (a.put o.dst v) w') : o.wp P a w K Q := by
  unfold Oper.wp
  rw [h]
  exact hk
theorem wp_of_skip {P : Program} {o : Oper} {a : Act} {w w' : World} {K : Act → World → Prop} {Q : Exit → Act → World → Prop}
    (h : (execOp a.eval o).run P w = .ok .skip w') (hk : K (a.put o.dst undef) w') : o.wp P a w K Q := by
  unfold Oper.wp
  rw [h]
  exact hk

/-! ### Arithmetic -/
theorem eqGuard_run {P : Program} {op : BinOp} {t : TypeId} {x y : Operand} {a b : Value} {w : World} (h1 : ∀ cs, a ≠ .agg cs) (h2 : a = .nilIface → b ≠ .nilIface) :
    (eqGuard op t x y a b).run P w = .ok () w := by
  unfold eqGuard
  cases op <;> (cases a <;> first | exact absurd rfl (h1 _) | (cases b <;> first | rfl | exact absurd rfl (h2 rfl)))

theorem intBin_ok {P : Program} {E : Env} {op : BinOp} {k : IntKind} {a b : Int} {t : TypeId} {r : AV} (h : intBin op k a b = some r) :
    ∃ v, (Go.binOp op t (.int k a) (.int k b)).run P E.w = .ok v E.w ∧ RelV E r v ∧ r.ids = [] := by
  cases op <;> simp only [intBin] at h <;> first
    | (injection h with h; subst h
       simp only [Go.binOp, ne_eq, not_true_eq_false, if_false]
       exact ⟨_, rfl, by first | exact relV_intV.2 rfl | exact relV_boolV.2 rfl, rfl⟩)
    | (obtain ⟨h0, h⟩ := chk_some h
       simp only [Option.some.injEq] at h
       subst h
       have hb : ¬ b = 0 := by simpa using h0
       simp only [Go.binOp, ne_eq, not_true_eq_false, if_false, Op.intDiv, hb]
       exact ⟨_, rfl, relV_intV.2 rfl, rfl⟩)
    | cases h

theorem shiftInt_ok {P : Program} {E : Env} {op : BinOp} {k k' : IntKind} {a b : Int} {t : TypeId} {r : AV} (hop : op = .shl ∨ op = .shr) (h : shiftInt op k a b = some r) :
    ∃ v, (Go.binOp op t (.int k a) (.int k' b)).run P E.w = .ok v E.w ∧ RelV E r v ∧ r.ids = [] := by
  obtain ⟨h0, h⟩ := chk_some h
  have hb : ¬ b < 0 := by have := of_decide_eq_true h0; omega
  rcases hop with rfl | rfl <;> (simp only [Option.some.injEq] at h; subst h; simp only [Go.binOp, Op.shift, hb, if_false]; exact ⟨_, rfl, relV_intV.2 rfl, rfl⟩)

theorem bytesLess_eq : ∀ (x y : List UInt8), bytesLess x y = Op.bytesLess x y
  | _, [] => by simp [bytesLess, Op.bytesLess]
  | [], _ :: _ => rfl
  | a :: x, b :: y => by simp only [bytesLess, Op.bytesLess, bytesLess_eq x y]

theorem strBin_ok {P : Program} {E : Env} {op : BinOp} {a b : ByteArray} {t : TypeId} {r : AV} (h : strBin op a b = some r) :
    ∃ v, (Go.binOp op t (.string a) (.string b)).run P E.w = .ok v E.w ∧ RelV E r v ∧ r.ids = [] := by
  cases op <;> simp only [strBin] at h <;> first
    | (injection h with h; subst h
       (try simp only [bytesLess_eq])
       exact ⟨_, rfl, relV_boolV.2 rfl, rfl⟩)
    | (obtain ⟨h0, h⟩ := chk_some h
       simp only [Option.some.injEq] at h
       subst h
       have hb := of_decide_eq_true h0
       have hm : ¬ (((a.size + b.size : Nat) : Int) > IntKind.i64.max) := by
         simp only [IntKind.max, IntKind.signed, IntKind.bits]; simp; omega
       refine ⟨.string (a ++ b), ?_, relV_str.2 rfl, rfl⟩
       simp only [Go.binOp, Op.stringOp, if_neg hm]
       rfl)
    | cases h

theorem unOp_ok {P : Program} {E : Env} {op : UnOp} {x r : AV} {vx : Value} (hx : RelV E x vx) (h : unOp op x = some r) :
    ∃ v, (Op.unary op vx).run P E.w = .ok v E.w ∧ RelV E r v ∧ r.ids = [] := by
  unfold unOp at h
  split at h
  · injection h with h; subst h; have hx := relV_int.1 hx; subst hx; exact ⟨_, rfl, relV_intV.2 rfl, rfl⟩
  · injection h with h; subst h; have hx := relV_int.1 hx; subst hx; exact ⟨_, rfl, relV_intV.2 rfl, rfl⟩
  · injection h with h; subst h; have hx := relV_bool.1 hx; subst hx; exact ⟨_, rfl, relV_boolV.2 rfl, rfl⟩
  · cases h

/-! ### Types -/
theorem ty_some {P : Program} {t : TypeId} {i : Ty} (h : tyOf P t = some i) : ∃ info d, P.info? t = some info ∧ P.underlying t = some d ∧ i.td = tdOf d ∧ i.size = info.size ∧ i.bytes = info.bytes ∧ i.kind = kindOf P 12 t := by
  unfold tyOf at h
  split at h
  · rename_i info d h1 h2
    injection h with h
    subst h
    exact ⟨info, d, h1, h2, rfl, rfl, rfl, rfl⟩
  · cases h

structure KindIs (P : Program) (n : Nat) (t : TypeId) (k : K) : Prop where
  out : ∃ info d v, P.info? t = some info ∧ P.underlying t = some d ∧ rawKind (kindOf P n) d = some k ∧ info.size = k.sz ∧ info.zero = some v ∧ sameVals k.zeroVals v.cells.toList = true ∧ isAggV v = k.isAgg

theorem kind_some {P : Program} {n : Nat} {t : TypeId} {k : K} (h : kindOf P (n + 1) t = some k) : KindIs P n t k := by
  unfold kindOf at h
  split at h
  · rename_i info d h1 h2
    split at h
    · rename_i k' hk
      split at h
      · rename_i hc
        injection h with h
        subst h
        simp only [Bool.and_eq_true, beq_iff_eq] at hc
        obtain ⟨hs, hz⟩ := hc
        split at hz
        · rename_i v hv
          simp only [Bool.and_eq_true, beq_iff_eq] at hz
          exact ⟨⟨info, d, v, h1, h2, hk, hs, hv, hz.1, hz.2⟩⟩
        · cases hz
      · cases h
    · cases h
  · cases h

def aggD : TypeDesc → Bool
  | .struct _ | .array _ _ => true
  | _ => false
theorem map_some {α β : Type} {x : Option α} {f : α → β} {y : β} (h : x.map f = some y) : ∃ a, x = some a ∧ f a = y := by
  cases x with
  | none => cases h
  | some a => injection h with h; exact ⟨a, rfl, h⟩
theorem kindsOf_agg {f : TypeId → Option K} : ∀ (l : List Field) (off : Nat) (k : K), kindsOf f off l = some k → k.isAgg = true
  | [], _, _, h => by injection h with h; subst h; rfl
  | a :: l, off, k, h => by
    simp only [kindsOf] at h
    split at h
    · split at h
      · split at h
        · injection h with h; subst h; rfl
        · cases h
      · cases h
    · cases h
/-- A type of a kind: an aggregate if the kind is one. -/
theorem rawKind_agg {f : TypeId → Option K} {d : TypeDesc} {k : K} (h : rawKind f d = some k) : k.isAgg = aggD d := by
  cases d <;> simp only [rawKind] at h <;> first
    | (injection h with h; subst h; rfl)
    | (obtain ⟨a, _, rfl⟩ := map_some h; rfl)
    | exact kindsOf_agg _ _ _ h
    | cases h

theorem run_isAgg_of {P : Program} {t : TypeId} {d : TypeDesc} (h : P.underlying t = some d) (w : World) : (isAgg t).run P w = .ok (aggD d) w := by
  unfold isAgg
  rw [Sem.run_bind, run_underlying h]
  cases d <;> rfl
theorem run_sizeOf_of {P : Program} {t : TypeId} {i : TypeInfo} (h : P.info? t = some i) (w : World) : (sizeOf t).run P w = .ok i.size w := by
  unfold sizeOf typeInfo
  simp [h]
theorem run_zeroValue_of {P : Program} {t : TypeId} {i : TypeInfo} {v : Value} (h : P.info? t = some i) (hz : i.zero = some v) (w : World) : (zeroValue t).run P w = .ok v w := by
  unfold zeroValue typeInfo
  simp [h, hz]

/-- A value of a kind has its cells. -/
theorem relV_data {E : Env} {k : K} {d : k.D} {v : Value} : RelV E (.data k d) v ↔ RepC E.S E.w k d v.cells.toList ∧ (k.isAgg = true → ∃ cs : Array Value, v = .agg cs) ∧ (k.isAgg = false → v.cells = #[v]) := by
  unfold RelV
  cases hk : k.isAgg with
  | true =>
    constructor
    · rintro ⟨cs, rfl, h⟩; exact ⟨h, fun _ => ⟨cs, rfl⟩, fun h => by cases h⟩
    · rintro ⟨h, h1, _⟩; obtain ⟨cs, rfl⟩ := h1 rfl; exact ⟨cs, rfl, h⟩
  | false =>
    have one : ∀ (k : K) (d : k.D), k.isAgg = false → RepC E.S E.w k d [v] → v.cells = #[v] := by
      intro k d hk h
      cases k with
      | int _ => simp only [RepC] at h; injection h with h _; subst h; rfl
      | bool => simp only [RepC] at h; injection h with h _; subst h; rfl
      | str => simp only [RepC] at h; injection h with h _; subst h; rfl
      | slice k => obtain ⟨A, c, h, _⟩ := h; injection h with h _; subst h; rfl
      | _ => cases hk
    constructor
    · intro h; have := one k d hk h; exact ⟨by rw [this]; exact h, fun h => (by cases h), fun _ => this⟩
    · rintro ⟨h, _, h2⟩; rw [h2 rfl] at h; exact h
end Go.Lite
end

section
/-
  LITE 6: ways into data and rows.
-/
set_option linter.unusedVariables false
set_option linter.unusedSimpArgs false
namespace Go.Lite
open Go Go.RowKit

theorem off1_le : ∀ (k : K) (f o : Nat) (k' : K), k.off1 f = some (o, k') → o + k'.sz ≤ k.sz
  | .pair a b, 0, o, k', h => by simp only [K.off1, Option.some.injEq, Prod.mk.injEq] at h; obtain ⟨rfl, rfl⟩ := h; simp [K.sz]
  | .pair a b, n + 1, o, k', h => by
    simp only [K.off1] at h
    split at h
    · rename_i o1 k1 h1
      simp only [Option.some.injEq, Prod.mk.injEq] at h
      obtain ⟨rfl, rfl⟩ := h
      have := off1_le b n o1 k1 h1
      simp only [K.sz]; omega
    · cases h
  | .int _, _, _, _, h => by cases h
  | .bool, _, _, _, h => by cases h
  | .str, _, _, _, h => by cases h
  | .unit, _, _, _, h => by cases h
  | .slice _, _, _, _, h => by cases h
  | .array _ _, _, _, _, h => by cases h

theorem comp1_off1 : ∀ (k : K) (d : k.D) (f : Nat) (c : Comp), k.comp1 d f = some c → ∃ o, k.off1 f = some (o, c.k)
  | .pair a b, d, 0, c, h => by simp only [K.comp1, Option.some.injEq] at h; subst h; exact ⟨0, rfl⟩
  | .pair a b, d, n + 1, c, h => by
    simp only [K.comp1] at h
    obtain ⟨o, ho⟩ := comp1_off1 b d.2 n c h
    exact ⟨a.sz + o, by simp only [K.off1, ho]⟩
  | .int _, _, _, _, h => by cases h
  | .bool, _, _, _, h => by cases h
  | .str, _, _, _, h => by cases h
  | .unit, _, _, _, h => by cases h
  | .slice _, _, _, _, h => by cases h
  | .array _ _, _, _, _, h => by cases h

theorem RepC.comp1 {S : Nat → Prop} {w : World} : ∀ (k : K) (d : k.D) (cs : List Value) (f : Nat) (c : Comp) (o : Nat) (k' : K), RepC S w k d cs → k.comp1 d f = some c → k.off1 f = some (o, k') →
    k' = c.k ∧ RepC S w c.k c.d ((cs.drop o).take c.k.sz)
  | .pair a b, d, cs, 0, c, o, k', hr, h, ho => by
    simp only [K.comp1, Option.some.injEq] at h
    simp only [K.off1, Option.some.injEq, Prod.mk.injEq] at ho
    obtain ⟨rfl, rfl⟩ := ho
    subst h
    obtain ⟨c1, c2, rfl, h1, h2⟩ := hr
    refine ⟨rfl, ?_⟩
    have hl := h1.length a _ _
    rw [List.drop_zero, List.take_append_of_le_length (by simp [hl]), List.take_of_length_le (by simp [hl])]
    exact h1
  | .pair a b, d, cs, n + 1, c, o, k', hr, h, ho => by
    simp only [K.comp1] at h
    simp only [K.off1] at ho
    split at ho
    · rename_i o1 k1 h1
      simp only [Option.some.injEq, Prod.mk.injEq] at ho
      obtain ⟨rfl, rfl⟩ := ho
      obtain ⟨c1, c2, rfl, ha, hb⟩ := hr
      obtain ⟨e, hc⟩ := RepC.comp1 b d.2 c2 n c o1 k1 hb h h1
      refine ⟨e, ?_⟩
      have hl := ha.length a _ _
      rw [show a.sz + o1 = c1.length + o1 by rw [hl], List.drop_length_add_append]
      exact hc
    · cases ho
  | .int _, _, _, _, _, _, _, _, h, _ => by cases h
  | .bool, _, _, _, _, _, _, _, h, _ => by cases h
  | .str, _, _, _, _, _, _, _, h, _ => by cases h
  | .unit, _, _, _, _, _, _, _, h, _ => by cases h
  | .slice _, _, _, _, _, _, _, _, h, _ => by cases h
  | .array _ _, _, _, _, _, _, _, _, h, _ => by cases h

theorem drop_take_drop {α : Type} (l : List α) (o o' n m : Nat) (h : o' + m ≤ n) : (((l.drop o).take n).drop o').take m = (l.drop (o + o')).take m := by
  rw [List.drop_take, List.take_take, List.drop_drop]
  congr 1
  omega

theorem RepC.comp {S : Nat → Prop} {w : World} : ∀ (fs : List Nat) (k : K) (d : k.D) (cs : List Value) (c : Comp) (o : Nat) (k' : K), RepC S w k d cs → K.comp fs k d = some c → offs fs k = some (o, k') →
    k' = c.k ∧ RepC S w c.k c.d ((cs.drop o).take c.k.sz) ∧ o + c.k.sz ≤ k.sz
  | [], k, d, cs, c, o, k', hr, h, ho => by
    simp only [K.comp, Option.some.injEq] at h
    simp only [offs, Option.some.injEq, Prod.mk.injEq] at ho
    obtain ⟨rfl, rfl⟩ := ho
    subst h
    refine ⟨rfl, ?_, by simp⟩
    have hl := hr.length k _ _
    rw [List.drop_zero, List.take_of_length_le (by simp [hl])]
    exact hr
  | f :: fs, k, d, cs, c, o, k', hr, h, ho => by
    simp only [K.comp] at h
    simp only [offs] at ho
    split at h
    · rename_i k1 d1 h1
      split at ho
      · rename_i o1 k1' ho1
        split at ho
        · rename_i o2 k2 ho2
          simp only [Option.some.injEq, Prod.mk.injEq] at ho
          obtain ⟨rfl, rfl⟩ := ho
          obtain ⟨e, hc⟩ := RepC.comp1 k d cs f ⟨k1, d1⟩ o1 k1' hr h1 ho1
          subst e
          have hle := off1_le k f o1 k1' ho1
          obtain ⟨e2, hc2, hl2⟩ := RepC.comp fs k1' d1 _ c o2 k2 hc h ho2
          refine ⟨e2, ?_, by omega⟩
          rw [drop_take_drop _ _ _ _ _ hl2] at hc2
          exact hc2
        · cases ho
      · cases ho
    · cases h

theorem comp_offs : ∀ (fs : List Nat) (k : K) (d : k.D) (c : Comp), K.comp fs k d = some c → ∃ o, offs fs k = some (o, c.k)
  | [], k, d, c, h => by simp only [K.comp, Option.some.injEq] at h; subst h; exact ⟨0, rfl⟩
  | f :: fs, k, d, c, h => by
    simp only [K.comp] at h
    split at h
    · rename_i k1 d1 h1
      obtain ⟨o1, ho1⟩ := comp1_off1 k d f _ h1
      obtain ⟨o2, ho2⟩ := comp_offs fs k1 d1 c h
      exact ⟨o1 + o2, by simp only [offs, ho1, ho2]⟩
    · cases h

theorem AbsT.comp1 {S : Nat → Prop} {w : World} : ∀ (f : Nat) (fl : Fl) (k : K) (d : k.D) (ts : List T) (c : Comp) (o : Nat) (k' : K), AbsT S w fl k d ts → k.comp1 d f = some c → k.off1 f = some (o, k') →
    k' = c.k ∧ AbsT S w (fl.comp1 f) c.k c.d ((ts.drop o).take c.k.sz) := by
  intro f fl
  induction fl generalizing f with
  | no =>
    intro k d ts c o k' hr h ho
    obtain ⟨vs, rfl, hr⟩ := hr
    obtain ⟨e, hc⟩ := RepC.comp1 k d vs f c o k' hr h ho
    have e2 : Fl.no.comp1 f = .no := by cases f <;> rfl
    rw [e2]
    exact ⟨e, _, by rw [← List.map_drop, ← List.map_take], hc⟩
  | row g ih =>
    intro k d ts c o k' hr h ho
    cases k with
    | slice k => cases h
    | _ => exact hr.elim
  | pr fa fb iha ihb =>
    intro k d ts c o k' hr h ho
    cases k with
    | pair a b =>
      obtain ⟨t1, t2, rfl, h1, h2⟩ := hr
      have hl := h1.length fa _ _ _
      cases f with
      | zero =>
        simp only [K.comp1, Option.some.injEq] at h
        simp only [K.off1, Option.some.injEq, Prod.mk.injEq] at ho
        obtain ⟨rfl, rfl⟩ := ho
        subst h
        refine ⟨rfl, ?_⟩
        rw [List.drop_zero, List.take_append_of_le_length (by simp [hl]), List.take_of_length_le (by simp [hl])]
        exact h1
      | succ n =>
        simp only [K.comp1] at h
        simp only [K.off1] at ho
        split at ho
        · rename_i o1 k1 ho1
          simp only [Option.some.injEq, Prod.mk.injEq] at ho
          obtain ⟨rfl, rfl⟩ := ho
          obtain ⟨e, hc⟩ := ihb n b d.2 t2 c o1 k1 h2 h ho1
          refine ⟨e, ?_⟩
          rw [show a.sz + o1 = t1.length + o1 by rw [hl], List.drop_length_add_append]
          exact hc
        · cases ho
    | _ => exact hr.elim

theorem AbsT.comp {S : Nat → Prop} {w : World} : ∀ (fs : List Nat) (fl : Fl) (k : K) (d : k.D) (ts : List T) (c : Comp) (o : Nat) (k' : K), AbsT S w fl k d ts → K.comp fs k d = some c → offs fs k = some (o, k') →
    k' = c.k ∧ AbsT S w (Fl.comp fs fl) c.k c.d ((ts.drop o).take c.k.sz) ∧ o + c.k.sz ≤ k.sz
  | [], fl, k, d, cs, c, o, k', hr, h, ho => by
    simp only [K.comp, Option.some.injEq] at h
    simp only [offs, Option.some.injEq, Prod.mk.injEq] at ho
    obtain ⟨rfl, rfl⟩ := ho
    subst h
    refine ⟨rfl, ?_, by simp⟩
    have hl := hr.length fl k _ _
    rw [List.drop_zero, List.take_of_length_le (by simp [hl])]
    exact hr
  | f :: fs, fl, k, d, cs, c, o, k', hr, h, ho => by
    simp only [K.comp] at h
    simp only [offs] at ho
    split at h
    · rename_i k1 d1 h1
      split at ho
      · rename_i o1 k1' ho1
        split at ho
        · rename_i o2 k2 ho2
          simp only [Option.some.injEq, Prod.mk.injEq] at ho
          obtain ⟨rfl, rfl⟩ := ho
          obtain ⟨e, hc⟩ := AbsT.comp1 f fl k d cs ⟨k1, d1⟩ o1 k1' hr h1 ho1
          subst e
          have hle := off1_le k f o1 k1' ho1
          obtain ⟨e2, hc2, hl2⟩ := AbsT.comp fs (fl.comp1 f) k1' d1 _ c o2 k2 hc h ho2
          refine ⟨e2, ?_, by omega⟩
          rw [drop_take_drop _ _ _ _ _ hl2] at hc2
          exact hc2
        · cases ho
      · cases ho
    · cases h

theorem mem_blocksRow : ∀ {r : List T} {j : Nat} {t : T}, r[j]? = some t → ∀ b ∈ t.blocks, b ∈ blocksRow r
  | [], _, _, h, _, _ => by simp at h
  | x :: r, 0, t, h, b, hb => by simp at h; subst h; simp [blocksRow, hb]
  | x :: r, j + 1, t, h, b, hb => by simp [blocksRow, mem_blocksRow (r := r) (j := j) (by simpa using h) b hb]
theorem mem_blocksEls : ∀ {l : List (List T)} {i : Nat} {r : List T}, l[i]? = some r → ∀ b ∈ blocksRow r, b ∈ blocksEls l
  | [], _, _, h, _, _ => by simp at h
  | x :: l, 0, r, h, b, hb => by simp at h; subst h; simp [blocksEls, hb]
  | x :: l, i + 1, r, h, b, hb => by simp [blocksEls, mem_blocksEls (l := l) (i := i) (by simpa using h) b hb]
theorem okRow_get {w : World} : ∀ {r : List T} {j : Nat} {t : T}, okRow w r → r[j]? = some t → t.ok w
  | [], _, _, _, h => by simp at h
  | x :: r, 0, t, ho, h => by simp at h; subst h; exact ho.1
  | x :: r, j + 1, t, ho, h => okRow_get (r := r) (j := j) ho.2 (by simpa using h)
theorem okEls_get {w : World} : ∀ {l : List (List T)} {i : Nat} {r : List T}, okEls w l → l[i]? = some r → okRow w r
  | [], _, _, _, h => by simp at h
  | x :: l, 0, r, ho, h => by simp at h; subst h; exact ho.1
  | x :: l, i + 1, r, ho, h => okEls_get (l := l) (i := i) ho.2 (by simpa using h)

theorem idsAll_append : ∀ (l m : List AV), idsAll (l ++ m) = idsAll l ++ idsAll m
  | [], _ => rfl
  | x :: l, m => by simp [idsAll, idsAll_append l m]
theorem mem_idsAll : ∀ {l : List AV} {i : Nat} {c : AV}, l[i]? = some c → ∀ r ∈ c.ids, r ∈ idsAll l
  | [], _, _, h, _, _ => by simp at h
  | x :: l, 0, c, h, r, hr => by simp at h; subst h; simp [idsAll, hr]
  | x :: l, i + 1, c, h, r, hr => by simp [idsAll, mem_idsAll (l := l) (i := i) (by simpa using h) r hr]
theorem at_some {sz : Nat} {A : Option Addr} {c : Nat} {els : List (List T)} {i j : Nat} {t : T} (h : (T.row sz A c els).at? i j = some t) : ∃ r, els[i]? = some r ∧ r[j]? = some t := by
  simp only [T.at?] at h
  split at h
  · rename_i r hr; exact ⟨r, hr, h⟩
  · cases h

theorem one_of_drop_take {α : Type} {l : List α} {o : Nat} {x : α} (h : (l.drop o).take 1 = [x]) : l[o]? = some x := by
  have : ((l.drop o).take 1)[0]? = some x := by rw [h]; rfl
  simpa using this

/-- The row at the end of a path. -/
theorem nav {S : Nat → Prop} {w : World} : ∀ (p : List Step) (fl f : Fl) (k : K) (xs : List k.D) (A : Option Addr) (c : Nat) (els : List (List T)) (q : List (Nat × Nat)) (R : RowT) (row : Rw),
    All2 (AbsT S w fl k) xs els → RowOk w k.sz A c els → okEls w els → tpath k p = some q → T.getRow q (.row k.sz A c els) = some R → fl.path p = some f → getP p k xs = some row →
    R.sz = row.k.sz ∧ RowOk w R.sz R.A R.c R.els ∧ okEls w R.els ∧ All2 (AbsT S w f row.k) row.xs R.els ∧ (∀ b ∈ (T.row R.sz R.A R.c R.els).blocks, b ∈ (T.row k.sz A c els).blocks) ∧ pathKind k p = some row.k
  | [], fl, f, k, xs, A, c, els, q, R, row, ha, h1, h2, hq, hR, hf, hp => by
    simp only [tpath, Option.some.injEq] at hq
    subst hq
    simp only [T.getRow, Option.some.injEq] at hR
    subst hR
    simp only [Fl.path, Option.some.injEq] at hf
    subst hf
    simp only [getP, Option.some.injEq] at hp
    subst hp
    exact ⟨rfl, h1, h2, ha, fun b hb => hb, rfl⟩
  | s :: p, fl, f, k, xs, A, c, els, q, R, row, ha, h1, h2, hq, hR, hf, hp => by
    simp only [tpath] at hq
    split at hq
    · rename_i o k' ho
      split at hq
      · rename_i q' hq'
        simp only [Option.some.injEq] at hq
        subst hq
        simp only [T.getRow] at hR
        split at hR
        · rename_i t ht
          obtain ⟨r, hr, hrt⟩ := at_some ht
          obtain ⟨x, hx, hax⟩ := ha.get' _ _ hr
          simp only [getP] at hp
          rw [List.getD_eq_getElem?_getD, hx, Option.getD_some] at hp
          split at hp
          · rename_i k1 d hc
            obtain ⟨e, hab, hle⟩ := AbsT.comp s.fs fl k x r ⟨.slice k1, d⟩ o (.slice k') hax hc ho
            injection e with e
            subst e
            simp only [Fl.path] at hf
            split at hf
            · rename_i g hg
              rw [hg] at hab
              obtain ⟨A1, c1, els1, he, ha1⟩ := hab
              have hro := one_of_drop_take he
              rw [hrt] at hro
              injection hro with hro
              subst hro
              have hok := okRow_get (okEls_get h2 hr) hrt
              obtain ⟨e1, e2, e3, e4, e5, e6⟩ := nav p g f k' d A1 c1 els1 q' R row ha1 hok.1 hok.2 hq' hR hf hp
              refine ⟨e1, e2, e3, e4, fun b hb => ?_, by simp only [pathKind, ho]; exact e6⟩
              have := mem_blocksEls hr b (mem_blocksRow hrt b (e5 b hb))
              simp only [T.blocks, List.mem_append]
              exact .inr this
            · cases hf
          · cases hp
        · cases hR
      · cases hq
    · cases hq
end Go.Lite
end

section
/-
  LITE 7: what slices hold.
-/
set_option linter.unusedVariables false
set_option linter.unusedSimpArgs false
namespace Go.Lite
open Go Go.RowKit

theorem AbsT.nogap {S : Nat → Prop} {w : World} (f : Fl) : ∀ (k : K) (d : k.D) (ts : List T), AbsT S w f k d ts → ∀ t ∈ ts, t ≠ .gap := by
  induction f with
  | no => rintro k d ts ⟨vs, rfl, hr⟩ t ht; obtain ⟨v, _, rfl⟩ := List.mem_map.1 ht; exact fun h => by cases h
  | row f ih =>
    intro k d ts h t ht
    cases k with
    | slice k => obtain ⟨A, c, els, rfl, ha⟩ := h; simp at ht; subst ht; exact fun h => by cases h
    | _ => exact h.elim
  | pr a b iha ihb =>
    intro k d ts h t ht
    cases k with
    | pair ka kb =>
      obtain ⟨t1, t2, rfl, h1, h2⟩ := h
      rcases List.mem_append.1 ht with h | h
      · exact iha _ _ _ h1 t h
      · exact ihb _ _ _ h2 t h
    | _ => exact h.elim

theorem okRow_append {w : World} : ∀ {t1 t2 : List T}, okRow w (t1 ++ t2) → okRow w t1 ∧ okRow w t2
  | [], _, h => ⟨trivial, h⟩
  | _ :: _, _, h => ⟨⟨h.1, (okRow_append h.2).1⟩, (okRow_append h.2).2⟩
theorem blocksRow_append : ∀ (t1 t2 : List T), blocksRow (t1 ++ t2) = blocksRow t1 ++ blocksRow t2
  | [], _ => rfl
  | x :: t1, t2 => by simp [blocksRow, blocksRow_append t1 t2]

theorem all2_mem {α β : Type} {R : α → β → Prop} : ∀ {l : List α} {m : List β}, All2 R l m → ∀ b ∈ m, ∃ a ∈ l, R a b
  | [], [], _, b, h => by cases h
  | a :: l, b :: m, hr, x, h => by
    rcases List.mem_cons.1 h with rfl | h
    · exact ⟨a, by simp, hr.1⟩
    · obtain ⟨y, hy, hxy⟩ := all2_mem hr.2 x h; exact ⟨y, by simp [hy], hxy⟩
  | [], _ :: _, h, _, _ => h.elim
  | _ :: _, [], h, _, _ => h.elim

/-- A row of our own, read as data: 'rd' tells how its elements read. -/
theorem rowT_at {S S' : Nat → Prop} {w : World} {f : Fl} {k : K} {A : Option Addr} {c : Nat} {els : List (List T)} {xs : List k.D}
    (ha : All2 (AbsT S w f k) xs els) (h1 : RowOk w k.sz A c els) (hb : ∀ b ∈ headBlock A c, S' b)
    (rd : ∀ x ts, x ∈ xs → ts ∈ els → AbsT S w f k x ts → RepC S' w k x (ts.map T.val)) : RowAt w S' k.sz (RepC S' w k) A xs := by
  obtain ⟨hsz, hle, hc⟩ := h1
  have hlen := ha.length
  by_cases hx : xs = []
  · exact .inl hx
  · have hpos : 0 < xs.length := List.length_pos_iff.2 hx
    rcases hc with hc | ⟨g, s, cells, e, hA, hh, hcap, hcell⟩
    · omega
    · refine .inr ⟨⟨g, s, none⟩, hA, hb g (by rw [headBlock_pos (by omega) hA]; simp), fun i x hxi => ?_⟩
      obtain ⟨ts, hts, hat⟩ := ha.get i x hxi
      have hmem := List.mem_of_getElem? hts
      refine ⟨ts.map T.val, by rw [List.length_map]; exact hsz ts hmem, rd x ts (List.mem_of_getElem? hxi) hmem hat, fun j hj => ?_⟩
      have hl := hsz ts hmem
      have ht : ts[j]? = some (ts[j]'(by omega)) := List.getElem?_eq_getElem (by omega)
      rw [add_mk, show s + (i * k.sz + j) = s + i * k.sz + j by omega]
      unfold World.cell?
      simp only [hh, Option.isSome_none, Bool.false_eq_true, if_false]
      rw [List.getElem?_map, ht, Option.map_some]
      exact hcell i ts hts j _ ht (hat.nogap f _ _ _ _ (List.mem_of_getElem? ht))

theorem AbsT.rd {S S' : Nat → Prop} {w : World} (hS : ∀ b, S b → S' b) (f : Fl) : ∀ (k : K) (d : k.D) (ts : List T), AbsT S w f k d ts → okRow w ts → (∀ b ∈ blocksRow ts, S' b) → RepC S' w k d (ts.map T.val) := by
  induction f with
  | no =>
    rintro k d ts ⟨vs, rfl, hr⟩ _ _
    rw [List.map_map, show T.val ∘ T.leaf = id from rfl, List.map_id]
    exact hr.mono (fun b hb => ⟨hS b hb, rfl⟩) k _ _
  | row f ih =>
    intro k d ts h ho hb
    cases k with
    | slice k =>
      obtain ⟨A, c, els, rfl, ha⟩ := h
      have hok := ho.1
      refine ⟨A, c, by simp only [List.map_cons, List.map_nil, T.val]; rw [← ha.length], by rw [ha.length]; exact hok.1.2.1, ?_⟩
      refine rowT_at ha hok.1 (fun b hb' => hb b (by simp [blocksRow, T.blocks, hb'])) (fun x ts _ hm hat => ?_)
      obtain ⟨i, hi⟩ := List.getElem?_of_mem hm
      exact ih k x ts hat (okEls_get hok.2 hi) (fun b hb' => hb b (by simp [blocksRow, T.blocks, mem_blocksEls hi b hb']))
    | _ => exact h.elim
  | pr a b iha ihb =>
    intro k d ts h ho hb
    cases k with
    | pair ka kb =>
      obtain ⟨t1, t2, rfl, h1, h2⟩ := h
      obtain ⟨o1, o2⟩ := okRow_append ho
      rw [blocksRow_append] at hb
      exact ⟨t1.map T.val, t2.map T.val, by rw [List.map_append], iha _ _ _ h1 o1 (fun b hb' => hb b (by simp [hb'])), ihb _ _ _ h2 o2 (fun b hb' => hb b (by simp [hb']))⟩
    | _ => exact h.elim

theorem row_read {S S' : Nat → Prop} {w : World} {f : Fl} {k : K} {A : Option Addr} {c : Nat} {els : List (List T)} {xs : List k.D} (hS : ∀ b, S b → S' b)
    (ha : All2 (AbsT S w f k) xs els) (h1 : RowOk w k.sz A c els) (h2 : okEls w els) (hb : ∀ b ∈ (T.row k.sz A c els).blocks, S' b) : RowAt w S' k.sz (RepC S' w k) A xs :=
  rowT_at ha h1 (fun b hb' => hb b (by simp [T.blocks, hb'])) (fun x ts _ hm hat => by
    obtain ⟨i, hi⟩ := List.getElem?_of_mem hm
    exact hat.rd hS f k x ts (okEls_get h2 hi) (fun b hb' => hb b (by simp [T.blocks, mem_blocksEls hi b hb'])))

theorem RowAt.cut {w : World} {S : Nat → Prop} {sz : Nat} {α : Type} {R : α → List Value → Prop} {A A' : Option Addr} {l : List α} {off n : Nat} (h : RowAt w S sz R A l)
    (hA : (l.drop off).take n ≠ [] → ∀ a, A = some a → A' = some (a.add (off * sz))) : RowAt w S sz R A' ((l.drop off).take n) := by
  by_cases hnil : (l.drop off).take n = []
  · exact .inl hnil
  · rcases h with h | ⟨ad, hA0, hS, hc⟩
    · subst h; simp at hnil
    · refine .inr ⟨ad.add (off * sz), hA hnil ad hA0, by rw [add_block]; exact hS, fun i x hx => ?_⟩
      have hx' : l[off + i]? = some x := by
        rw [List.getElem?_take] at hx
        split at hx
        · rw [List.getElem?_drop] at hx; exact hx
        · cases hx
      obtain ⟨vs, hl, hR, hv⟩ := hc (off + i) x hx'
      refine ⟨vs, hl, hR, fun j hj => ?_⟩
      rw [add_add, show off * sz + (i * sz + j) = (off + i) * sz + j by rw [Nat.add_mul]; omega]
      exact hv j hj

theorem RowAt.mono {w : World} {S S' : Nat → Prop} {k : K} {A : Option Addr} {l : List k.D} (hs : ∀ b, S b → S' b) (h : RowAt w S k.sz (RepC S w k) A l) : RowAt w S' k.sz (RepC S' w k) A l :=
  h.imp (fun b hb => ⟨hs b hb, rfl⟩) (RepC.mono (fun b hb => ⟨hs b hb, rfl⟩) k)

theorem hdr_row {w : World} {S : Nat → Prop} {k : K} {A : Option Addr} {c : Nat} {l : List k.D} {off len : Int} {x : Value} (h0 : 0 ≤ off) (h1 : 0 ≤ len) (hx : Hdr k.sz A c l.length off len x) (hc : l.length ≤ c)
    (hr : RowAt w S k.sz (RepC S w k) A l) : ∃ A' c', x = .slice A' ((l.drop off.toNat).take len.toNat).length c' ∧ ((l.drop off.toNat).take len.toNat).length ≤ c' ∧ RowAt w S k.sz (RepC S w k) A' ((l.drop off.toNat).take len.toNat) := by
  obtain ⟨hle, A', c', hv, hc', ha⟩ := hx
  have hlen : ((l.drop off.toNat).take len.toNat).length = len.toNat := by rw [List.length_take, List.length_drop]; omega
  refine ⟨A', c', by rw [hlen]; exact hv, by omega, hr.cut (fun hne a hA => ?_)⟩
  have hpos : 0 < len.toNat := by rw [← hlen]; exact List.length_pos_iff.2 hne
  rcases ha with ha | ⟨a', ha1, ha2⟩
  · omega
  · rw [ha1] at hA; injection hA with hA; subst hA; exact ha2

structure ViewIs (E : Env) (r ver : Nat) (p : List Step) (V : View) : Prop where
  out : (∃ fl k xs ver' A0 c0 els0, E.H r = some (.arr fl k xs ver' none) ∧ E.G r = some (.arr (.row k.sz A0 c0 els0)) ∧ (p = [] ∨ ver = ver') ∧ (T.row k.sz A0 c0 els0).ok E.w ∧ All2 (AbsT E.S E.w fl k) xs els0 ∧
      fl.path p = some V.fl ∧ getP p k xs = some V.row ∧ V.own = true) ∨
    (∃ k xs A c, E.H r = some (.frz k xs) ∧ E.G r = some (.frz A c xs.length) ∧ p = [] ∧ V = ⟨.no, ⟨k, xs⟩, false⟩ ∧ xs.length ≤ c ∧ RowAt E.w E.S k.sz (RepC E.S E.w k) A xs)

theorem view_is {E : Env} {r ver : Nat} {n : Nat → Prop} {p : List Step} {V : View} (hg : Good E n) (h : view E.H r ver p = some V) : ViewIs E r ver p V := by
  unfold view at h
  split at h
  · rename_i fl k xs ver' hH
    split at h
    · rename_i hp
      split at h
      · rename_i f row hf hrow
        injection h with h
        subst h
        obtain ⟨gr, hgr, hrel⟩ := hg.roots r _ hH
        cases gr with
        | arr t =>
          obtain ⟨A, c, els, rfl, hok, ha⟩ := hrel
          refine ⟨.inl ⟨fl, k, xs, ver', A, c, els, hH, hgr, ?_, hok, ha, hf, hrow, rfl⟩⟩
          simpa [List.isEmpty_iff] using hp
        | _ => exact hrel.elim
      · cases h
    · cases h
  · rename_i k xs hH
    split at h
    · injection h with h
      subst h
      obtain ⟨gr, hgr, hrel⟩ := hg.roots r _ hH
      cases gr with
      | frz A c m =>
        obtain ⟨rfl, hc, hr⟩ := hrel
        exact ⟨.inr ⟨k, xs, A, c, hH, hgr, rfl, rfl, hc, hr⟩⟩
      | _ => exact hrel.elim
    · cases h
  · cases h

def SubH (H H' : Heap) : Prop := ∀ r root, H r = some root → H' r = some root
theorem SubH.refl (H : Heap) : SubH H H := fun _ _ h => h
theorem view_root {H : Heap} {r ver : Nat} {p : List Step} {V : View} (h : view H r ver p = some V) : ∃ root, H r = some root := by
  unfold view at h
  cases hr : H r with
  | some root => exact ⟨root, rfl⟩
  | none => rw [hr] at h; cases h
theorem view_congr {H H' : Heap} {r ver : Nat} {p : List Step} (h : H r = H' r) : view H r ver p = view H' r ver p := by
  unfold view; rw [h]
theorem view_sub {H H' : Heap} (hs : SubH H H') {r ver : Nat} {p : List Step} {V : View} (h : view H r ver p = some V) : view H' r ver p = some V ∧ H r = H' r := by
  obtain ⟨root, hr⟩ := view_root h
  have := hs r root hr
  have e : H r = H' r := by rw [hr, this]
  exact ⟨by rw [← view_congr e]; exact h, e⟩
/-- The blocks of the rows of our own among these are in S. -/
def Lent (H : Heap) (E : Env) (S : Nat → Prop) (ids : List Nat) : Prop := ∀ r ∈ ids, ∀ fl k xs ver, H r = some (.arr fl k xs ver none) → ∀ gr, E.G r = some gr → ∀ b ∈ gr.blocks, S b

/-- A slice over a root: its header, and how the row reads. -/
theorem sl_row {E : Env} {r ver : Nat} {n : Nat → Prop} {p : List Step} {off len : Int} {V : View} {x : Value} {S' : Nat → Prop} {H : Heap} (hg : Good E n) (hsub : SubH H E.H) (hS : ∀ b, E.S b → S' b) (hb : Lent H E S' [r])
    (hv : SlRel E r ver p off len x) (h : view H r ver p = some V) : ∃ A c, Hdr V.row.k.sz A c V.row.xs.length off len x ∧ V.row.xs.length ≤ c ∧ RowAt E.w S' V.row.k.sz (RepC S' E.w V.row.k) A V.row.xs := by
  obtain ⟨h0, h1, _, h2⟩ := hv
  obtain ⟨hE, heq⟩ := view_sub hsub h
  rcases (view_is hg hE).out with ⟨fl, k, xs, ver', A0, c0, els0, hH, hG, hp, hok, ha, hf, hrow, _⟩ | ⟨k, xs, A, c, hH, hG, rfl, rfl, hc, hr⟩
  · rw [hH, hG] at h2
    obtain ⟨hpo, hcl⟩ := h2
    obtain ⟨q, R, hq, hR⟩ := hpo.2 hp rfl
    obtain ⟨e1, e2, e3, e4, e5, _⟩ := nav p fl V.fl k xs A0 c0 els0 q R V.row ha hok.1 hok.2 hq hR hf hrow
    have hh := hcl hp q R hq hR
    rw [e1, ← e4.length] at hh
    rw [e1] at e2
    refine ⟨R.A, R.c, hh, by rw [e4.length]; exact e2.2.1, row_read hS e4 e2 e3 (fun b hb' => hb r (by simp) fl k xs ver' (heq.trans hH) _ hG b ?_)⟩
    have := e5 b (by rw [e1]; exact hb')
    exact this
  · rw [hH, hG] at h2
    exact ⟨A, c, h2 rfl, hc, hr.mono hS⟩

theorem content_ok {cx : Cx} {E : Env} {n : Nat → Prop} {v : AV} {x : Value} {row : Rw} {S' : Nat → Prop} {H : Heap} (hg : Good E n) (hsub : SubH H E.H) (hS : ∀ b, E.S b → S' b) (hb : Lent H E S' v.ids)
    (hv : RelV E v x) (h : content cx H v = some row) : ∃ A c, x = .slice A row.xs.length c ∧ row.xs.length ≤ c ∧ RowAt E.w S' row.k.sz (RepC S' E.w row.k) A row.xs := by
  unfold content at h
  split at h
  · rename_i k d
    injection h with h
    subst h
    simp only [RelV, K.isAgg] at hv
    obtain ⟨A, c, hx, hc, hr⟩ := hv
    injection hx with hx _
    exact ⟨A, c, hx, hc, hr.mono hS⟩
  · rename_i k l
    injection h with h
    subst h
    obtain ⟨A, hx, hr⟩ := hv
    exact ⟨A, _, hx, Nat.le_refl _, hr.mono hS⟩
  · rename_i r ver p off len
    split at h
    · rename_i V hV
      injection h with h
      subst h
      obtain ⟨A, c, hh, hc, hr⟩ := sl_row hg hsub hS (by simpa [AV.ids] using hb) hv hV
      exact hdr_row hv.1 hv.2.1 hh hc hr
    · cases h
  · split at h
    · split at h
      · injection h with h
        subst h
        exact ⟨none, 0, hv, Nat.le_refl _, .inl rfl⟩
      · cases h
    · cases h
  · cases h
end Go.Lite
end

section
/-
  LITE 8: operations that only read.
-/
set_option linter.unusedVariables false
set_option linter.unusedSimpArgs false
namespace Go.Lite
open Go Go.RowKit

theorem td_some {P : Program} {hint : Nat → Hint} {glob : Nat → Option Comp} {t : TypeId} {x : TD} (h : tdAt (mkCx P hint glob) t = some x) : ∃ i info d, tyOf P t = some i ∧ P.info? t = some info ∧ P.underlying t = some d ∧ tdOf d = x ∧ i.size = info.size ∧ i.td = x := by
  unfold tdAt at h
  obtain ⟨i, hi, rfl⟩ := map_some h
  obtain ⟨info, d, h1, h2, h3, h4, _⟩ := ty_some hi
  exact ⟨i, info, d, hi, h1, h2, h3.symm, h4, rfl⟩
theorem kindAt_some {P : Program} {hint : Nat → Hint} {glob : Nat → Option Comp} {t : TypeId} {k : K} (h : kindAt (mkCx P hint glob) t = some k) : KindIs P 11 t k := by
  unfold kindAt at h
  obtain ⟨i, hi, hk⟩ := Option.bind_eq_some_iff.1 h
  obtain ⟨info, d, h1, h2, h3, h4, h5, h6⟩ := ty_some hi
  exact kind_some (h6 ▸ hk)
theorem td_inv {d : TypeDesc} : (∀ e, tdOf d = .slice e → d = .slice e) ∧ (∀ k, tdOf d = .int k → d = .int k) ∧ (tdOf d = .string → d = .string) ∧ (∀ e, tdOf d = .ptr e → d = .pointer e) ∧
    (∀ a b, tdOf d = .map a b → d = .map a b) ∧ (tdOf d = .iface → ∃ ms, d = .interface ms) ∧ (tdOf d = .func → ∃ a b c, d = .func a b c) ∧ (∀ n e, tdOf d = .array n e → d = .array n e) ∧ (∀ l, tdOf d = .struct l → ∃ fs, d = .struct fs ∧ l = fs.toList.map fun f => (f.offset, f.type)) := by
  cases d <;> simp [tdOf, eq_comm]

theorem isSliceT_some {P : Program} {hint : Nat → Hint} {glob : Nat → Option Comp} {t : TypeId} (h : isSliceT (mkCx P hint glob) t = true) : ∃ e, P.underlying t = some (.slice e) := by
  unfold isSliceT at h
  split at h
  · rename_i e he
    obtain ⟨_, _, d, _, _, h2, h3, _⟩ := td_some he
    exact ⟨e, by rw [h2, td_inv.1 e h3]⟩
  · cases h
theorem isPtrT_some {P : Program} {hint : Nat → Hint} {glob : Nat → Option Comp} {t : TypeId} (h : isPtrT (mkCx P hint glob) t = true) : ∃ e, P.underlying t = some (.pointer e) := by
  unfold isPtrT at h
  split at h
  · rename_i e he
    obtain ⟨_, _, d, _, _, h2, h3, _⟩ := td_some he
    exact ⟨e, by rw [h2, td_inv.2.2.2.1 e h3]⟩
  · cases h
theorem isMapT_some {P : Program} {hint : Nat → Hint} {glob : Nat → Option Comp} {t : TypeId} (h : isMapT (mkCx P hint glob) t = true) : ∃ a b, P.underlying t = some (.map a b) := by
  unfold isMapT at h
  split at h
  · rename_i a b he
    obtain ⟨_, _, d, _, _, h2, h3, _⟩ := td_some he
    exact ⟨a, b, by rw [h2, td_inv.2.2.2.2.1 a b h3]⟩
  · cases h
theorem isIfaceT_some {P : Program} {hint : Nat → Hint} {glob : Nat → Option Comp} {t : TypeId} (h : isIfaceT (mkCx P hint glob) t = true) : ∃ ms, P.underlying t = some (.interface ms) := by
  unfold isIfaceT at h
  split at h
  · rename_i he
    obtain ⟨_, _, d, _, _, h2, h3, _⟩ := td_some he
    obtain ⟨ms, rfl⟩ := td_inv.2.2.2.2.2.1 h3
    exact ⟨ms, h2⟩
  · cases h
theorem isFuncT_some {P : Program} {hint : Nat → Hint} {glob : Nat → Option Comp} {t : TypeId} (h : isFuncT (mkCx P hint glob) t = true) : ∃ a b c, P.underlying t = some (.func a b c) := by
  unfold isFuncT at h
  split at h
  · rename_i he
    obtain ⟨_, _, d, _, _, h2, h3, _⟩ := td_some he
    obtain ⟨a, b, c, rfl⟩ := td_inv.2.2.2.2.2.2.1 h3
    exact ⟨a, b, c, h2⟩
  · cases h
theorem kindsOf_shape {f : TypeId → Option K} : ∀ (l : List Field) (off : Nat) (k : K), kindsOf f off l = some k → k = .unit ∨ ∃ a b, k = .pair a b
  | [], _, _, h => by injection h with h; exact .inl h.symm
  | a :: l, off, k, h => by
    simp only [kindsOf] at h
    split at h
    · split at h
      · split at h
        · injection h with h; exact .inr ⟨_, _, h.symm⟩
        · cases h
      · cases h
    · cases h
theorem rawKind_inv {f : TypeId → Option K} {d : TypeDesc} {k : K} (h : rawKind f d = some k) : match k with
    | .bool => d = .bool | .int i => d = .int i | .str => d = .string
    | .slice k => ∃ e, d = .slice e ∧ f e = some k
    | .array m k => ∃ e, d = .array m e ∧ f e = some k
    | k => ∃ fs, d = .struct fs ∧ kindsOf f 0 fs.toList = some k := by
  cases d with
  | bool => simp only [rawKind, Option.some.injEq] at h; subst h; rfl
  | int i => simp only [rawKind, Option.some.injEq] at h; subst h; rfl
  | string => simp only [rawKind, Option.some.injEq] at h; subst h; rfl
  | slice e => simp only [rawKind] at h; obtain ⟨a, ha, rfl⟩ := map_some h; exact ⟨e, rfl, ha⟩
  | array m e => simp only [rawKind] at h; obtain ⟨a, ha, rfl⟩ := map_some h; exact ⟨e, rfl, ha⟩
  | struct fs =>
    simp only [rawKind] at h
    rcases kindsOf_shape _ _ _ h with rfl | ⟨a, b, rfl⟩
    · exact ⟨fs, rfl, h⟩
    · exact ⟨fs, rfl, h⟩
  | _ => simp only [rawKind] at h; cases h
theorem kind_slice {P : Program} {n : Nat} {t : TypeId} {k : K} (h : KindIs P n t (.slice k)) : ∃ e, P.underlying t = some (.slice e) ∧ kindOf P n e = some k := by
  obtain ⟨info, d, v, h1, h2, h3, _⟩ := h.out
  obtain ⟨e, rfl, he⟩ := rawKind_inv h3
  exact ⟨e, h2, he⟩
theorem kind_array {P : Program} {n m : Nat} {t : TypeId} {k : K} (h : KindIs P n t (.array m k)) : ∃ e, P.underlying t = some (.array m e) ∧ kindOf P n e = some k := by
  obtain ⟨info, d, v, h1, h2, h3, _⟩ := h.out
  obtain ⟨e, rfl, he⟩ := rawKind_inv h3
  exact ⟨e, h2, he⟩
theorem kind_bool {P : Program} {n : Nat} {t : TypeId} (h : KindIs P n t .bool) : P.underlying t = some .bool := by
  obtain ⟨info, d, v, h1, h2, h3, _⟩ := h.out
  have e : d = .bool := rawKind_inv h3
  rw [h2, e]
theorem kind_int {P : Program} {n : Nat} {t : TypeId} {k : IntKind} (h : KindIs P n t (.int k)) : P.underlying t = some (.int k) := by
  obtain ⟨info, d, v, h1, h2, h3, _⟩ := h.out
  have e : d = .int k := rawKind_inv h3
  rw [h2, e]
theorem kind_str {P : Program} {n : Nat} {t : TypeId} (h : KindIs P n t .str) : P.underlying t = some .string := by
  obtain ⟨info, d, v, h1, h2, h3, _⟩ := h.out
  have e : d = .string := rawKind_inv h3
  rw [h2, e]
theorem kind_pair {P : Program} {n : Nat} {t : TypeId} {a b : K} (h : KindIs P n t (.pair a b)) : ∃ fs, P.underlying t = some (.struct fs) ∧ kindsOf (kindOf P n) 0 fs.toList = some (.pair a b) := by
  obtain ⟨info, d, v, h1, h2, h3, _⟩ := h.out
  obtain ⟨fs, rfl, hf⟩ := rawKind_inv h3
  exact ⟨fs, h2, hf⟩
theorem kindOf_size {P : Program} {n : Nat} {t : TypeId} {k : K} (h : kindOf P n t = some k) : ∃ info d, P.info? t = some info ∧ P.underlying t = some d ∧ info.size = k.sz ∧ aggD d = k.isAgg := by
  cases n with
  | zero => cases h
  | succ n =>
    obtain ⟨info, d, v, h1, h2, h3, h4, _⟩ := (kind_some h).out
    exact ⟨info, d, h1, h2, h4, (rawKind_agg h3).symm⟩
theorem KindIs.size {P : Program} {n : Nat} {t : TypeId} {k : K} (h : KindIs P n t k) : ∃ info d, P.info? t = some info ∧ P.underlying t = some d ∧ info.size = k.sz ∧ aggD d = k.isAgg := by
  obtain ⟨info, d, v, h1, h2, h3, h4, _⟩ := h.out
  exact ⟨info, d, h1, h2, h4, (rawKind_agg h3).symm⟩
section
variable {P : Program} {hint : Nat → Hint} {glob : Nat → Option Comp} {E : Env} {n : Nat → Prop}

def plainV : Value → Bool
  | .pointer _ | .slice .. | .func .. | .nilFunc | .nilIface | .iface .. | .map _ => true
  | _ => false
theorem eql_run {t : TypeId} {x y : Value} {b : Bool} {w : World} (h : plainV x = true) (hr : (Op.equal t x y).run P w = .ok b w) : (Go.binOp .eql t x y).run P w = .ok (.bool b) w := by
  cases x <;> first | cases h; done | (simp only [Go.binOp, Sem.run_bind, hr, Result.andThen_ok, Sem.run_pure])
theorem neq_run {t : TypeId} {x y : Value} {b : Bool} {w : World} (h : plainV x = true) (hr : (Op.equal t x y).run P w = .ok b w) : (Go.binOp .neq t x y).run P w = .ok (.bool !b) w := by
  cases x <;> first | cases h; done | (simp only [Go.binOp, Sem.run_bind, hr, Result.andThen_ok, Sem.run_pure])
theorem plainV_agg {x : Value} (h : plainV x = true) : ∀ cs, x ≠ .agg cs := by cases x <;> first | cases h; done | simp
theorem equal_of {t : TypeId} {x y : Value} {b : Bool} {w : World} (h : ∀ d, (Op.equalIn (d + 1) t x y).run P w = .ok b w) : (Op.equal t x y).run P w = .ok b w := h 9999
theorem someS_ok {v : AV} {x : Value} (hv : RelV E v x) (h : someS v = true) : ∃ A m c, x = .slice (some A) m c := by
  unfold someS at h
  split at h
  · rename_i k l
    simp only [RelV, K.isAgg] at hv
    obtain ⟨A, c, hx, hc, hr⟩ := hv
    injection hx with hx _
    rcases hr with hr | ⟨ad, rfl, _⟩
    · rw [hr] at h; cases h
    · exact ⟨ad, _, c, hx⟩
  · rename_i k l
    obtain ⟨A, hx, hr⟩ := hv
    rcases hr with hr | ⟨ad, rfl, _⟩
    · rw [hr] at h; cases h
    · exact ⟨ad, _, _, hx⟩
  · rename_i r ver p off n
    obtain ⟨h0, h1, ⟨A, c, hx, hc, hA⟩, _⟩ := hv
    have := of_decide_eq_true h
    rcases hA with hA | hA
    · omega
    · obtain ⟨a, rfl⟩ := Option.isSome_iff_exists.1 hA
      exact ⟨a, _, c, hx⟩
  · cases h
theorem eqNil_ok {t : TypeId} {x y : AV} {vx vy : Value} {b : Bool} (hx : RelV E x vx) (hy : RelV E y vy) (h : eqNil (mkCx P hint glob) t x y = some b) :
    (Op.equal t vx vy).run P E.w = .ok b E.w ∧ plainV vx = true ∧ (vx = .nilIface → vy ≠ .nilIface) := by
  unfold eqNil at h
  split at h
  · obtain ⟨h0, h⟩ := chk_some h
    obtain ⟨e, he⟩ := isPtrT_some h0
    simp only [Option.some.injEq] at h
    subst h
    obtain rfl : vx = .pointer none := hx
    obtain rfl : vy = .pointer none := hy
    exact ⟨equal_of fun d => by simp [Op.equalIn, run_underlying he], rfl, by simp⟩
  · obtain ⟨h0, h⟩ := chk_some h
    obtain ⟨e, he⟩ := isPtrT_some h0
    simp only [Option.some.injEq] at h
    subst h
    obtain rfl : vx = .pointer none := hx
    obtain ⟨g, rfl, _⟩ := hy
    exact ⟨equal_of fun d => by simp [Op.equalIn, run_underlying he], rfl, by simp⟩
  · obtain ⟨h0, h⟩ := chk_some h
    obtain ⟨e, he⟩ := isPtrT_some h0
    simp only [Option.some.injEq] at h
    subst h
    obtain rfl : vy = .pointer none := hy
    obtain ⟨g, rfl, _⟩ := hx
    exact ⟨equal_of fun d => by simp [Op.equalIn, run_underlying he], rfl, by simp⟩
  · obtain ⟨h0, h⟩ := chk_some h
    obtain ⟨e, he⟩ := isPtrT_some h0
    simp only [Option.some.injEq] at h
    subst h
    obtain rfl : vx = .pointer none := hx
    obtain ⟨a, cs, rfl, _⟩ := hy
    exact ⟨equal_of fun d => by simp [Op.equalIn, run_underlying he], rfl, by simp⟩
  · obtain ⟨h0, h⟩ := chk_some h
    obtain ⟨e, he⟩ := isPtrT_some h0
    simp only [Option.some.injEq] at h
    subst h
    obtain rfl : vy = .pointer none := hy
    obtain ⟨a, cs, rfl, _⟩ := hx
    exact ⟨equal_of fun d => by simp [Op.equalIn, run_underlying he], rfl, by simp⟩
  · obtain ⟨h0, h⟩ := chk_some h
    obtain ⟨a, b', c, he⟩ := isFuncT_some h0
    simp only [Option.some.injEq] at h
    subst h
    obtain rfl : vx = .nilFunc := hx
    obtain ⟨vs, rfl, _⟩ := hy
    exact ⟨equal_of fun d => by simp [Op.equalIn, run_underlying he], rfl, by simp⟩
  · obtain ⟨h0, h⟩ := chk_some h
    obtain ⟨a, b', c, he⟩ := isFuncT_some h0
    simp only [Option.some.injEq] at h
    subst h
    obtain rfl : vy = .nilFunc := hy
    obtain ⟨vs, rfl, _⟩ := hx
    exact ⟨equal_of fun d => by simp [Op.equalIn, run_underlying he], rfl, by simp⟩
  · obtain ⟨h0, h⟩ := chk_some h
    obtain ⟨a, b', c, he⟩ := isFuncT_some h0
    simp only [Option.some.injEq] at h
    subst h
    obtain rfl : vx = .nilFunc := hx
    obtain rfl : vy = .nilFunc := hy
    exact ⟨equal_of fun d => by simp [Op.equalIn, run_underlying he], rfl, by simp⟩
  · obtain ⟨h0, h⟩ := chk_some h
    obtain ⟨ms, he⟩ := isIfaceT_some h0
    simp only [Option.some.injEq] at h
    subst h
    obtain rfl : vx = .nilIface := hx
    obtain ⟨u, rfl, _⟩ := hy
    exact ⟨equal_of fun d => by simp [Op.equalIn, run_underlying he], rfl, by simp⟩
  · obtain ⟨h0, h⟩ := chk_some h
    obtain ⟨ms, he⟩ := isIfaceT_some h0
    simp only [Option.some.injEq] at h
    subst h
    obtain rfl : vy = .nilIface := hy
    obtain ⟨u, rfl, _⟩ := hx
    exact ⟨equal_of fun d => by simp [Op.equalIn, run_underlying he], rfl, by simp⟩
  · obtain ⟨h0, h⟩ := chk_some h
    obtain ⟨e, he⟩ := isSliceT_some h0
    simp only [Option.some.injEq] at h
    subst h
    obtain rfl : vx = .slice none 0 0 := hx
    obtain rfl : vy = .slice none 0 0 := hy
    exact ⟨equal_of fun d => by simp [Op.equalIn, run_underlying he], rfl, by simp⟩
  · obtain ⟨h0, h⟩ := chk_some h
    simp only [Bool.and_eq_true] at h0
    obtain ⟨e, he⟩ := isSliceT_some h0.1
    simp only [Option.some.injEq] at h
    subst h
    obtain rfl : vx = .slice none 0 0 := hx
    obtain ⟨A, m, c, rfl⟩ := someS_ok hy h0.2
    exact ⟨equal_of fun d => by simp [Op.equalIn, run_underlying he], rfl, by simp⟩
  · obtain ⟨h0, h⟩ := chk_some h
    simp only [Bool.and_eq_true] at h0
    obtain ⟨e, he⟩ := isSliceT_some h0.1
    simp only [Option.some.injEq] at h
    subst h
    obtain rfl : vy = .slice none 0 0 := hy
    obtain ⟨A, m, c, rfl⟩ := someS_ok hx h0.2
    exact ⟨equal_of fun d => by simp [Op.equalIn, run_underlying he], rfl, by simp⟩
  · cases h

theorem eqlb {t : TypeId} {w : World} (hk : P.underlying t = some .bool) (a b : Bool) : (Go.binOp .eql t (.bool a) (.bool b)).run P w = .ok (.bool (a == b)) w := by
  have h : (Op.equal t (.bool a) (.bool b)).run P w = .ok (a == b) w := equal_of fun d => by simp [Op.equalIn, run_underlying hk]
  simp only [Go.binOp, Sem.run_bind, h, Result.andThen_ok, Sem.run_pure]
theorem neqb {t : TypeId} {w : World} (hk : P.underlying t = some .bool) (a b : Bool) : (Go.binOp .neq t (.bool a) (.bool b)).run P w = .ok (.bool (!(a == b))) w := by
  have h : (Op.equal t (.bool a) (.bool b)).run P w = .ok (a == b) w := equal_of fun d => by simp [Op.equalIn, run_underlying hk]
  simp only [Go.binOp, Sem.run_bind, h, Result.andThen_ok, Sem.run_pure]

theorem binOp_ok {op : BinOp} {t : TypeId} {ox oy : Operand} {x y r : AV} {vx vy : Value} (hx : RelV E x vx) (hy : RelV E y vy) (h : binOp (mkCx P hint glob) op t x y = some r) :
    ∃ v, (do eqGuard op t ox oy vx vy; Go.binOp op t vx vy).run P E.w = .ok v E.w ∧ RelV E r v ∧ r.ids = [] := by
  have go : ∀ (v : Value) (hv : (Go.binOp op t vx vy).run P E.w = .ok v E.w ∧ RelV E r v ∧ r.ids = []) (h1 : ∀ cs, vx ≠ .agg cs) (h2 : vx = .nilIface → vy ≠ .nilIface),
      ∃ v, (do eqGuard op t ox oy vx vy; Go.binOp op t vx vy).run P E.w = .ok v E.w ∧ RelV E r v ∧ r.ids = [] := by
    intro v hv h1 h2
    refine ⟨v, ?_, hv.2⟩
    rw [Sem.run_bind, eqGuard_run h1 h2, Result.andThen_ok]
    exact hv.1
  unfold binOp at h
  split at h
  · rename_i k a k' b
    have hx := relV_int.1 hx
    have hy := relV_int.1 hy
    subst hx hy
    split at h
    · obtain ⟨v, hv⟩ := shiftInt_ok (P := P) (E := E) (k' := k') (t := t) (.inl rfl) h
      exact go v hv (by simp) (by simp)
    · obtain ⟨v, hv⟩ := shiftInt_ok (P := P) (E := E) (k' := k') (t := t) (.inr rfl) h
      exact go v hv (by simp) (by simp)
    · split at h
      · rename_i hk
        have hk := of_decide_eq_true hk
        subst hk
        obtain ⟨v, hv⟩ := intBin_ok (P := P) (E := E) (t := t) h
        exact go v hv (by simp) (by simp)
      · cases h
  · rename_i a b
    have hx := relV_str.1 hx
    have hy := relV_str.1 hy
    subst hx hy
    obtain ⟨v, hv⟩ := strBin_ok (P := P) (E := E) (t := t) h
    exact go v hv (by simp) (by simp)
  · rename_i k a k' b _ _
    split at h
    · rename_i b' he hb
      obtain ⟨e, rfl⟩ := cast_some hb
      subst e
      unfold eqKind at he
      split at he
      · have hk := kind_bool (kindAt_some (eq_of_beq he))
        have hx := relV_bool.1 hx
        have hy := relV_bool.1 hy
        subst hx hy
        split at h
        · injection h with h
          subst h
          exact go (.bool (K.beq .bool a b)) ⟨eqlb hk a b, relV_boolV.2 rfl, rfl⟩ (by simp) (by simp)
        · injection h with h
          subst h
          exact go (.bool (!K.beq .bool a b)) ⟨neqb hk a b, relV_boolV.2 rfl, rfl⟩ (by simp) (by simp)
        · cases h
      · cases he
    · cases h
  · split at h
    · obtain ⟨b, hb, rfl⟩ := map_some h
      obtain ⟨h1, h2, h3⟩ := eqNil_ok hx hy hb
      exact go (.bool b) ⟨eql_run h2 h1, relV_boolV.2 rfl, rfl⟩ (plainV_agg h2) h3
    · obtain ⟨b, hb, rfl⟩ := map_some h
      obtain ⟨h1, h2, h3⟩ := eqNil_ok hx hy hb
      exact go (.bool !b) ⟨neq_run h2 h1, relV_boolV.2 rfl, rfl⟩ (plainV_agg h2) h3
    · cases h
end
end Go.Lite
end

section
/-
  LITE 9: reading: cells put together, fields, loads.
-/
set_option linter.unusedVariables false
set_option linter.unusedSimpArgs false
namespace Go.Lite
open Go Go.RowKit

/-! ### Cells read as data -/
theorem readAll_rep {S : Nat → Prop} {w : World} {RC : AV → Value → Prop} {k : K}
    (ih : ∀ (cells : List AV) (d : k.D) (rest : List AV) (vs : List Value), k.read cells = some (d, rest) → All2 RC cells vs → ∃ vs1 vs2, vs = vs1 ++ vs2 ∧ RepC S w k d vs1 ∧ All2 RC rest vs2) :
    ∀ (n : Nat) (cells : List AV) (l : List k.D) (rest : List AV) (vs : List Value), readAll k.read n cells = some (l, rest) → All2 RC cells vs →
      l.length = n ∧ ∃ vss vs2, vs = List.flatten vss ++ vs2 ∧ All2 (RepC S w k) l vss ∧ All2 RC rest vs2
  | 0, cells, l, rest, vs, h, ha => by
    simp only [readAll, Option.some.injEq, Prod.mk.injEq] at h
    obtain ⟨rfl, rfl⟩ := h
    exact ⟨rfl, [], vs, rfl, trivial, ha⟩
  | n + 1, cells, l, rest, vs, h, ha => by
    simp only [readAll] at h
    split at h
    · rename_i x c1 h1
      split at h
      · rename_i xs c2 h2
        simp only [Option.some.injEq, Prod.mk.injEq] at h
        obtain ⟨rfl, rfl⟩ := h
        obtain ⟨v1, v2, rfl, hr, ha2⟩ := ih _ _ _ _ h1 ha
        obtain ⟨hl, vss, v3, rfl, hr2, ha3⟩ := readAll_rep ih n _ _ _ _ h2 ha2
        exact ⟨by simp [hl], v1 :: vss, v3, by simp, ⟨hr, hr2⟩, ha3⟩
      · cases h
    · cases h
theorem read_rep {S : Nat → Prop} {w : World} {RC : AV → Value → Prop} (hRC : ∀ (k : K) c x v, k.isAgg = false → RC c v → cellAs k c = some x → RepC S w k x [v]) :
    ∀ (k : K) (cells : List AV) (d : k.D) (rest : List AV) (vs : List Value), k.read cells = some (d, rest) → All2 RC cells vs → ∃ vs1 vs2, vs = vs1 ++ vs2 ∧ RepC S w k d vs1 ∧ All2 RC rest vs2 := by
  intro k
  have one : ∀ (k : K) (cells : List AV) (d : k.D) (rest : List AV) (vs : List Value), k.isAgg = false → readOne k cells = some (d, rest) → All2 RC cells vs → ∃ vs1 vs2, vs = vs1 ++ vs2 ∧ RepC S w k d vs1 ∧ All2 RC rest vs2 := by
    intro k cells d rest vs hk h ha
    unfold readOne at h
    split at h
    · rename_i c l
      split at h
      · rename_i x hx
        simp only [Option.some.injEq, Prod.mk.injEq] at h
        obtain ⟨rfl, rfl⟩ := h
        cases vs with
        | nil => exact ha.elim
        | cons v vs => exact ⟨[v], vs, rfl, hRC k c _ v hk ha.1 hx, ha.2⟩
      · cases h
    · cases h
  induction k with
  | int i => exact fun cells d rest vs h ha => one (.int i) cells d rest vs rfl h ha
  | bool => exact fun cells d rest vs h ha => one .bool cells d rest vs rfl h ha
  | str => exact fun cells d rest vs h ha => one .str cells d rest vs rfl h ha
  | slice k _ => exact fun cells d rest vs h ha => one (.slice k) cells d rest vs rfl h ha
  | unit =>
    intro cells d rest vs h ha
    simp only [K.read, Option.some.injEq, Prod.mk.injEq] at h
    obtain ⟨_, rfl⟩ := h
    exact ⟨[], vs, rfl, rfl, ha⟩
  | array n k ih =>
    intro cells d rest vs h ha
    simp only [K.read] at h
    obtain ⟨hl, vss, v2, e, hr, ha2⟩ := readAll_rep ih n _ _ _ _ h ha
    exact ⟨vss.flatten, v2, e, ⟨hl, vss, rfl, hr⟩, ha2⟩
  | pair a b iha ihb =>
    intro cells d rest vs h ha
    simp only [K.read] at h
    split at h
    · rename_i x c1 h1
      split at h
      · rename_i y c2 h2
        simp only [Option.some.injEq, Prod.mk.injEq] at h
        obtain ⟨rfl, rfl⟩ := h
        obtain ⟨v1, v2, rfl, hr, ha2⟩ := iha _ _ _ _ h1 ha
        obtain ⟨v3, v4, rfl, hr2, ha3⟩ := ihb _ _ _ _ h2 ha2
        exact ⟨v1 ++ v3, v4, by simp, ⟨v1, v3, rfl, hr, hr2⟩, ha3⟩
      · cases h
    · cases h

theorem repC_one {S : Nat → Prop} {w : World} {v : Value} : ∀ (k : K) (d : k.D), k.isAgg = false → RepC S w k d [v] → v.cells = #[v] := by
  intro k d hk h
  cases k with
  | int _ => simp only [RepC] at h; injection h with h _; subst h; rfl
  | bool => simp only [RepC] at h; injection h with h _; subst h; rfl
  | str => simp only [RepC] at h; injection h with h _; subst h; rfl
  | slice k => obtain ⟨A, c, h, _⟩ := h; injection h with h _; subst h; rfl
  | _ => cases hk

theorem cellAs_rep {E : Env} {S' : Nat → Prop} (hS : ∀ b, E.S b → S' b) {k : K} {c : AV} {x : k.D} {v : Value} (hk : k.isAgg = false) (hv : RelV E c v) (h : cellAs k c = some x) : RepC S' E.w k x [v] := by
  unfold cellAs at h
  split at h
  · rename_i k' d
    obtain ⟨e, rfl⟩ := cast_some h
    subst e
    simp only [RelV, hk] at hv
    exact hv.mono (fun b hb => ⟨hS b hb, rfl⟩) _ _ _
  · rename_i k' d
    obtain ⟨e, rfl⟩ := cast_some h
    subst e
    obtain ⟨A, rfl, hr⟩ := hv
    exact ⟨A, _, rfl, Nat.le_refl _, hr.mono hS⟩
  · split at h
    · injection h with h
      subst h
      exact ⟨none, 0, by rw [show v = .slice none 0 0 from hv]; rfl, Nat.le_refl _, .inl rfl⟩
    · cases h
  · cases h

/-- What a value is, its slices read. -/
theorem lend_rep {cx : Cx} {E : Env} {n : Nat → Prop} {S' : Nat → Prop} {H : Heap} (hg : Good E n) (hsub : SubH H E.H) (hS : ∀ b, E.S b → S' b) {c : AV} {v : Value} (hb : Lent H E S' c.ids) (hv : RelV E c v) :
    ∀ (k : K) (x : k.D), k.isAgg = false → cellAs k (c.lend cx H) = some x → RepC S' E.w k x [v] := by
  intro k x hk h
  unfold AV.lend at h
  split at h
  · split at h
    · rename_i row hrow
      obtain ⟨A, c, rfl, hc, hr⟩ := content_ok hg hsub hS hb hv hrow
      simp only [cellAs] at h
      obtain ⟨e, rfl⟩ := cast_some h
      subst e
      exact ⟨A, c, rfl, hc, hr⟩
    · exact cellAs_rep hS hk hv h
  · exact cellAs_rep hS hk hv h

theorem asData_ok {cx : Cx} {E : Env} {n : Nat → Prop} {S' : Nat → Prop} {H : Heap} (hg : Good E n) (hsub : SubH H E.H) (hS : ∀ b, E.S b → S' b) {a : AV} {v : Value} (hb : Lent H E S' a.ids) (hv : RelV E a v) {k : K} {d : k.D}
    (h : asData cx H k a = some d) : RepC S' E.w k d v.cells.toList ∧ (k.isAgg = true → ∃ cs : Array Value, v = .agg cs) ∧ (k.isAgg = false → v.cells = #[v]) := by
  unfold asData at h
  split at h
  · obtain ⟨e, rfl⟩ := cast_some h
    subst e
    obtain ⟨h1, h2, h3⟩ := relV_data.1 hv
    exact ⟨h1.mono (fun b hb => ⟨hS b hb, rfl⟩) _ _ _, h2, h3⟩
  · rename_i l
    split at h
    · rename_i d' hk hr
      simp only [Option.some.injEq] at h
      subst h
      obtain ⟨vs, rfl, hl⟩ := hv
      have hl := RelAll.iff.1 hl
      have := read_rep (S := S') (w := E.w) (RC := fun c v => ∀ (k : K) (x : k.D), k.isAgg = false → cellAs k c = some x → RepC S' E.w k x [v]) (fun k c x v hk hc hx => hc k x hk hx) k (l.map (AV.lend cx H)) d' [] vs.toList hr (by
        refine All2.of_get (by simp [hl.length]) (fun i c v hc hv => ?_)
        rw [List.getElem?_map] at hc
        obtain ⟨c0, hc0, rfl⟩ := map_some hc
        obtain ⟨v', hv', hrel⟩ := hl.get i c0 hc0
        rw [hv] at hv'
        injection hv' with hv'
        subst hv'
        refine lend_rep hg hsub hS (fun r hr => hb r ?_) hrel
        simp only [AV.ids]
        exact mem_idsAll hc0 r hr)
      obtain ⟨v1, v2, e, hrep, h2⟩ := this
      cases v2 with
      | cons _ _ => exact h2.elim
      | nil =>
        rw [List.append_nil] at e
        subst e
        exact ⟨hrep, fun _ => ⟨vs, rfl⟩, fun hk' => by rw [hk] at hk'; cases hk'⟩
    · cases h
  · split at h
    · rename_i d' hk hr
      simp only [Option.some.injEq] at h
      subst h
      have := read_rep (S := S') (w := E.w) (RC := fun c v => ∀ (k : K) (x : k.D), k.isAgg = false → cellAs k c = some x → RepC S' E.w k x [v]) (fun k c x v hk hc hx => hc k x hk hx) k _ d' [] [v] hr ⟨lend_rep hg hsub hS hb hv, trivial⟩
      obtain ⟨v1, v2, e, hrep, h2⟩ := this
      cases v2 with
      | cons _ _ => exact h2.elim
      | nil =>
        rw [List.append_nil] at e
        subst e
        have := repC_one k _ hk hrep
        exact ⟨by rw [this]; exact hrep, (fun hk' => by rw [hk] at hk'; cases hk'), fun _ => this⟩
    · cases h

/-! ### Values of a type put together from cells -/
def valOf (d : TypeDesc) (vs : List Value) : Value := match aggD d with
  | true => .agg vs.toArray
  | false => vs.headD undef

section
variable {P : Program} {hint : Nat → Hint} {glob : Nat → Option Comp} {E : Env} {n : Nat → Prop}

theorem tdOf_agg {d : TypeDesc} : (match tdOf d with | .struct _ | .array .. => true | _ => false) = aggD d := by cases d <;> rfl

theorem data_of_all {l : List AV} {vs : List Value} (hall : l.all AV.isData = true) (hl : All2 (RelV E) l vs) {k : K} {d : k.D} (h : k.read l = some (d, [])) : RepC E.S E.w k d vs := by
  have := read_rep (S := E.S) (w := E.w) (RC := RelV E) (fun k c x v hk hc hx => cellAs_rep (fun _ h => h) hk hc hx) k l d [] vs h hl
  obtain ⟨v1, v2, e, hrep, h2⟩ := this
  cases v2 with
  | cons _ _ => exact h2.elim
  | nil => rw [List.append_nil] at e; subst e; exact hrep

theorem assemble_ok {t : TypeId} {i : Ty} {d : TypeDesc} {cells : List AV} {vs : List Value} {r : AV} (ht : tyOf P t = some i) (hu : P.underlying t = some d) (hl : All2 (RelV E) cells vs) (h : assemble i cells = some r) :
    (aggD d = false → ∃ v, vs = [v]) ∧ RelV E r (valOf d vs) ∧ (∀ q ∈ r.ids, q ∈ idsAll cells) := by
  obtain ⟨info, d', h1, h2, h3, h4, h5, h6⟩ := ty_some ht
  rw [hu] at h2
  injection h2 with h2
  subst h2
  have one : aggD d = false → oneCell cells = some r → (aggD d = false → ∃ v, vs = [v]) ∧ RelV E r (valOf d vs) ∧ (∀ q ∈ r.ids, q ∈ idsAll cells) := by
    intro hd h
    unfold oneCell at h
    split at h
    · rename_i c
      injection h with h
      subst h
      cases vs with
      | nil => exact hl.elim
      | cons v vs =>
        cases vs with
        | cons _ _ => exact hl.2.elim
        | nil => exact ⟨fun _ => ⟨v, rfl⟩, by simp only [valOf, hd]; exact hl.1, fun q hq => by simp [idsAll, hq]⟩
    · cases h
  have agg : aggD d = true → aggCells i.kind cells = some r → (aggD d = false → ∃ v, vs = [v]) ∧ RelV E r (valOf d vs) ∧ (∀ q ∈ r.ids, q ∈ idsAll cells) := by
    intro hd h
    unfold aggCells at h
    split at h
    · rename_i k hk hall
      split at h
      · rename_i x hr
        injection h with h
        subst h
        have hk' : KindIs P 11 t k := kind_some (h6 ▸ hk)
        obtain ⟨_, d2, _, hu2, _, hagg⟩ := hk'.size
        rw [hu] at hu2
        injection hu2 with hu2
        subst hu2
        have hrep := data_of_all hall hl hr
        refine ⟨(fun h => by rw [hd] at h; cases h), ?_, fun q hq => by simp [AV.ids] at hq⟩
        rw [relV_data]
        simp only [valOf, hd]
        exact ⟨hrep, (fun _ => ⟨_, rfl⟩), (fun h => by rw [← hagg, hd] at h; cases h)⟩
      · cases h
    · injection h with h
      subst h
      refine ⟨(fun h => by rw [hd] at h; cases h), ?_, fun q hq => hq⟩
      simp only [valOf, hd]
      exact ⟨_, rfl, RelAll.iff.2 hl⟩
  unfold assemble at h
  rw [h3] at h
  cases d <;> first | exact agg rfl h | exact one rfl h

theorem part_run {t : TypeId} {i : TypeInfo} {d : TypeDesc} {cs : Array Value} {off : Nat} {vs : List Value} (hi : P.info? t = some i) (hu : P.underlying t = some d) (hvs : vs = (cs.toList.drop off).take i.size) (h1 : aggD d = false → ∃ v, vs = [v]) (w : World) :
    (part t cs off).run P w = .ok (valOf d vs) w := by
  unfold part
  rw [Sem.run_bind, run_isAgg_of hu, Result.andThen_ok]
  cases hd : aggD d with
  | true =>
    simp only [if_true]
    rw [Sem.run_bind, run_sizeOf_of hi, Result.andThen_ok, Sem.run_pure]
    simp only [valOf, hd]
    congr 2
    apply Array.ext'
    simp only [Array.toList_extract, hvs, List.extract]
    congr 1
    omega
  | false =>
    obtain ⟨v, rfl⟩ := h1 hd
    simp only [Bool.false_eq_true, if_false]
    have : cs[off]? = some v := by
      have h2 : ((cs.toList.drop off).take i.size)[0]? = some v := by rw [← hvs]; rfl
      rw [List.getElem?_take] at h2
      split at h2
      · simpa using h2
      · cases h2
    rw [this]
    simp only [valOf, hd, List.headD]
    rfl

theorem loadVar_run {t : TypeId} {i : TypeInfo} {d : TypeDesc} {a : Addr} {vs : List Value} (hi : P.info? t = some i) (hu : P.underlying t = some d) (hlen : vs.length = i.size) (h1 : aggD d = false → ∃ v, vs = [v]) {w : World}
    (hc : ∀ j, j < vs.length → w.cell? (a.add j) = vs[j]?) : (loadVar t a).run P w = .ok (valOf d vs) w := by
  unfold loadVar
  rw [Sem.run_bind, run_isAgg_of hu, Result.andThen_ok]
  cases hd : aggD d with
  | true =>
    simp only [if_true]
    rw [Sem.run_bind, run_sizeOf_of hi, Result.andThen_ok, Sem.run_bind, ← hlen, run_loadCells_list w a vs (fun j v hj => by
      have := hc j (List.getElem?_eq_some_iff.1 hj).1
      rw [this, hj])]
    simp only [Result.andThen_ok, Sem.run_pure, valOf, hd]
  | false =>
    obtain ⟨v, rfl⟩ := h1 hd
    have := hc 0 (by simp)
    rw [Addr.add_zero'] at this
    simp only [Bool.false_eq_true, if_false, run_load, this, valOf, hd]
    rfl
end
end Go.Lite
end

section
/-
  LITE 10: loads.
-/
set_option linter.unusedVariables false
set_option linter.unusedSimpArgs false
namespace Go.Lite
open Go Go.RowKit

theorem K.sz_one {k : K} (h : k.isAgg = false) : k.sz = 1 := by cases k <;> first | rfl | cases h
theorem relV_valOf {E : Env} {k : K} {x : k.D} {d : TypeDesc} {cs : List Value} (h : aggD d = k.isAgg) (hr : RepC E.S E.w k x cs) : RelV E (.data k x) (valOf d cs) ∧ (aggD d = false → ∃ v, cs = [v]) := by
  have hl := hr.length k _ _
  cases hk : k.isAgg with
  | true =>
    rw [hk] at h
    refine ⟨?_, (fun h' => by rw [h] at h'; cases h')⟩
    rw [relV_data]
    simp only [valOf, h]
    exact ⟨hr, (fun _ => ⟨_, rfl⟩), (fun h' => by rw [hk] at h'; cases h')⟩
  | false =>
    rw [hk] at h
    rw [K.sz_one hk] at hl
    match cs, hl with
    | [v], _ =>
      refine ⟨?_, fun _ => ⟨v, rfl⟩⟩
      simp only [valOf, h, List.headD]
      simp only [RelV, hk]
      exact hr

theorem flatAll_rel {E : Env} {k : K} (ih : ∀ (d : k.D) (vs : List Value), RepC E.S E.w k d vs → All2 (RelV E) (k.flat d) vs) : ∀ (l : List k.D) (vss : List (List Value)), All2 (RepC E.S E.w k) l vss → All2 (RelV E) (flatAll k.flat l) vss.flatten
  | [], [], _ => trivial
  | x :: l, v :: vss, h => All2.append (ih x v h.1) (flatAll_rel ih l vss h.2)
  | [], _ :: _, h => h.elim
  | _ :: _, [], h => h.elim
theorem flat_rel {E : Env} (k : K) : ∀ (d : k.D) (vs : List Value), RepC E.S E.w k d vs → All2 (RelV E) (k.flat d) vs := by
  induction k with
  | int i => intro d vs h; simp only [RepC] at h; subst h; exact ⟨relV_int.2 rfl, trivial⟩
  | bool => intro d vs h; simp only [RepC] at h; subst h; exact ⟨relV_bool.2 rfl, trivial⟩
  | str => intro d vs h; simp only [RepC] at h; subst h; exact ⟨relV_str.2 rfl, trivial⟩
  | unit => intro d vs h; simp only [RepC] at h; subst h; exact trivial
  | slice k _ =>
    intro d vs h
    have hl := h.length (.slice k) _ _
    match vs, hl with
    | [v], _ => exact ⟨by simpa [RelV, K.isAgg] using h, trivial⟩
  | array n k ih => intro d vs h; obtain ⟨_, vss, rfl, ha⟩ := h; exact flatAll_rel ih d vss ha
  | pair a b iha ihb => intro d vs h; obtain ⟨c1, c2, rfl, h1, h2⟩ := h; exact All2.append (iha _ _ h1) (ihb _ _ h2)
theorem flatAll_ids {k : K} (ih : ∀ d : k.D, idsAll (k.flat d) = []) : ∀ l : List k.D, idsAll (flatAll k.flat l) = []
  | [] => rfl
  | x :: l => by simp [flatAll, idsAll_append, ih x, flatAll_ids ih l]
theorem flat_ids (k : K) : ∀ d : k.D, idsAll (k.flat d) = [] := by
  induction k with
  | array n k ih => exact fun d => flatAll_ids ih d
  | pair a b iha ihb => intro d; simp [K.flat, idsAll_append, iha, ihb]
  | _ => intro d; simp [K.flat, idsAll, AV.ids]

/-! ### Longer paths -/
theorem tpath_append : ∀ (p : List Step) (k k1 : K) (q : List (Nat × Nat)) (s : Step) (o : Nat) (k2 : K), tpath k p = some q → pathKind k p = some k1 → offs s.fs k1 = some (o, .slice k2) → tpath k (p ++ [s]) = some (q ++ [(s.i.toNat, o)]) ∧ pathKind k (p ++ [s]) = some k2
  | [], k, k1, q, s, o, k2, hq, hk, ho => by
    simp only [tpath, Option.some.injEq] at hq
    simp only [pathKind, Option.some.injEq] at hk
    subst hq hk
    simp [tpath, pathKind, ho]
  | u :: p, k, k1, q, s, o, k2, hq, hk, ho => by
    simp only [tpath] at hq
    simp only [pathKind] at hk
    split at hq
    · rename_i o' k' ho'
      split at hq
      · rename_i q' hq'
        injection hq with hq
        subst hq
        rw [ho'] at hk
        obtain ⟨h1, h2⟩ := tpath_append p k' k1 q' s o k2 hq' hk ho
        simp only [List.cons_append, tpath, pathKind, ho', h1, h2]
        exact ⟨trivial, trivial⟩
      · cases hq
    · cases hq
theorem getRow_append : ∀ (q : List (Nat × Nat)) (t : T) (R : RowT) (i j : Nat), t.getRow q = some R → T.getRow (q ++ [(i, j)]) t = (match R.els[i]? with | some r => (match r[j]? with | some u => T.getRow [] u | none => none) | none => none)
  | [], t, R, i, j, h => by
    cases t with
    | row sz A c els =>
      simp only [T.getRow, Option.some.injEq] at h
      subst h
      simp only [List.nil_append, T.getRow, T.at?]
      cases els[i]? with
      | none => rfl
      | some r => cases r[j]? <;> rfl
    | _ => cases h
  | (a, b) :: q, t, R, i, j, h => by
    simp only [T.getRow] at h
    cases hat : t.at? a b with
    | none => rw [hat] at h; cases h
    | some u => rw [hat] at h; simp only [List.cons_append, T.getRow, hat]; exact getRow_append q u R i j h

def tailAt : K → Nat → Option (Nat × K)
  | k, 0 => some (0, k)
  | .pair a b, n + 1 => match tailAt b n with
    | some (o, k) => some (a.sz + o, k)
    | none => none
  | _, _ => none
theorem tailAt_zero (k : K) : tailAt k 0 = some (0, k) := by cases k <;> rfl
theorem tail_pair : ∀ (n : Nat) (k : K) (o : Nat) (a b : K), tailAt k n = some (o, .pair a b) → k.off1 n = some (o, a) ∧ tailAt k (n + 1) = some (o + a.sz, b)
  | 0, k, o, a, b, h => by
    simp only [tailAt, Option.some.injEq, Prod.mk.injEq] at h
    obtain ⟨rfl, rfl⟩ := h
    exact ⟨rfl, by simp [tailAt]⟩
  | n + 1, .pair x y, o, a, b, h => by
    simp only [tailAt] at h
    split at h
    · rename_i o' k' h'
      simp only [Option.some.injEq, Prod.mk.injEq] at h
      obtain ⟨rfl, rfl⟩ := h
      obtain ⟨h1, h2⟩ := tail_pair n y o' a b h'
      refine ⟨by simp only [K.off1, h1], ?_⟩
      show (match tailAt y (n + 1) with | some (o, k) => some (x.sz + o, k) | none => none) = _
      rw [h2]
      simp only [Nat.add_assoc]
    · cases h
  | n + 1, .int _, _, _, _, h => by cases h
  | n + 1, .bool, _, _, _, h => by cases h
  | n + 1, .str, _, _, _, h => by cases h
  | n + 1, .unit, _, _, _, h => by cases h
  | n + 1, .slice _, _, _, _, h => by cases h
  | n + 1, .array _ _, _, _, _, h => by cases h
theorem offs_snoc : ∀ (fs : List Nat) (k k1 : K) (o f o' : Nat) (k2 : K), offs fs k = some (o, k1) → k1.off1 f = some (o', k2) → offs (fs ++ [f]) k = some (o + o', k2)
  | [], k, k1, o, f, o', k2, h, h1 => by
    simp only [offs, Option.some.injEq, Prod.mk.injEq] at h
    obtain ⟨rfl, rfl⟩ := h
    simp [offs, h1]
  | g :: fs, k, k1, o, f, o', k2, h, h1 => by
    simp only [offs] at h
    split at h
    · rename_i o1 k3 ho1
      split at h
      · rename_i o2 k4 ho2
        simp only [Option.some.injEq, Prod.mk.injEq] at h
        obtain ⟨rfl, rfl⟩ := h
        simp only [List.cons_append, offs, ho1, offs_snoc fs k3 k4 o2 f o' k2 ho2 h1, Nat.add_assoc]
      · cases h
    · cases h

/-! ### An element of a row of our own -/
structure ElAt (E : Env) (r : Nat) (p : List Step) (i : Int) (rk : K) (el : List T) : Prop where
  out : ∃ fl k xs ver' t q R, E.H r = some (.arr fl k xs ver' none) ∧ E.G r = some (.arr t) ∧ tpath k p = some q ∧ t.getRow q = some R ∧ pathKind k p = some rk ∧ R.els[i.toNat]? = some el
  i0 : 0 ≤ i
  ok : okRow E.w el

theorem hdr_self {sz : Nat} {A : Option Addr} {c : Nat} {els : List (List T)} {w : World} (h : RowOk w sz A c els) : Hdr sz A c els.length 0 els.length (.slice A els.length c) := by
  refine ⟨by omega, A, c, by simp, by simp, ?_⟩
  rcases h.2.2 with h | ⟨g, s, _, _, h, _⟩
  · exact .inl h
  · exact .inr ⟨_, h, by rw [h]; simp [Addr.add]⟩
theorem rowOk_some {sz : Nat} {A : Option Addr} {c : Nat} {els : List (List T)} {w : World} (h : RowOk w sz A c els) : els.length ≤ c ∧ (c = 0 ∨ A.isSome = true) := by
  refine ⟨h.2.1, ?_⟩
  rcases h.2.2 with h | ⟨g, s, _, _, h, _⟩
  · exact .inl h
  · exact .inr (by rw [h]; rfl)

section
variable {P : Program} {hint : Nat → Hint} {glob : Nat → Option Comp} {E : Env} {n : Nat → Prop}

theorem rowIn {r : Nat} {p : List Step} {i : Int} {rk : K} {el : List T} (h : ElAt E r p i rk el) {fs : List Nat} {o : Nat} {k2 : K} {A : Option Addr} {c : Nat} {els : List (List T)} (ho : offs fs rk = some (o, .slice k2)) (hat : el[o]? = some (.row k2.sz A c els)) (ver : Nat) :
    RelV E (.sl r (verOf E.H r ver) (p ++ [⟨i, fs⟩]) 0 els.length) (.slice A els.length c) := by
  obtain ⟨fl, k, xs, ver', t, q, R, hH, hG, hq, hR, hk, hel⟩ := h.out
  have hok := okRow_get h.ok hat
  obtain ⟨h1, h2⟩ := tpath_append p k rk q ⟨i, fs⟩ o k2 hq hk ho
  have h3 := getRow_append q t R i.toNat o hR
  rw [hel] at h3
  simp only [hat, T.getRow] at h3
  obtain ⟨hle, hA⟩ := rowOk_some hok.1
  refine ⟨by omega, by omega, ⟨A, c, by simp, by simpa using hle, hA⟩, ?_⟩
  simp only [verOf, hH, hG]
  refine ⟨⟨fun _ => Nat.le_refl _, fun _ _ => ⟨_, _, h1, h3⟩⟩, fun _ q' R' hq' hR' => ?_⟩
  rw [h1] at hq'
  injection hq' with hq'
  subst hq'
  rw [h3] at hR'
  injection hR' with hR'
  subst hR'
  exact hdr_self hok.1

theorem take_split {α : Type} {l t1 t2 : List α} {m a b : Nat} (h : (l.drop m).take (a + b) = t1 ++ t2) (h1 : t1.length = a) : (l.drop m).take a = t1 ∧ (l.drop (m + a)).take b = t2 := by
  constructor
  · have : ((l.drop m).take (a + b)).take a = t1 := by rw [h, List.take_append_of_le_length (by omega), List.take_of_length_le (by omega)]
    rw [List.take_take] at this
    rwa [show min a (a + b) = a by omega] at this
  · have : ((l.drop m).take (a + b)).drop a = t2 := by rw [h, List.drop_append_of_le_length (by omega), List.drop_of_length_le (by omega), List.nil_append]
    rw [List.drop_take, List.drop_drop] at this
    rwa [show a + b - a = b by omega] at this

theorem openCells_ok {r : Nat} {p : List Step} {i : Int} {rk : K} {el : List T} (hE : ElAt E r p i rk el) (ver : Nat) : ∀ (f : Fl) (fs : List Nat) (m : Nat) (k' : K) (d : k'.D) (o o' : Nat) (kk : K) (l : List AV),
    offs fs rk = some (o, kk) → tailAt kk m = some (o', k') → AbsT E.S E.w f k' d ((el.drop (o + o')).take k'.sz) → openCells (fun fs n => .sl r (verOf E.H r ver) (p ++ [⟨i, fs⟩]) 0 n) fs m f k' d = some l →
    All2 (RelV E) l (((el.drop (o + o')).take k'.sz).map T.val) ∧ ∀ q ∈ idsAll l, q = r := by
  intro f
  induction f with
  | no =>
    intro fs m k' d o o' kk l ho ht ha h
    obtain ⟨vs, hvs, hr⟩ := ha
    have : openCells (fun fs n => .sl r (verOf E.H r ver) (p ++ [⟨i, fs⟩]) 0 n) fs m .no k' d = some (k'.flat d) := by cases k' <;> cases m <;> simp only [openCells]
    rw [this] at h
    injection h with h
    subst h
    rw [hvs, List.map_map, show T.val ∘ T.leaf = id from rfl, List.map_id]
    exact ⟨flat_rel _ _ _ hr, by simp [flat_ids]⟩
  | row g _ =>
    intro fs m k' d o o' kk l ho ht ha h
    cases k' with
    | slice k2 =>
      cases m with
      | zero =>
        obtain ⟨A, c, els, hts, hal⟩ := ha
        rw [tailAt_zero] at ht
        simp only [Option.some.injEq, Prod.mk.injEq] at ht
        obtain ⟨rfl, rfl⟩ := ht
        replace h : some [AV.sl r (verOf E.H r ver) (p ++ [⟨i, fs⟩]) 0 (List.length (α := k2.D) d : Nat)] = some l := h
        injection h with h
        subst h
        have hat := one_of_drop_take hts
        rw [Nat.add_zero] at hat
        have := rowIn hE ho hat ver
        rw [hts]
        refine ⟨⟨?_, trivial⟩, by simp [idsAll, AV.ids]⟩
        rw [hal.length]
        exact this
      | succ m => cases h
    | _ => exact ha.elim
  | pr a b iha ihb =>
    intro fs m k' d o o' kk l ho ht ha h
    cases k' with
    | pair ka kb =>
      obtain ⟨t1, t2, hts, h1, h2⟩ := ha
      have hl1 := h1.length a _ _ _
      obtain ⟨e1, e2⟩ := take_split (a := ka.sz) (b := kb.sz) hts hl1
      obtain ⟨hoff, htail⟩ := tail_pair m kk o' ka kb ht
      simp only [openCells] at h
      split at h
      · rename_i c l' hc hl'
        injection h with h
        subst h
        have hx := offs_snoc fs rk kk o m o' ka ho hoff
        obtain ⟨r1, i1⟩ := iha (fs ++ [m]) 0 ka d.1 (o + o') 0 ka c hx (tailAt_zero ka) (by rw [Nat.add_zero, e1]; exact h1) hc
        obtain ⟨r2, i2⟩ := ihb fs (m + 1) kb d.2 o (o' + ka.sz) kk l' ho htail (by rw [← Nat.add_assoc, e2]; exact h2) hl'
        rw [Nat.add_zero, e1] at r1
        rw [← Nat.add_assoc, e2] at r2
        rw [hts, List.map_append]
        exact ⟨All2.append r1 r2, fun q hq => by rw [idsAll_append] at hq; rcases List.mem_append.1 hq with h | h; exact i1 q h; exact i2 q h⟩
      · cases h
    | _ => exact ha.elim

theorem openEl_ok {r : Nat} {p : List Step} {i : Int} {rk : K} {el : List T} (hE : ElAt E r p i rk el) (ver : Nat) {f : Fl} {fs : List Nat} {k' : K} {d : k'.D} {o : Nat} {res : AV} {dsc : TypeDesc}
    (ho : offs fs rk = some (o, k')) (ha : AbsT E.S E.w f k' d ((el.drop o).take k'.sz)) (hd : aggD dsc = k'.isAgg) (h : openEl r (verOf E.H r ver) p i fs f k' d = some res) :
    RelV E res (valOf dsc (((el.drop o).take k'.sz).map T.val)) ∧ (aggD dsc = false → ∃ v, ((el.drop o).take k'.sz).map T.val = [v]) ∧ ∀ q ∈ res.ids, q = r := by
  cases f with
  | no =>
    obtain ⟨vs, hvs, hr⟩ := ha
    have : openEl r (verOf E.H r ver) p i fs .no k' d = some (.data k' d) := by cases k' <;> rfl
    rw [this] at h
    injection h with h
    subst h
    rw [hvs, List.map_map, show T.val ∘ T.leaf = id from rfl, List.map_id]
    obtain ⟨h1, h2⟩ := relV_valOf hd hr
    exact ⟨h1, h2, by simp [AV.ids]⟩
  | row g =>
    cases k' with
    | slice k2 =>
      obtain ⟨A, c, els, hts, hal⟩ := ha
      replace h : some (AV.sl r (verOf E.H r ver) (p ++ [⟨i, fs⟩]) 0 (List.length (α := k2.D) d : Nat)) = some res := h
      injection h with h
      subst h
      have hat := one_of_drop_take hts
      have := rowIn hE ho hat ver
      rw [hts]
      refine ⟨?_, fun _ => ⟨_, rfl⟩, by simp [AV.ids]⟩
      simp only [valOf, hd, K.isAgg, List.map_cons, List.headD, T.val]
      rw [hal.length]
      exact this
    | _ => exact ha.elim
  | pr a b =>
    cases k' with
    | pair ka kb =>
      simp only [openEl] at h
      split at h
      · rename_i l hl
        injection h with h
        subst h
        obtain ⟨h1, h2⟩ := openCells_ok hE ver (.pr a b) fs 0 (.pair ka kb) d o 0 (.pair ka kb) l ho (tailAt_zero _) ha hl
        rw [Nat.add_zero] at h1
        refine ⟨?_, (fun h' => by rw [hd] at h'; cases h'), h2⟩
        simp only [valOf, hd, K.isAgg]
        exact ⟨_, rfl, RelAll.iff.2 h1⟩
      · cases h
    | _ => exact ha.elim
end
end Go.Lite
end

section
/-
  LITE 11: loads, addresses, cuts.
-/
set_option linter.unusedVariables false
set_option linter.unusedSimpArgs false
namespace Go.Lite
open Go Go.RowKit

section
variable {P : Program} {hint : Nat → Hint} {glob : Nat → Option Comp} {E : Env} {n : Nat → Prop}

theorem Good.id_lt (hg : Good E n) {r : Nat} {root : Root} (h : E.H r = some root) : n r := (hg.names r root h).1
theorem Good.box (hg : Good E n) {r : Nat} {cells : List AV} (h : E.H r = some (.box cells)) : ∃ g vs e, E.G r = some (.box g) ∧ E.w.heap[g]? = some (.cells vs e (0, 0)) ∧ All2 (RelV E) cells vs.toList := by
  obtain ⟨gr, hG, hr⟩ := hg.roots r _ h
  cases gr with
  | box g => obtain ⟨vs, e, h1, h2⟩ := hr; exact ⟨g, vs, e, hG, h1, h2⟩
  | _ => exact hr.elim

theorem All2.drop {α β : Type} {R : α → β → Prop} : ∀ {l : List α} {m : List β} (i : Nat), All2 R l m → All2 R (l.drop i) (m.drop i)
  | _, _, 0, h => h
  | [], [], i + 1, h => trivial
  | a :: l, b :: m, i + 1, h => All2.drop (l := l) (m := m) i h.2
  | [], _ :: _, _ + 1, h => h.elim
  | _ :: _, [], _ + 1, h => h.elim
theorem All2.take {α β : Type} {R : α → β → Prop} : ∀ {l : List α} {m : List β} (i : Nat), All2 R l m → All2 R (l.take i) (m.take i)
  | l, m, 0, h => trivial
  | [], [], i + 1, h => trivial
  | a :: l, b :: m, i + 1, h => ⟨h.1, All2.take (l := l) (m := m) i h.2⟩
  | [], _ :: _, _ + 1, h => h.elim
  | _ :: _, [], _ + 1, h => h.elim
theorem idsAll_mem : ∀ {l : List AV} {q : Nat}, q ∈ idsAll l → ∃ c ∈ l, q ∈ c.ids
  | [], _, h => by cases h
  | c :: l, q, h => by
    rcases List.mem_append.1 h with h | h
    · exact ⟨c, by simp, h⟩
    · obtain ⟨c', h1, h2⟩ := idsAll_mem h; exact ⟨c', by simp [h1], h2⟩
theorem idsAll_of_mem {l : List AV} {c : AV} (h : c ∈ l) : ∀ q ∈ c.ids, q ∈ idsAll l := by
  obtain ⟨i, hi⟩ := List.getElem?_of_mem h
  exact mem_idsAll hi

theorem flComp_no : ∀ fs : List Nat, Fl.comp fs .no = .no
  | [] => rfl
  | f :: fs => by simp only [Fl.comp]; rw [show Fl.no.comp1 f = .no by cases f <;> rfl]; exact flComp_no fs
theorem openEl_no (r ver : Nat) (p : List Step) (i : Int) (fs : List Nat) (k : K) (d : k.D) : openEl r ver p i fs .no k d = some (.data k d) := by cases k <;> rfl

theorem load_ok {t : TypeId} {a r : AV} {va : Value} (hg : Good E n) (hv : RelV E a va) (hn : ∀ q ∈ a.ids, n q) (h : load (mkCx P hint glob) E.H t a = some r) :
    ∃ v, (Instr.loadAt t va).run P E.w = .ok v E.w ∧ RelV E r v ∧ ∀ q ∈ r.ids, n q := by
  have sure : ∀ (ad : Addr), (Instr.loadAt t (.pointer (some ad))).run P E.w = (loadVar t ad).run P E.w := by
    intro ad; unfold Instr.loadAt Instr.sureAddr; rfl
  unfold load at h
  split at h
  · rename_i k d
    split at h
    · rename_i hk
      injection h with h
      subst h
      have hk := kindAt_some (eq_of_beq hk)
      obtain ⟨info, dsc, hi, hu, hsz, hagg⟩ := hk.size
      obtain ⟨ad, cs, rfl, hS, hr, hc⟩ := hv
      have hl := hr.length k _ _
      obtain ⟨h1, h2⟩ := relV_valOf hagg hr
      refine ⟨valOf dsc cs, ?_, h1, by simp [AV.ids]⟩
      rw [sure]
      exact loadVar_run hi hu (by rw [hl, hsz]) h2 (fun j hj => hc j (by omega))
    · cases h
  · rename_i r' off
    split at h
    · rename_i cells i hH hi
      split at h
      · rename_i hle
        have hle := of_decide_eq_true hle
        obtain ⟨g, vs, e, hG, hh, hl⟩ := hg.box hH
        obtain ⟨g', rfl, hg'⟩ := hv
        rw [hg' cells hH] at hG
        injection hG with hG
        injection hG with hG
        subst hG
        obtain ⟨info, d, h1, h2, h3, h4, h5, h6⟩ := ty_some hi
        have hl' := All2.take i.size (All2.drop off hl)
        obtain ⟨a1, a2, a3⟩ := assemble_ok hi h2 hl' h
        have hlen := hl.length
        refine ⟨_, ?_, a2, fun q hq => ?_⟩
        · rw [sure]
          refine loadVar_run h1 h2 (by rw [List.length_take, List.length_drop]; omega) a1 (fun j hj => ?_)
          rw [List.length_take, List.length_drop] at hj
          rw [add_mk]
          unfold World.cell?
          simp only [hh, Option.isSome_none, Bool.false_eq_true, if_false]
          rw [List.getElem?_take, if_pos (by omega), List.getElem?_drop]
          simp
        · have := a3 q hq
          obtain ⟨c, hc, hq'⟩ := idsAll_mem this
          have hc' := List.mem_of_mem_drop (List.mem_of_mem_take hc)
          exact (hg.names r' _ hH).2 q (idsAll_of_mem hc' q hq')
      · cases h
    · cases h
  · rename_i r' ver p i fs
    split at h
    · rename_i V hV
      split at h
      · rename_i c hc
        split at h
        · rename_i hk
          have hk := kindAt_some (eq_of_beq hk)
          obtain ⟨info, dsc, hi, hu, hsz, hagg⟩ := hk.size
          obtain ⟨o, ho⟩ := comp_offs _ _ _ _ hc
          obtain ⟨h0, _, h2⟩ := hv
          rcases (view_is hg hV).out with ⟨fl, k, xs, ver', A0, c0, els0, hH, hG, hp, hok, ha, hf, hrow, _⟩ | ⟨k, xs, A, c', hH, hG, rfl, rfl, hc', hr⟩
          · rw [hH, hG] at h2
            obtain ⟨hpo, hcl⟩ := h2
            obtain ⟨q, R, hq, hR⟩ := hpo.2 hp rfl
            obtain ⟨e1, e2, e3, e4, e5, e6⟩ := nav p fl V.fl k xs A0 c0 els0 q R V.row ha hok.1 hok.2 hq hR hf hrow
            obtain ⟨hlt, ad, hA, rfl⟩ := hcl hp q R o _ _ hq hR e6 ho
            have hil : i.toNat < R.els.length := by omega
            obtain ⟨x, hx, hax⟩ := e4.get' i.toNat _ (List.getElem?_eq_getElem hil)
            rw [List.getD_eq_getElem?_getD, hx, Option.getD_some] at hc
            obtain ⟨_, hab, hle⟩ := AbsT.comp fs V.fl V.row.k x _ c o c.k hax hc ho
            have hE : ElAt E r' p i V.row.k R.els[i.toNat] := ⟨⟨fl, k, xs, ver', _, q, R, hH, hG, hq, hR, e6, List.getElem?_eq_getElem hil⟩, h0, okEls_get e3 (List.getElem?_eq_getElem hil)⟩
            obtain ⟨r1, r2, r3⟩ := openEl_ok hE ver ho hab hagg h
            refine ⟨_, ?_, r1, fun q hq => by rw [r3 q hq]; exact hg.id_lt hH⟩
            rw [sure]
            have hel := hax.length V.fl _ _ _
            refine loadVar_run hi hu (by rw [List.length_map, List.length_take, List.length_drop]; omega) r2 (fun j hj => ?_)
            rw [List.length_map, List.length_take, List.length_drop] at hj
            rcases e2.2.2 with h00 | ⟨g, s, cells, e, hAg, hh, hcap, hcell⟩
            · have := e2.2.1; omega
            · rw [hA] at hAg
              injection hAg with hAg
              subst hAg
              rw [add_mk, add_mk]
              unfold World.cell?
              simp only [hh, Option.isSome_none, Bool.false_eq_true, if_false]
              rw [List.getElem?_map, List.getElem?_take, if_pos (by omega), List.getElem?_drop]
              have hj' : o + j < R.els[i.toNat].length := by omega
              have ht : R.els[i.toNat][o + j]? = some (R.els[i.toNat][o + j]) := List.getElem?_eq_getElem hj'
              rw [ht, Option.map_some]
              have := hcell i.toNat _ (List.getElem?_eq_getElem hil) (o + j) _ ht (hax.nogap V.fl _ _ _ _ (List.mem_of_getElem? ht))
              rw [← this]
              congr 1
              omega
          · rw [hH, hG] at h2
            obtain ⟨hlt, ad, hA, rfl⟩ := h2 rfl o _ ho
            simp only at hc ho h
            have hil : i.toNat < xs.length := by omega
            rw [List.getD_eq_getElem?_getD, List.getElem?_eq_getElem hil, Option.getD_some] at hc
            rcases hr with rfl | ⟨ad', hA', hS, hcell⟩
            · simp at hil
            · rw [hA] at hA'
              injection hA' with hA'
              subst hA'
              obtain ⟨vs, hvl, hrep, hvs⟩ := hcell i.toNat _ (List.getElem?_eq_getElem hil)
              obtain ⟨_, hcr, hle⟩ := RepC.comp fs k _ vs c o c.k hrep hc ho
              rw [flComp_no, openEl_no] at h
              injection h with h
              subst h
              obtain ⟨h1, h2⟩ := relV_valOf hagg hcr
              refine ⟨_, ?_, h1, by simp [AV.ids]⟩
              rw [sure]
              refine loadVar_run hi hu (by rw [List.length_take, List.length_drop]; omega) h2 (fun j hj => ?_)
              rw [List.length_take, List.length_drop] at hj
              rw [add_add, Nat.add_assoc, hvs (o + j) (by omega), List.getElem?_take, if_pos (by omega), List.getElem?_drop]
        · cases h
      · cases h
    · cases h
  · cases h
end
end Go.Lite
end

section
/-
  LITE 12: rows within rows: what stays when one is taken out or put back.
-/
set_option linter.unusedVariables false
set_option linter.unusedSimpArgs false
namespace Go.Lite
open Go Go.RowKit

theorem off1_comp1 : ∀ (k : K) (x : k.D) (f o : Nat) (k' : K), k.off1 f = some (o, k') → ∃ d, k.comp1 x f = some ⟨k', d⟩
  | .pair a b, x, 0, o, k', h => by
    simp only [K.off1, Option.some.injEq, Prod.mk.injEq] at h
    obtain ⟨rfl, rfl⟩ := h
    exact ⟨x.1, rfl⟩
  | .pair a b, x, n + 1, o, k', h => by
    simp only [K.off1] at h
    split at h
    · rename_i o1 k1 h1
      simp only [Option.some.injEq, Prod.mk.injEq] at h
      obtain ⟨rfl, rfl⟩ := h
      exact off1_comp1 b x.2 n o1 k1 h1
    · cases h
  | .int _, _, _, _, _, h => by cases h
  | .bool, _, _, _, _, h => by cases h
  | .str, _, _, _, _, h => by cases h
  | .unit, _, _, _, _, h => by cases h
  | .slice _, _, _, _, _, h => by cases h
  | .array _ _, _, _, _, _, h => by cases h
theorem offs_comp : ∀ (fs : List Nat) (k : K) (x : k.D) (o : Nat) (k' : K), offs fs k = some (o, k') → ∃ d, K.comp fs k x = some ⟨k', d⟩
  | [], k, x, o, k', h => by
    simp only [offs, Option.some.injEq, Prod.mk.injEq] at h
    obtain ⟨rfl, rfl⟩ := h
    exact ⟨x, rfl⟩
  | f :: fs, k, x, o, k', h => by
    simp only [offs] at h
    split at h
    · rename_i o1 k1 h1
      split at h
      · rename_i o2 k2 h2
        simp only [Option.some.injEq, Prod.mk.injEq] at h
        obtain ⟨rfl, rfl⟩ := h
        obtain ⟨d, hd⟩ := off1_comp1 k x f o1 k1 h1
        obtain ⟨d', hd'⟩ := offs_comp fs k1 d o2 k2 h2
        exact ⟨d', by simp only [K.comp, hd, hd']⟩
      · cases h
    · cases h

theorem getRow_sz {S : Nat → Prop} {w : World} : ∀ (p : List Step) (fl : Fl) (k : K) (xs : List k.D) (A : Option Addr) (c : Nat) (els : List (List T)) (q : List (Nat × Nat)) (R : RowT) (k1 : K),
    All2 (AbsT S w fl k) xs els → tpath k p = some q → pathKind k p = some k1 → T.getRow q (.row k.sz A c els) = some R → R.sz = k1.sz
  | [], fl, k, xs, A, c, els, q, R, k1, ha, hq, hk, hR => by
    simp only [tpath, Option.some.injEq] at hq
    simp only [pathKind, Option.some.injEq] at hk
    subst hq hk
    simp only [T.getRow, Option.some.injEq] at hR
    subst hR
    rfl
  | s :: p, fl, k, xs, A, c, els, q, R, k1, ha, hq, hk, hR => by
    simp only [tpath] at hq
    simp only [pathKind] at hk
    split at hq
    · rename_i o k' ho
      split at hq
      · rename_i q' hq'
        simp only [Option.some.injEq] at hq
        subst hq
        rw [ho] at hk
        simp only [T.getRow] at hR
        split at hR
        · rename_i t ht
          obtain ⟨r, hr, hrt⟩ := at_some ht
          obtain ⟨x, hx, hax⟩ := ha.get' _ _ hr
          obtain ⟨d, hc⟩ := offs_comp s.fs k x o _ ho
          obtain ⟨_, hab, hle⟩ := AbsT.comp s.fs fl k x r ⟨.slice k', d⟩ o (.slice k') hax hc ho
          generalize Fl.comp s.fs fl = g at hab
          cases g with
          | no =>
            obtain ⟨vs, hvs, _⟩ := hab
            have hro : r[o]? = some t := hrt
            have : ((r.drop o).take 1)[0]? = some t := by simpa using hro
            rw [show (1 : Nat) = (K.slice k').sz from rfl, hvs] at this
            cases vs with
            | nil => simp at this
            | cons v vs =>
              simp at this
              subst this
              cases q' with
              | nil => simp [T.getRow] at hR
              | cons _ _ => simp [T.getRow, T.at?] at hR
          | row g =>
            obtain ⟨A1, c1, els1, he, ha1⟩ := hab
            have hro := one_of_drop_take he
            rw [hrt] at hro
            injection hro with hro
            subst hro
            exact getRow_sz p g k' d A1 c1 els1 q' R k1 ha1 hq' hk hR
          | pr _ _ => exact hab.elim
        · cases hR
      · cases hq
    · cases hq

theorem getRow_gap : ∀ (q : List (Nat × Nat)), T.getRow q .gap = none
  | [] => rfl
  | _ :: _ => rfl
theorem setEl_get {sz : Nat} {A : Option Addr} {c : Nat} {els : List (List T)} {i j : Nat} {u u' : T} {r : List T} (hr : els[i]? = some r) (hu : r[j]? = some u) (i2 j2 : Nat) :
    (T.row sz A c (setEl els i j u')).at? i2 j2 = if i2 = i ∧ j2 = j then some u' else (T.row sz A c els).at? i2 j2 := by
  have hi := (List.getElem?_eq_some_iff.1 hr).1
  have hj := (List.getElem?_eq_some_iff.1 hu).1
  simp only [T.at?, setEl, hr]
  by_cases h1 : i2 = i
  · subst h1
    rw [List.getElem?_set, if_pos rfl, if_pos hi, hr]
    simp only [true_and]
    by_cases h2 : j2 = j
    · subst h2; rw [List.getElem?_set, if_pos rfl, if_pos hj, if_pos rfl]
    · rw [List.getElem?_set, if_neg (Ne.symm h2), if_neg h2]
  · rw [List.getElem?_set, if_neg (Ne.symm h1), if_neg (fun h => h1 h.1)]

/-- A new thing at the end of a path, and what stands beside it. -/
theorem setC_some {sz : Nat} {A : Option Addr} {c : Nat} {els : List (List T)} {i j : Nat} {p : List (Nat × Nat)} {u t' : T} (h : T.setC ((i, j) :: p) u (.row sz A c els) = some t') :
    ∃ r u0 u1, els[i]? = some r ∧ r[j]? = some u0 ∧ T.setC p u u0 = some u1 ∧ t' = .row sz A c (setEl els i j u1) := by
  simp only [T.setC] at h
  cases hat : (T.row sz A c els).at? i j with
  | none => rw [hat] at h; cases h
  | some v =>
    rw [hat] at h
    cases hu : T.setC p u v with
    | none => simp only [hu] at h; cases h
    | some u' =>
      simp only [hu] at h
      injection h with h
      obtain ⟨r, hr, hv⟩ := at_some hat
      exact ⟨r, v, u', hr, hv, hu, h.symm⟩
theorem setC_isRow {i j : Nat} {p : List (Nat × Nat)} {u t t' : T} (h : T.setC ((i, j) :: p) u t = some t') : ∃ sz A c els, t = .row sz A c els := by
  cases t with
  | row sz A c els => exact ⟨sz, A, c, els, rfl⟩
  | _ => simp [T.setC, T.at?] at h

/-- Rows of a tree with something else at the end of a path: either beyond that end, or as before. -/
theorem setC_getRow : ∀ (p : List (Nat × Nat)) (u t t' : T), T.setC p u t = some t' → ∀ (q : List (Nat × Nat)) (R' : RowT), T.getRow q t' = some R' →
    (∃ q2, q = p ++ q2 ∧ T.getRow q2 u = some R') ∨ ∃ R, T.getRow q t = some R ∧ R.sz = R'.sz ∧ R.A = R'.A ∧ R.c = R'.c ∧ R.els.length = R'.els.length
  | [], u, t, t', h, q, R', hR => by
    simp only [T.setC, Option.some.injEq] at h
    subst h
    exact .inl ⟨q, rfl, hR⟩
  | (i, j) :: p, u, t, t', h, q, R', hR => by
    obtain ⟨sz, A, c, els, rfl⟩ := setC_isRow h
    obtain ⟨r, u0, u1, hr, hu0, hu1, rfl⟩ := setC_some h
    cases q with
    | nil =>
      simp only [T.getRow, Option.some.injEq] at hR
      subst hR
      exact .inr ⟨_, rfl, rfl, rfl, rfl, (setEl_length _ _ _ _).symm⟩
    | cons ij q =>
      obtain ⟨i2, j2⟩ := ij
      simp only [T.getRow] at hR
      rw [setEl_get hr hu0] at hR
      by_cases he : i2 = i ∧ j2 = j
      · obtain ⟨rfl, rfl⟩ := he
        simp only [and_self, if_true] at hR
        have hat : (T.row sz A c els).at? i2 j2 = some u0 := by simp only [T.at?, hr, hu0]
        rcases setC_getRow p u u0 u1 hu1 q R' hR with ⟨q2, rfl, h2⟩ | ⟨R, h1, h2⟩
        · exact .inl ⟨q2, rfl, h2⟩
        · exact .inr ⟨R, by simp only [T.getRow, hat]; exact h1, h2⟩
      · rw [if_neg he] at hR
        exact .inr ⟨R', by simp only [T.getRow]; exact hR, rfl, rfl, rfl, rfl⟩
/-- And the other way. -/
theorem getRow_setC : ∀ (p : List (Nat × Nat)) (u t t' : T), T.setC p u t = some t' → ∀ (q : List (Nat × Nat)) (R : RowT), T.getRow q t = some R →
    (∃ q2, q = p ++ q2) ∨ ∃ R', T.getRow q t' = some R' ∧ R.sz = R'.sz ∧ R.A = R'.A ∧ R.c = R'.c ∧ R.els.length = R'.els.length
  | [], u, t, t', h, q, R', hR => .inl ⟨q, rfl⟩
  | (i, j) :: p, u, t, t', h, q, R, hR => by
    obtain ⟨sz, A, c, els, rfl⟩ := setC_isRow h
    obtain ⟨r, u0, u1, hr, hu0, hu1, rfl⟩ := setC_some h
    cases q with
    | nil =>
      simp only [T.getRow, Option.some.injEq] at hR
      subst hR
      exact .inr ⟨_, rfl, rfl, rfl, rfl, (setEl_length _ _ _ _).symm⟩
    | cons ij q =>
      obtain ⟨i2, j2⟩ := ij
      simp only [T.getRow] at hR
      by_cases he : i2 = i ∧ j2 = j
      · obtain ⟨rfl, rfl⟩ := he
        have hat : (T.row sz A c els).at? i2 j2 = some u0 := by simp only [T.at?, hr, hu0]
        rw [hat] at hR
        rcases getRow_setC p u u0 u1 hu1 q R hR with ⟨q2, rfl⟩ | ⟨R', h1, h2⟩
        · exact .inl ⟨q2, rfl⟩
        · refine .inr ⟨R', ?_, h2⟩
          simp only [T.getRow]
          rw [setEl_get hr hu0, if_pos ⟨rfl, rfl⟩]
          exact h1
      · refine .inr ⟨R, ?_, rfl, rfl, rfl, rfl⟩
        simp only [T.getRow]
        rw [setEl_get hr hu0, if_neg he]
        exact hR

/-- The size of the elements of a row at the end of a path of a root that is ours. -/
theorem Good.rowSz {E : Env} {n : Nat → Prop} {r : Nat} (hg : Good E n) {fl : Fl} {k : K} {xs : List k.D} {ver : Nat} {hole : Option (List Step)} {t : T} (hH : E.H r = some (.arr fl k xs ver hole)) (hG : E.G r = some (.arr t))
    {p : List Step} {q : List (Nat × Nat)} {R : RowT} {k1 : K} (hq : tpath k p = some q) (hk : pathKind k p = some k1) (hR : t.getRow q = some R) : R.sz = k1.sz := by
  obtain ⟨gr, hgr, hrel⟩ := hg.roots r _ hH
  rw [hG] at hgr
  injection hgr with hgr
  subst hgr
  cases hole with
  | none =>
    obtain ⟨A, c, els, rfl, _, ha⟩ := hrel
    exact getRow_sz p fl k xs A c els q R k1 ha hq hk hR
  | some h =>
    obtain ⟨A, c, els, pq, hpq, hne, ha, hs, _⟩ := hrel
    rcases setC_getRow pq .gap _ t hs q R hR with ⟨q2, _, h2⟩ | ⟨R0, h0, e1, _⟩
    · rw [getRow_gap] at h2; cases h2
    · rw [← e1]
      exact getRow_sz p fl k xs A c els q R0 k1 ha hq hk h0
end Go.Lite
end

section
/-
  LITE 13: addresses, fields, elements, cuts, lengths.
-/
set_option linter.unusedVariables false
set_option linter.unusedSimpArgs false
namespace Go.Lite
open Go Go.RowKit

section
variable {P : Program} {hint : Nat → Hint} {glob : Nat → Option Comp} {E : Env} {n : Nat → Prop}

theorem getD_of {α : Type} (l : List α) (i : Nat) (h : i < l.length) (z : α) : l.getD i z = l[i] := by rw [List.getD_eq_getElem?_getD, List.getElem?_eq_getElem h]; rfl
theorem asInt_rel {a : AV} {i : Int} {v : Value} (h : asInt a = some i) (hv : RelV E a v) : ∃ kk, v = .int kk i := by
  unfold asInt at h
  split at h
  · injection h with h; subst h; exact ⟨_, relV_int.1 hv⟩
  · cases h

theorem indexAt_slice_run {t e : TypeId} {info : TypeInfo} (hu : P.underlying t = some (.slice e)) (hi : P.info? e = some info) {a : Addr} {len cap : Nat} {k : IntKind} {i : Int} (h0 : 0 ≤ i) (h1 : i < len) (w : World) :
    (Instr.indexAt t (.slice (some a) len cap) (.int k i)).run P w = .ok (.pointer (some (a.add (i.toNat * info.size)))) w := by
  have he : P.elem t = e := by simp [Program.elem, hu]
  rw [run_indexAt_slice w t a len cap k i (by rw [hu, he]), if_pos ⟨h0, h1⟩, he, run_sizeOf_of hi, Result.andThen_ok]
theorem indexAt_array_run {t e : TypeId} {m : Nat} {info : TypeInfo} (hu : P.underlying t = some (.array m e)) (hi : P.info? e = some info) {a : Addr} {k : IntKind} {i : Int} (h0 : 0 ≤ i) (h1 : i < m) (w : World) :
    (Instr.indexAt t (.pointer (some a)) (.int k i)).run P w = .ok (.pointer (some (a.add (i.toNat * info.size)))) w := by
  have he : P.elem t = e := by simp [Program.elem, hu]
  have hm : P.arrayLen t = m := by simp [Program.arrayLen, hu]
  rw [run_indexAt_array w t a k i (by rw [hu, he, hm]), hm, if_pos ⟨h0, h1⟩, he, run_sizeOf_of hi, Result.andThen_ok]

theorem rowAt_at {S : Nat → Prop} {k : K} {A : Option Addr} {l : List k.D} {i : Nat} (hr : RowAt E.w S k.sz (RepC S E.w k) A l) (hi : i < l.length) :
    ∃ a vs, A = some a ∧ S a.block ∧ RepC S E.w k (l.getD i k.zero) vs ∧ ∀ j, j < k.sz → E.w.cell? ((a.add (i * k.sz)).add j) = vs[j]? := by
  rcases hr with rfl | ⟨a, hA, hS, hc⟩
  · simp at hi
  · obtain ⟨vs, hl, hrep, hv⟩ := hc i _ (List.getElem?_eq_getElem hi)
    refine ⟨a, vs, hA, hS, by rw [List.getD_eq_getElem?_getD, List.getElem?_eq_getElem hi]; exact hrep, fun j hj => by rw [add_add]; exact hv j hj⟩

theorem flatten_get {S : Nat → Prop} {w : World} {k : K} : ∀ (l : List k.D) (vss : List (List Value)) (i j : Nat), All2 (RepC S w k) l vss → j < k.sz → (vss.flatten)[i * k.sz + j]? = (vss[i]?).bind (·[j]?)
  | [], [], i, j, _, hj => by simp
  | x :: l, v :: vss, 0, j, h, hj => by
    have := h.1.length k _ _
    simp only [List.flatten_cons, Nat.zero_mul, Nat.zero_add, List.getElem?_cons_zero, Option.bind_some]
    rw [List.getElem?_append_left (by omega)]
  | x :: l, v :: vss, i + 1, j, h, hj => by
    have := h.1.length k _ _
    simp only [List.flatten_cons, List.getElem?_cons_succ]
    rw [List.getElem?_append_right (by rw [Nat.add_mul]; omega), ← flatten_get l vss i j h.2 hj]
    congr 1
    rw [Nat.add_mul]; omega
  | [], _ :: _, _, _, h, _ => h.elim
  | _ :: _, [], _, _, h, _ => h.elim

theorem indexAddr_ok {t : TypeId} {x i r : AV} {vx vi : Value} (hg : Good E n) (hx : RelV E x vx) (hi : RelV E i vi) (hn : ∀ q ∈ x.ids, n q) (h : indexAddr (mkCx P hint glob) E.H t x i = some r) :
    ∃ v, (Instr.indexAt t vx vi).run P E.w = .ok v E.w ∧ RelV E r v ∧ ∀ q ∈ r.ids, n q := by
  unfold indexAddr at h
  split at h
  · rename_i k d ix hix
    obtain ⟨kk, rfl⟩ := asInt_rel hix hi
    obtain ⟨hc, h⟩ := chk_some h
    simp only [Bool.and_eq_true, decide_eq_true_eq] at hc
    injection h with h
    subst h
    obtain ⟨e, hu, he⟩ := kind_slice (kindAt_some (eq_of_beq hc.1.1))
    obtain ⟨info, _, hinfo, _, hsz, _⟩ := kindOf_size he
    simp only [RelV, K.isAgg] at hx
    obtain ⟨A, c, hx, _, hr⟩ := hx
    injection hx with hx _
    subst hx
    obtain ⟨a, vs, rfl, hS, hrep, hcell⟩ := rowAt_at (i := ix.toNat) hr (by have := hc.2; have := hc.1.2; omega)
    refine ⟨_, indexAt_slice_run hu hinfo hc.1.2 hc.2 E.w, ?_, by simp [AV.ids]⟩
    rw [hsz]
    exact ⟨_, vs, rfl, by rw [add_block]; exact hS, hrep, hcell⟩
  · rename_i k d ix hix
    obtain ⟨kk, rfl⟩ := asInt_rel hix hi
    obtain ⟨hc, h⟩ := chk_some h
    simp only [Bool.and_eq_true, decide_eq_true_eq] at hc
    injection h with h
    subst h
    obtain ⟨e, hu, he⟩ := kind_slice (kindAt_some (eq_of_beq hc.1.1))
    obtain ⟨info, _, hinfo, _, hsz, _⟩ := kindOf_size he
    obtain ⟨A, rfl, hr⟩ := hx
    obtain ⟨a, vs, rfl, hS, hrep, hcell⟩ := rowAt_at (i := ix.toNat) hr (by have := hc.2; have := hc.1.2; omega)
    refine ⟨_, indexAt_slice_run hu hinfo hc.1.2 hc.2 E.w, ?_, by simp [AV.ids]⟩
    rw [hsz]
    exact ⟨_, vs, rfl, by rw [add_block]; exact hS, hrep, hcell⟩
  · rename_i m k d ix hix
    obtain ⟨kk, rfl⟩ := asInt_rel hix hi
    obtain ⟨hc, h⟩ := chk_some h
    simp only [Bool.and_eq_true, decide_eq_true_eq] at hc
    injection h with h
    subst h
    obtain ⟨e, hu, he⟩ := kind_array (kindAt_some (eq_of_beq hc.1.1.1))
    obtain ⟨info, _, hinfo, _, hsz, _⟩ := kindOf_size he
    obtain ⟨a, cs, rfl, hS, hrep, hcell⟩ := hx
    obtain ⟨hlen, vss, rfl, hall⟩ := hrep
    have hil : ix.toNat < List.length (α := k.D) d := by have := hc.1.2; have := hc.1.1.2; omega
    obtain ⟨vs, hvs, hrep⟩ := hall.get ix.toNat _ (List.getElem?_eq_getElem hil)
    refine ⟨_, indexAt_array_run hu hinfo hc.1.1.2 hc.1.2 E.w, ?_, by simp [AV.ids]⟩
    rw [hsz]
    refine ⟨_, vs, rfl, by rw [add_block]; exact hS, Eq.mpr (congrArg (fun z => RepC E.S E.w k z vs) (getD_of (α := k.D) d ix.toNat hil k.zero)) hrep, fun j hj => ?_⟩
    have hlt : ix.toNat * k.sz + j < (K.array m k).sz := by
      show _ < m * k.sz
      have h1 : (ix.toNat + 1) * k.sz ≤ m * k.sz := Nat.mul_le_mul_right _ (by omega)
      rw [Nat.add_mul] at h1
      omega
    rw [add_add, hcell _ hlt, flatten_get d vss ix.toNat j hall hj, hvs, Option.bind_some]
  · rename_i r' ver p off len ix hix
    obtain ⟨kk, rfl⟩ := asInt_rel hix hi
    obtain ⟨h0, h1, ⟨A1, c1, rfl, hle1, hA1⟩, h2⟩ := hx
    split at h
    · rename_i k xs hH
      split at h
      · obtain ⟨hc, h⟩ := chk_some h
        simp only [Bool.and_eq_true, decide_eq_true_eq] at hc
        injection h with h
        subst h
        obtain ⟨e, hu, he⟩ := kind_slice (kindAt_some (eq_of_beq hc.1.1))
        obtain ⟨info, _, hinfo, _, hsz, _⟩ := kindOf_size he
        obtain ⟨gr, hG, hrel⟩ := hg.roots r' _ hH
        cases gr with
        | frz A c m =>
          obtain ⟨rfl, hmc, hr⟩ := hrel
          rw [hH, hG] at h2
          obtain ⟨hle, A', c', hv, hc', ha⟩ := h2 rfl
          injection hv with e1 e2 e3
          subst e1 e3
          have hl0 := hc.1.2
          have hl1 := hc.2
          rcases ha with ha | ⟨a, rfl, rfl⟩
          · omega
          · obtain ⟨a', vs, ha', hS, hrep, hcell⟩ := rowAt_at (i := (off + ix).toNat) hr (by omega)
            injection ha' with ha'
            subst ha'
            refine ⟨_, indexAt_slice_run hu hinfo hc.1.2 (by omega) E.w, ?_, by simp [AV.ids]⟩
            rw [hsz, add_add]
            refine ⟨_, vs, rfl, by rw [add_block]; exact hS, hrep, fun j hj => ?_⟩
            rw [← Nat.add_mul, show off.toNat + ix.toNat = (off + ix).toNat by omega]
            exact hcell j hj
        | _ => exact hrel.elim
      · cases h
    · rename_i fl k0 xs ver' hole hH
      split at h
      · rename_i k hp hk
        obtain ⟨hc, h⟩ := chk_some h
        simp only [Bool.and_eq_true, decide_eq_true_eq] at hc
        injection h with h
        subst h
        have hl0 := hc.1.2
        have hl1 := hc.2
        obtain ⟨e, hu, he⟩ := kind_slice (kindAt_some (eq_of_beq hc.1.1))
        obtain ⟨info, _, hinfo, _, hsz, _⟩ := kindOf_size he
        obtain ⟨A0, c0, els0, hG, _⟩ := hg.arr r' fl k0 xs ver' hole hH
        rw [hH, hG] at h2
        obtain ⟨hpo, hcl⟩ := h2
        have hp' : p = [] ∨ ver = ver' := by simpa [List.isEmpty_iff] using hp
        rcases hA1 with hA1 | hA1
        · omega
        · obtain ⟨a1, rfl⟩ := Option.isSome_iff_exists.1 hA1
          refine ⟨_, indexAt_slice_run hu hinfo hc.1.2 (by omega) E.w, ?_, by simp [AV.ids]; exact hg.id_lt hH⟩
          refine ⟨by omega, ⟨_, rfl⟩, ?_⟩
          rw [hH, hG]
          refine ⟨⟨fun _ => Nat.le_refl _, fun _ hh => hpo.2 hp' hh⟩, fun _ q R o k1 k2 hq hR hk1 ho => ?_⟩
          simp only [offs, Option.some.injEq, Prod.mk.injEq] at ho
          obtain ⟨rfl, rfl⟩ := ho
          simp only [rowKind, hH] at hk
          rw [hk] at hk1
          injection hk1 with hk1
          subst hk1
          obtain ⟨hle, A', c', hv, hc', ha⟩ := hcl hp' q R hq hR
          injection hv with e1 e2 e3
          subst e3
          have hRsz := hg.rowSz hH hG hq hk hR
          rcases ha with ha | ⟨a, hRA, ha⟩
          · omega
          · refine ⟨by omega, a, hRA, ?_⟩
            rw [ha] at e1
            injection e1 with e1
            rw [e1, add_add, hsz, hRsz, ← Nat.add_mul, Nat.add_zero, show off.toNat + ix.toNat = (off + ix).toNat by omega]
      · cases h
    · cases h
  · rename_i r' off ix hix
    obtain ⟨kk, rfl⟩ := asInt_rel hix hi
    split at h
    · rename_i m e htd
      obtain ⟨_, _, d, _, _, hu, hd, _⟩ := td_some htd
      have hd := td_inv.2.2.2.2.2.2.2.1 m e hd
      subst hd
      split at h
      · rename_i ie hie
        obtain ⟨hc, h⟩ := chk_some h
        simp only [Bool.and_eq_true, decide_eq_true_eq] at hc
        injection h with h
        subst h
        obtain ⟨info, _, hinfo, _, _, hsz, _⟩ := ty_some hie
        obtain ⟨g, rfl, hgx⟩ := hx
        refine ⟨_, indexAt_array_run hu hinfo hc.1 hc.2 E.w, ?_, by simpa [AV.ids] using hn⟩
        rw [add_mk, hsz]
        exact ⟨g, rfl, hgx⟩
      · cases h
    · cases h
  · cases h
end
end Go.Lite
end

section
/-
  LITE 14: fields, elements, cuts, lengths.
-/
set_option linter.unusedVariables false
set_option linter.unusedSimpArgs false
namespace Go.Lite
open Go Go.RowKit

theorem get?_eq {α : Type} : ∀ (l : List α) (i : Nat), get? l i = l[i]?
  | [], i => by cases i <;> rfl
  | a :: l, 0 => rfl
  | a :: l, i + 1 => by simpa [get?] using get?_eq l i

theorem kindsOf_comp {F : TypeId → Option K} : ∀ (l : List Field) (off : Nat) (k : K) (f o : Nat) (k1 : K), kindsOf F off l = some k → k.off1 f = some (o, k1) → ∃ fld, l[f]? = some fld ∧ fld.offset = off + o ∧ F fld.type = some k1
  | [], off, k, f, o, k1, h, ho => by injection h with h; subst h; cases ho
  | a :: l, off, k, f, o, k1, h, ho => by
    simp only [kindsOf] at h
    split at h
    · rename_i ka hka
      split at h
      · rename_i heq
        have heq := eq_of_beq heq
        split at h
        · rename_i kb hkb
          injection h with h
          subst h
          cases f with
          | zero =>
            simp only [K.off1, Option.some.injEq, Prod.mk.injEq] at ho
            obtain ⟨rfl, rfl⟩ := ho
            exact ⟨a, rfl, heq, hka⟩
          | succ f =>
            simp only [K.off1] at ho
            split at ho
            · rename_i o' k' ho'
              simp only [Option.some.injEq, Prod.mk.injEq] at ho
              obtain ⟨rfl, rfl⟩ := ho
              obtain ⟨fld, h1, h2, h3⟩ := kindsOf_comp l (off + ka.sz) kb f o' k' hkb ho'
              exact ⟨fld, by simpa using h1, by omega, h3⟩
            · cases ho
        · cases h
      · cases h
    · cases h

theorem offs_snoc_inv : ∀ (fs : List Nat) (f : Nat) (k k2 : K) (o : Nat), offs (fs ++ [f]) k = some (o, k2) → ∃ o1 k1 o2, offs fs k = some (o1, k1) ∧ k1.off1 f = some (o2, k2) ∧ o = o1 + o2
  | [], f, k, k2, o, h => by
    simp only [List.nil_append, offs] at h
    split at h
    · rename_i o' k' ho
      simp only [Option.some.injEq, Prod.mk.injEq] at h
      obtain ⟨rfl, rfl⟩ := h
      exact ⟨0, k, o', rfl, ho, by omega⟩
    · cases h
  | g :: fs, f, k, k2, o, h => by
    simp only [List.cons_append, offs] at h
    split at h
    · rename_i o' k' ho
      split at h
      · rename_i o2 k3 ho2
        simp only [Option.some.injEq, Prod.mk.injEq] at h
        obtain ⟨rfl, rfl⟩ := h
        obtain ⟨o1, k1, o3, h1, h2, rfl⟩ := offs_snoc_inv fs f k' k3 o2 ho2
        exact ⟨o' + o1, k1, o3, by simp only [offs, ho, h1], h2, by omega⟩
      · cases h
    · cases h

section
variable {P : Program} {hint : Nat → Hint} {glob : Nat → Option Comp} {E : Env} {n : Nat → Prop}

theorem fieldOf_some {t : TypeId} {f o : Nat} {i : Ty} (h : fieldOf (mkCx P hint glob) t f = some (o, i)) : ∃ fs fld info, P.underlying t = some (.struct fs) ∧ fs[f]? = some fld ∧ fld.offset = o ∧ P.info? fld.type = some info ∧ info.size ≠ 0 ∧ info.size = i.size := by
  unfold fieldOf at h
  split at h
  · rename_i l hl
    have hl : tdAt (mkCx P hint glob) t = some (.struct l) := hl
    obtain ⟨_, _, d, _, _, hu, hd, _⟩ := td_some hl
    obtain ⟨fs, rfl, rfl⟩ := td_inv.2.2.2.2.2.2.2.2 l hd
    split at h
    · rename_i o' ft hf
      rw [get?_eq, List.getElem?_map] at hf
      obtain ⟨fld, hfld, he⟩ := map_some hf
      simp only [Prod.mk.injEq] at he
      obtain ⟨rfl, rfl⟩ := he
      split at h
      · rename_i i' hi
        split at h
        · cases h
        · rename_i m hm
          simp only [Option.some.injEq, Prod.mk.injEq] at h
          obtain ⟨rfl, rfl⟩ := h
          obtain ⟨info, _, hinfo, _, _, hsz, _⟩ := ty_some hi
          exact ⟨fs, fld, info, hu, by simpa using hfld, rfl, hinfo, by omega, hsz.symm⟩
      · cases h
    · cases h
  · cases h

theorem fieldAt_run {s : TypeId} {fs : Array Field} {f : Nat} {fld : Field} {info : TypeInfo} (hu : P.underlying s = some (.struct fs)) (hf : fs[f]? = some fld) (hi : P.info? fld.type = some info) (h0 : info.size ≠ 0) (a : Addr) (w : World) :
    (Instr.fieldAt s (.pointer (some a)) f).run P w = .ok (.pointer (some (a.add fld.offset))) w := by
  simp [Instr.fieldAt, run_underlying hu, hf, Instr.sureAddr, fieldPlace, run_sizeOf_of hi, h0]

theorem fieldAddr_ok {t : TypeId} {x r : AV} {vx : Value} {f : Nat} (hg : Good E n) (hx : RelV E x vx) (hn : ∀ q ∈ x.ids, n q) (h : fieldAddr (mkCx P hint glob) E.H t x f = some r) :
    ∃ v, (Instr.fieldAt t vx f).run P E.w = .ok v E.w ∧ RelV E r v ∧ ∀ q ∈ r.ids, n q := by
  unfold fieldAddr at h
  split at h
  · cases h
  · rename_i o i hfo
    obtain ⟨fs, fld, info, hu, hfld, ho, hinfo, h0, _⟩ := fieldOf_some hfo
    have run := fieldAt_run hu hfld hinfo h0
    rw [ho] at run
    split at h
    · rename_i r' off
      injection h with h
      subst h
      obtain ⟨g, rfl, hgx⟩ := hx
      refine ⟨_, run _ E.w, ?_, by simpa [AV.ids] using hn⟩
      rw [add_mk]
      exact ⟨g, rfl, hgx⟩
    · rename_i k d
      split at h
      · rename_i c o' k' hc ho'
        split at h
        · rename_i he
          have he := eq_of_beq he
          subst he
          injection h with h
          subst h
          obtain ⟨a, cs, rfl, hS, hrep, hcell⟩ := hx
          obtain ⟨e, hr⟩ := RepC.comp1 k d cs f c o k' hrep hc ho'
          have hle := off1_le k f o k' ho'
          rw [e] at hle
          refine ⟨_, run _ E.w, ⟨_, _, rfl, by rw [add_block]; exact hS, hr, fun j hj => ?_⟩, by simp [AV.ids]⟩
          rw [add_add, hcell (o + j) (by omega), List.getElem?_take, if_pos hj, List.getElem?_drop]
        · cases h
      · cases h
    · rename_i r' ver p ix fs'
      split at h
      · rename_i k hk
        split at h
        · rename_i o1 k' ho1
          split at h
          · rename_i o' k2 ho'
            split at h
            · rename_i he
              have he := eq_of_beq he
              subst he
              injection h with h
              subst h
              obtain ⟨hi0, ⟨a, rfl⟩, h2⟩ := hx
              refine ⟨_, run _ E.w, ?_, by simpa [AV.ids] using hn⟩
              unfold rowKind at hk
              split at hk
              · rename_i fl k0 xs ver' hole hH
                obtain ⟨A0, c0, els0, hG, _⟩ := hg.arr r' fl k0 xs ver' hole hH
                rw [hH, hG] at h2
                refine ⟨hi0, ⟨_, rfl⟩, ?_⟩
                rw [hH, hG]
                refine ⟨h2.1, fun hp q R o2 k1 k3 hq hR hk1 ho2 => ?_⟩
                rw [hk] at hk1
                injection hk1 with hk1
                subst hk1
                obtain ⟨oa, ka, ob, e1, e2, rfl⟩ := offs_snoc_inv fs' f k k3 o2 ho2
                rw [ho1] at e1
                injection e1 with e1
                injection e1 with e1 e1'
                subst e1 e1'
                rw [ho'] at e2
                injection e2 with e2
                injection e2 with e2 e2'
                subst e2 e2'
                obtain ⟨hlt, ad, hA, hv⟩ := h2.2 hp q R o1 k k' hq hR hk ho1
                refine ⟨hlt, ad, hA, ?_⟩
                injection hv with hv
                injection hv with hv
                rw [hv, add_add, Nat.add_assoc]
              · cases hk
            · cases h
          · cases h
        · cases h
      · cases h
    · cases h

theorem field_ok {t : TypeId} {x r : AV} {vx : Value} {f : Nat} (hx : RelV E x vx) (hn : ∀ q ∈ x.ids, n q) (h : field (mkCx P hint glob) t x f = some r) :
    ∃ v, (Instr.field t vx f).run P E.w = .ok v E.w ∧ RelV E r v ∧ ∀ q ∈ r.ids, n q := by
  unfold field at h
  split at h
  · rename_i k d
    split at h
    · rename_i hk
      have hk : kindAt (mkCx P hint glob) t = some k := eq_of_beq hk
      have hk := kindAt_some hk
      split at h
      · rename_i c hc
        injection h with h
        subst h
        obtain ⟨o, ho⟩ := comp1_off1 k d f c hc
        cases k with
        | pair a b =>
          obtain ⟨fs, hu, hks⟩ := kind_pair hk
          obtain ⟨fld, hfld, hoff, hft⟩ := kindsOf_comp fs.toList 0 _ f o c.k hks ho
          obtain ⟨info, dsc, hinfo, hud, hsz, hagg⟩ := kindOf_size hft
          obtain ⟨hrep, h2, _⟩ := relV_data.1 hx
          obtain ⟨cs, rfl⟩ := h2 rfl
          obtain ⟨_, hr⟩ := RepC.comp1 (.pair a b) d cs.toList f c o c.k hrep hc ho
          obtain ⟨h3, h4⟩ := relV_valOf hagg hr
          refine ⟨_, ?_, h3, by simp [AV.ids]⟩
          have hfld' : fs[f]? = some fld := by simpa using hfld
          have hoff' : fld.offset = o := by omega
          simp only [Instr.field, Sem.run_bind, run_underlying hu, Result.andThen_ok, hfld', asAgg, Sem.run_pure, hoff']
          exact part_run hinfo hud (by rw [hsz]) h4 E.w
        | _ => cases ho
      · cases h
    · cases h
  · rename_i l
    split at h
    · rename_i fl hfl
      have hfl : tdAt (mkCx P hint glob) t = some (.struct fl) := hfl
      obtain ⟨_, _, d, _, _, hu, hd, _⟩ := td_some hfl
      obtain ⟨fs, rfl, rfl⟩ := td_inv.2.2.2.2.2.2.2.2 fl hd
      split at h
      · rename_i o ft hf
        rw [get?_eq, List.getElem?_map] at hf
        obtain ⟨fld, hfld, he⟩ := map_some hf
        simp only [Prod.mk.injEq] at he
        obtain ⟨rfl, rfl⟩ := he
        split at h
        · rename_i i hi
          obtain ⟨info, d, h1, h2, h3, h4, h5, h6⟩ := ty_some hi
          obtain ⟨vs, rfl, hl⟩ := hx
          have hl := RelAll.iff.1 hl
          have hl' := All2.take i.size (All2.drop fld.offset hl)
          obtain ⟨a1, a2, a3⟩ := assemble_ok hi h2 hl' h
          refine ⟨_, ?_, a2, fun q hq => ?_⟩
          · have hfld' : fs[f]? = some fld := by simpa using hfld
            simp only [Instr.field, Sem.run_bind, run_underlying hu, Result.andThen_ok, hfld', asAgg, Sem.run_pure]
            exact part_run h1 h2 (by rw [h4]) a1 E.w
          · obtain ⟨c, hc, hq'⟩ := idsAll_mem (a3 q hq)
            exact hn q (idsAll_of_mem (List.mem_of_mem_drop (List.mem_of_mem_take hc)) q hq')
        · cases h
      · cases h
    · cases h
  · cases h

theorem index_str_run {t : TypeId} (hu : P.underlying t = some .string) (s : ByteArray) {kk : IntKind} {ix : Int} (h0 : 0 ≤ ix) (h1 : ix < (s.size : Nat)) (w : World) :
    (Instr.index t (.string s) (.int kk ix)).run P w = .ok (.int .u8 ((s.data.toList.getD ix.toNat 0).toNat : Nat)) w := by
  have hlt : ix.toNat < s.size := by omega
  simp only [Instr.index, asIntOf, Sem.run_bind, Sem.run_pure, Result.andThen_ok, run_underlying hu, h0, if_true]
  rw [getElem?_pos s ix.toNat hlt]
  have h1 : s.data.toList.getD ix.toNat 0 = s.data.toList[ix.toNat]'(by simpa using hlt) := getD_of _ _ _ _
  rw [h1]
  rfl
theorem index_ok {t : TypeId} {x i r : AV} {vx vi : Value} (hx : RelV E x vx) (hi : RelV E i vi) (h : index (mkCx P hint glob) t x i = some r) :
    ∃ v, (Instr.index t vx vi).run P E.w = .ok v E.w ∧ RelV E r v ∧ r.ids = [] := by
  unfold index at h
  split at h
  · rename_i s ix hix
    obtain ⟨kk, rfl⟩ := asInt_rel hix hi
    obtain ⟨hc, h⟩ := chk_some h
    simp only [Bool.and_eq_true, decide_eq_true_eq] at hc
    injection h with h
    subst h
    have hx := relV_str.1 hx
    subst hx
    obtain ⟨_, _, d, _, _, hu, hd, _⟩ := td_some (eq_of_beq hc.1.1)
    have hd := td_inv.2.2.1 hd
    subst hd
    exact ⟨_, index_str_run hu s hc.1.2 hc.2 E.w, relV_intV.2 rfl, rfl⟩
  · rename_i m k d ix hix
    obtain ⟨kk, rfl⟩ := asInt_rel hix hi
    obtain ⟨hc, h⟩ := chk_some h
    simp only [Bool.and_eq_true, decide_eq_true_eq] at hc
    injection h with h
    subst h
    obtain ⟨e, hu, he⟩ := kind_array (kindAt_some (eq_of_beq hc.1.1))
    obtain ⟨info, dsc, hinfo, hud, hsz, hagg⟩ := kindOf_size he
    obtain ⟨hrep, h2, _⟩ := relV_data.1 hx
    obtain ⟨cs, rfl⟩ := h2 rfl
    obtain ⟨hlen, vss, hcs, hall⟩ := hrep
    replace hcs : cs.toList = vss.flatten := hcs
    have hil : ix.toNat < List.length (α := k.D) d := by have := hc.2; have := hc.1.2; omega
    obtain ⟨vs, hvs, hrep⟩ := hall.get ix.toNat _ (List.getElem?_eq_getElem hil)
    obtain ⟨h3, h4⟩ := relV_valOf hagg hrep
    refine ⟨valOf dsc vs, ?_, Eq.mpr (congrArg (fun z => RelV E (.data k z) (valOf dsc vs)) (getD_of (α := k.D) d ix.toNat hil k.zero)) h3, rfl⟩
    simp only [Instr.index, asIntOf, Sem.run_bind, Sem.run_pure, Result.andThen_ok, run_underlying hu, hc.1.2, hc.2, and_self, if_true, run_sizeOf_of hinfo]
    refine part_run hinfo hud ?_ h4 E.w
    rw [hcs, hsz]
    have hvl := hrep.length k _ _
    apply List.ext_getElem?
    intro j
    rw [List.getElem?_take]
    by_cases hj : j < k.sz
    · rw [if_pos hj, List.getElem?_drop, flatten_get d vss ix.toNat j hall hj, hvs, Option.bind_some]
    · rw [if_neg hj, List.getElem?_eq_none (by omega)]
  · cases h
end
end Go.Lite
end

section
/-
  LITE 15: cuts, lengths, conversions, least and greatest.
-/
set_option linter.unusedVariables false
set_option linter.unusedSimpArgs false
namespace Go.Lite
open Go Go.RowKit

def OptRel (E : Env) : Option AV → Option Value → Prop
  | none, none => True
  | some a, some v => RelV E a v
  | _, _ => False

section
variable {P : Program} {hint : Nat → Hint} {glob : Nat → Option Comp} {E : Env} {n : Nat → Prop}

theorem len_cut {α : Type} (d : List α) (l n : Nat) (h : l + n ≤ d.length) : ((d.drop l).take n).length = n := by rw [List.length_take, List.length_drop]; omega
theorem elemKind_some {t e : TypeId} {i : Ty} {k : K} (h : elemKind (mkCx P hint glob) t = some (e, i, k)) : ∃ info, P.underlying t = some (.slice e) ∧ P.info? e = some info ∧ KindIs P 11 e k ∧ i.size = info.size ∧ i.bytes = info.bytes ∧ info.size = k.sz := by
  unfold elemKind at h
  split at h
  · rename_i e' _ _ _ he
    have htd : tdAt (mkCx P hint glob) t = some (.slice e') := by unfold tdAt; rw [he]; rfl
    obtain ⟨_, _, d, _, _, hu, hd, _⟩ := td_some htd
    have hd := td_inv.1 e' hd
    subst hd
    split at h
    · rename_i i' hi
      split at h
      · rename_i k' hk
        simp only [Option.some.injEq, Prod.mk.injEq] at h
        obtain ⟨rfl, rfl, rfl⟩ := h
        obtain ⟨info, d, h1, h2, h3, h4, h5, h6⟩ := ty_some hi
        have hk : KindIs P 11 e' k' := kind_some (h6 ▸ hk)
        obtain ⟨info', _, h7, _, h8, _⟩ := hk.size
        rw [h1] at h7
        injection h7 with h7
        subst h7
        exact ⟨info, hu, h1, hk, h4, h5, h8⟩
      · cases h
    · cases h
  · cases h
theorem bounds_run {lo hi : Option AV} {vlo vhi : Option Value} (hlo : OptRel E lo vlo) (hhi : OptRel E hi vhi) {l h len : Int} {nlen cap : Nat} {b : Bool} (hl : lowOf lo = some l) (hh : highOf len hi = some h) (hlen : len = nlen) (h0 : 0 ≤ l) (h1 : l ≤ h) (h2 : h ≤ len) (h3 : nlen ≤ cap) (w : World) :
    (Instr.sliceBounds b nlen cap vlo vhi none).run P w = .ok (l.toNat, h.toNat, cap) w := by
  have hb : ∀ (k : IntKind) (i : Int) (y : Nat) (code : BoundsCode), 0 ≤ i → i ≤ y → (Instr.sliceBound (.int k i) y code).run P w = .ok i.toNat w := fun k i y code => run_sliceBound w k i y code
  unfold Instr.sliceBounds
  have low : ∀ (y : Nat), h.toNat = y → (match vlo with | some v => Instr.sliceBound v y .sliceB | none => (pure 0 : Sem Nat)).run P w = .ok l.toNat w := by
    intro y hy
    cases lo with
    | none =>
      cases vlo with
      | none => simp only [lowOf, Option.some.injEq] at hl; subst hl; rfl
      | some v => exact hlo.elim
    | some a =>
      cases vlo with
      | none => exact hlo.elim
      | some v =>
        obtain ⟨kk, rfl⟩ := asInt_rel hl hlo
        exact hb kk l y _ h0 (by omega)
  cases hi with
  | none =>
    cases vhi with
    | some v => exact hhi.elim
    | none =>
      simp only [highOf, Option.some.injEq] at hh
      subst hh
      simp only [Sem.run_bind, Sem.run_pure, Result.andThen_ok]
      have := low nlen (by omega)
      cases vlo with
      | none => simp only [Sem.run_pure, Result.ok.injEq, and_true] at this; simp [← this, hlen]
      | some v => simp only at this; simp [this, hlen]
  | some a =>
    cases vhi with
    | none => exact hhi.elim
    | some v =>
      obtain ⟨kk, rfl⟩ := asInt_rel hh hhi
      have hb2 := fun code => hb kk h cap code (by omega) (by omega)
      simp only [Sem.run_bind, Sem.run_pure, Result.andThen_ok]
      have := low h.toNat rfl
      cases b <;> simp only [hb2, Result.andThen_ok, if_true, Bool.false_eq_true, if_false] <;> (cases vlo with
        | none => simp only [Sem.run_pure, Result.ok.injEq, and_true] at this; simp [← this]
        | some v => simp only at this; simp [this])

theorem bounds_run3 {lo : Option AV} {ha ma : AV} {vlo : Option Value} {vh vm : Value} (hlo : OptRel E lo vlo) (hhi : RelV E ha vh) (hmx : RelV E ma vm) {l h : Int} {nlen cap : Nat} (hl : lowOf lo = some l) (hh : asInt ha = some h) (hm : asInt ma = some h) (h0 : 0 ≤ l) (h1 : l ≤ h) (h2 : h ≤ cap) (w : World) :
    (Instr.sliceBounds true nlen cap vlo (some vh) (some vm)).run P w = .ok (l.toNat, h.toNat, h.toNat) w := by
  obtain ⟨kh, rfl⟩ := asInt_rel hh hhi
  obtain ⟨km, rfl⟩ := asInt_rel hm hmx
  have hb : ∀ (k : IntKind) (i : Int) (y : Nat) (code : BoundsCode), 0 ≤ i → i ≤ y → (Instr.sliceBound (.int k i) y code).run P w = .ok i.toNat w := fun k i y code => run_sliceBound w k i y code
  have hb2 := fun code => hb km h cap code (by omega) h2
  have hb3 := fun code => hb kh h h.toNat code (by omega) (by omega)
  unfold Instr.sliceBounds
  cases lo with
  | none =>
    cases vlo with
    | some v => exact hlo.elim
    | none =>
      simp only [lowOf, Option.some.injEq] at hl
      subst hl
      simp [hb2, hb3]
  | some a =>
    cases vlo with
    | none => exact hlo.elim
    | some v =>
      obtain ⟨kk, rfl⟩ := asInt_rel hl hlo
      have hb4 := fun code => hb kk l h.toNat code h0 (by omega)
      simp [hb2, hb3, hb4]

theorem slice_run {t e : TypeId} {info : TypeInfo} (hu : P.underlying t = some (.slice e)) (hi : P.info? e = some info) {A : Option Addr} {len cap : Nat} {vlo vhi vmx : Option Value} {l h m : Nat} {w : World}
    (hb : (Instr.sliceBounds true len cap vlo vhi vmx).run P w = .ok (l, h, m) w) : (Instr.sliceAt t (.slice A len cap) vlo vhi vmx).run P w = .ok (sliced A l h m info.size) w := by
  have he : P.elem t = e := by simp [Program.elem, hu]
  rw [run_sliceAt_slice w t _ _ _ _ (by rw [hu, he]), run_slice_any w t A len cap (by rw [hu, he]), hb, Result.andThen_ok, he, run_sizeOf_of hi, Result.andThen_ok]

theorem within_iff {lo hi n : Int} : within lo hi n = true ↔ 0 ≤ lo ∧ lo ≤ hi ∧ hi ≤ n := by
  simp [within, and_assoc]

theorem sliced_some {A : Option Addr} {l h m s : Nat} (hne : l < m) : sliced A l h m s = .slice (A.map (·.add (l * s))) (h - l) (m - l) := by
  unfold sliced
  rw [if_neg (by omega)]

theorem sliced_hdr {A0 A : Option Addr} {c0 c n sz l h : Nat} {off len : Int} (h0 : 0 ≤ off) (hd : Hdr sz A0 c0 n off len (.slice A len.toNat c)) (h1 : l ≤ h) (h2 : (h : Int) ≤ len) :
    Hdr sz A0 c0 n (off + l) (h - l : Int) (sliced A l h c sz) := by
  obtain ⟨hle, A', c', hv, hc', ha⟩ := hd
  injection hv with e1 e2 e3
  subst e1 e3
  refine ⟨by omega, _, c - l, by unfold sliced; rw [show (h - l : Int).toNat = h - l by omega], by omega, ?_⟩
  by_cases hcl : c ≤ l
  · exact .inl (by omega)
  · rcases ha with ha | ⟨a, hA, rfl⟩
    · omega
    · refine .inr ⟨a, hA, ?_⟩
      rw [if_neg (by omega), Option.map_some, add_add, ← Nat.add_mul, show off.toNat + l = (off + l).toNat by omega]

theorem sliced_row {S : Nat → Prop} {k : K} {A : Option Addr} {d : List k.D} {l h c m : Nat} (hr : RowAt E.w S k.sz (RepC S E.w k) A d) (h1 : l ≤ h) (h2 : h ≤ d.length) (h3 : h ≤ m) :
    ∃ A', sliced A l h m k.sz = .slice A' ((d.drop l).take (h - l)).length (m - l) ∧ RowAt E.w S k.sz (RepC S E.w k) A' ((d.drop l).take (h - l)) := by
  have hlen : ((d.drop l).take (h - l)).length = h - l := by rw [List.length_take, List.length_drop]; omega
  refine ⟨_, by unfold sliced; rw [hlen], hr.cut (fun hne a hA => ?_)⟩
  have : 0 < h - l := by rw [← hlen]; exact List.length_pos_iff.2 hne
  rw [if_neg (by omega), hA, Option.map_some]

theorem extract_nat {s : ByteArray} {l h : Int} : s.extract l.toNat h.toNat = s.extract l.toNat h.toNat := rfl

theorem cut_ok {t : TypeId} {x r : AV} {lo hi mx : Option AV} {vx : Value} {vlo vhi vmx : Option Value} (hg : Good E n) (hx : RelV E x vx) (hlo : OptRel E lo vlo) (hhi : OptRel E hi vhi) (hmx : OptRel E mx vmx) (hn : ∀ q ∈ x.ids, n q)
    (h : cut (mkCx P hint glob) E.H t x lo hi mx = some r) : ∃ v, (Instr.sliceAt t vx vlo vhi vmx).run P E.w = .ok v E.w ∧ RelV E r v ∧ ∀ q ∈ r.ids, n q := by
  have none_of : ∀ {v : Option Value}, OptRel E none v → v = none := by intro v hv; cases v with | none => rfl | some _ => exact hv.elim
  unfold cut at h
  split at h
  · rename_i s
    split at h
    · rename_i l hh hl hhh
      obtain ⟨hc, h⟩ := chk_some h
      simp only [Bool.and_eq_true, within_iff] at hc
      injection h with h
      subst h
      have hx := relV_str.1 hx
      subst hx
      obtain rfl := none_of hmx
      obtain ⟨_, _, d, _, _, hu, hd, _⟩ := td_some (eq_of_beq hc.2)
      have hd := td_inv.2.2.1 hd
      subst hd
      refine ⟨_, ?_, relV_str.2 rfl, by simp [AV.ids]⟩
      have hb := bounds_run (P := P) (b := false) hlo hhi hl hhh rfl hc.1.1 hc.1.2.1 hc.1.2.2 (Nat.le_refl _) E.w
      rw [run_sliceAt_string E.w t _ _ _ _ hu]
      simp only [Instr.slice, Sem.run_bind, run_underlying hu, Result.andThen_ok, Option.isSome_none, Bool.false_eq_true, if_false]
      erw [hb]
      rfl
    · cases h
  · rename_i u
    split at h
    · rename_i l hh hl hhh
      obtain ⟨hc, h⟩ := chk_some h
      simp only [Bool.and_eq_true, beq_iff_eq] at hc
      injection h with h
      subst h
      obtain ⟨⟨rfl, rfl⟩, hs⟩ := hc
      obtain rfl : vx = .slice none 0 0 := hx
      obtain rfl := none_of hmx
      obtain ⟨⟨e, i, k⟩, hek⟩ := Option.isSome_iff_exists.1 hs
      obtain ⟨info, hu, hinfo, _⟩ := elemKind_some hek
      have hb := bounds_run (P := P) (b := true) (nlen := 0) (cap := 0) hlo hhi hl hhh rfl (Int.le_refl _) (Int.le_refl _) (Int.le_refl _) (Nat.le_refl _) E.w
      refine ⟨_, slice_run hu hinfo hb, ?_, by simp [AV.ids]⟩
      simp [sliced, RelV]
    · cases h
  · rename_i k d
    split at h
    · rename_i l hh hl hhh
      obtain ⟨hc, h⟩ := chk_some h
      simp only [Bool.and_eq_true, within_iff] at hc
      injection h with h
      subst h
      obtain ⟨⟨c1, c2, c3⟩, hk⟩ := hc
      obtain rfl := none_of hmx
      obtain ⟨e, hu, he⟩ := kind_slice (kindAt_some (eq_of_beq hk))
      obtain ⟨info, _, hinfo, _, hsz, _⟩ := kindOf_size he
      simp only [RelV, K.isAgg] at hx
      obtain ⟨A, c, hx, hcap, hr⟩ := hx
      injection hx with hx _
      subst hx
      have hb := bounds_run (P := P) (b := true) hlo hhi hl hhh rfl c1 c2 c3 hcap E.w
      refine ⟨_, slice_run hu hinfo hb, ?_, by simp [AV.ids]⟩
      rw [hsz]
      obtain ⟨A', e1, e2⟩ := sliced_row (l := l.toNat) (h := hh.toNat) (m := c) (c := c) hr (by omega) (by omega) (by omega)
      simp only [RelV, K.isAgg]
      rw [show hh.toNat - l.toNat = (hh - l).toNat by omega] at e1 e2
      exact ⟨A', c - l.toNat, by rw [e1], Nat.le_trans (List.length_take_le _ _) (by omega), e2⟩
    · rename_i l hh m hl hhh
      split at h
      · rename_i ha m' hm
        obtain ⟨hc, h⟩ := chk_some h
        simp only [Bool.and_eq_true, within_iff, beq_iff_eq] at hc
        injection h with h
        subst h
        obtain ⟨⟨⟨c1, c2, c3⟩, rfl⟩, hk⟩ := hc
        cases vmx with
        | none => exact hmx.elim
        | some vm =>
          cases vhi with
          | none => exact hhi.elim
          | some vh =>
            obtain ⟨e, hu, he⟩ := kind_slice (kindAt_some (by simpa using hk))
            obtain ⟨info, _, hinfo, _, hsz, _⟩ := kindOf_size he
            simp only [RelV, K.isAgg] at hx
            obtain ⟨A, c, hx, hcap, hr⟩ := hx
            injection hx with hx _
            subst hx
            have hb := bounds_run3 (P := P) (nlen := List.length (α := k.D) d) (cap := c) hlo hhi hmx hl hhh hm c1 c2 (by omega) E.w
            refine ⟨_, slice_run hu hinfo hb, ?_, by simp [AV.ids]⟩
            rw [hsz]
            obtain ⟨A', e1, e2⟩ := sliced_row (l := l.toNat) (h := m'.toNat) (m := m'.toNat) (c := c) hr (by omega) (by omega) (by omega)
            rw [show m'.toNat - l.toNat = (m' - l).toNat by omega] at e1 e2
            refine ⟨A', ?_, e2⟩
            rw [e1]
            congr 1
            rw [len_cut (α := k.D) d _ _ (by omega)]
      · cases h
    · cases h
  · rename_i r' ver p off len
    split at h
    · rename_i l hh V hl hhh hV
      obtain ⟨hc, h⟩ := chk_some h
      simp only [Bool.and_eq_true, within_iff] at hc
      injection h with h
      subst h
      obtain ⟨⟨c1, c2, c3⟩, hk⟩ := hc
      obtain rfl := none_of hmx
      obtain ⟨e, hu, he⟩ := kind_slice (kindAt_some (eq_of_beq hk))
      obtain ⟨info, _, hinfo, _, hsz, _⟩ := kindOf_size he
      obtain ⟨h0, h1, ⟨A1, cc, rfl, hle1, hA1⟩, h2⟩ := hx
      have hb := bounds_run (P := P) (b := true) (nlen := len.toNat) (cap := cc) hlo hhi hl hhh (by omega) c1 c2 c3 hle1 E.w
      refine ⟨_, slice_run hu hinfo hb, ?_, by simpa [AV.ids] using hn⟩
      rw [hsz]
      refine ⟨by omega, by omega, ⟨_, _, by unfold sliced; rw [show (hh - l).toNat = hh.toNat - l.toNat by omega], by omega, ?_⟩, ?_⟩
      · by_cases hcl : cc ≤ l.toNat
        · exact .inl (by omega)
        · refine .inr ?_
          rw [if_neg (by omega)]
          rcases hA1 with hA1 | hA1
          · omega
          · simpa using hA1
      · rcases (view_is hg hV).out with ⟨fl, k, xs, ver', A0, c0, els0, hH, hG, hp, hok, ha, hf, hrow, _⟩ | ⟨k, xs, A, c', hH, hG, rfl, rfl, hc', hr⟩
        · rw [hH, hG] at h2 ⊢
          refine ⟨h2.1, fun hp' q R hq hR => ?_⟩
          obtain ⟨e1, _⟩ := nav p fl V.fl k xs A0 c0 els0 q R V.row ha hok.1 hok.2 hq hR hf hrow
          have := sliced_hdr (l := l.toNat) (h := hh.toNat) h0 (h2.2 hp' q R hq hR) (by omega) (by omega)
          rw [e1] at this ⊢
          rw [show ((hh.toNat : Int) - (l.toNat : Int)) = hh - l by omega, show off + (l.toNat : Int) = off + l by omega] at this
          exact this
        · rw [hH, hG] at h2 ⊢
          intro _
          have := sliced_hdr (l := l.toNat) (h := hh.toNat) h0 (h2 rfl) (by omega) (by omega)
          rw [show ((hh.toNat : Int) - (l.toNat : Int)) = hh - l by omega, show off + (l.toNat : Int) = off + l by omega] at this
          exact this
    · cases h
  · cases h
end
end Go.Lite
end

section
/-
  LITE 16: lengths, conversions, least and greatest, literals.
-/
set_option linter.unusedVariables false
set_option linter.unusedSimpArgs false
namespace Go.Lite
open Go Go.RowKit

section
variable {P : Program} {hint : Nat → Hint} {glob : Nat → Option Comp} {E : Env} {n : Nat → Prop}

theorem tdAt_under {t : TypeId} {x : TD} (h : tdAt (mkCx P hint glob) t = some x) : ∃ d, P.underlying t = some d ∧ tdOf d = x := by
  obtain ⟨_, _, d, _, _, hu, hd, _⟩ := td_some h
  exact ⟨d, hu, hd⟩

theorem Good.map (hg : Good E n) {r : Nat} {kk kv : K} {es : List (kk.D × kv.D)} (h : E.H r = some (.mp kk kv es)) : ∃ g ents clock, E.G r = some (.mp g) ∧ keyKind kk = true ∧ kv.flatRows = true ∧ E.w.heap[g]? = some (.map ents clock) ∧ All2 (RelEntry E kk kv) es ents.toList := by
  obtain ⟨gr, hG, hr⟩ := hg.roots r _ h
  cases gr with
  | mp g => obtain ⟨h1, h2, ents, clock, h3, h4⟩ := hr; exact ⟨g, ents, clock, hG, h1, h2, h3, h4⟩
  | _ => exact hr.elim
theorem run_getObj {g : Nat} {o : Obj} {w : World} (h : w.heap[g]? = some o) (hc : ∀ c e f, o ≠ .cells c e f) : (getObj g).run P w = .ok o w := by
  cases o <;> first | exact absurd rfl (hc _ _ _) | simp [getObj, Sem.run, h]

theorem lenOf_ok {t ty : TypeId} {ats : Array TypeId} {x : AV} {vx : Value} {m : Int} (hg : Good E n) (hx : RelV E x vx) (ha : ats[0]? = some t) (h : lenOf (mkCx P hint glob) E.H t x = some m) :
    (Builtin.len_ ats ty #[vx]).run P E.w = .ok (.int .i64 m) E.w := by
  have sl : ∀ (A : Option Addr) (k c : Nat), isSliceT (mkCx P hint glob) t = true → (Builtin.len_ ats ty #[.slice A k c]).run P E.w = .ok (.int .i64 k) E.w := by
    intro A k c hs
    obtain ⟨e, hu⟩ := isSliceT_some hs
    simp [Builtin.len_, ha, run_underlying hu, goInt]
  unfold lenOf at h
  split at h
  · obtain ⟨hc, h⟩ := chk_some h
    injection h with h
    subst h
    have hx := relV_str.1 hx
    subst hx
    obtain ⟨d, hu, hd⟩ := tdAt_under (eq_of_beq hc)
    have hd := td_inv.2.2.1 hd
    subst hd
    simp [Builtin.len_, ha, run_underlying hu, goInt]
  · obtain ⟨hc, h⟩ := chk_some h
    injection h with h
    subst h
    simp only [RelV, K.isAgg] at hx
    obtain ⟨A, c, hx, hcap, hr⟩ := hx
    injection hx with hx _
    subst hx
    exact sl _ _ _ hc
  · obtain ⟨hc, h⟩ := chk_some h
    injection h with h
    subst h
    obtain ⟨A, rfl, hr⟩ := hx
    exact sl _ _ _ hc
  · obtain ⟨hc, h⟩ := chk_some h
    injection h with h
    subst h
    obtain rfl : vx = .slice none 0 0 := hx
    exact sl _ _ _ hc
  · obtain ⟨hc, h⟩ := chk_some h
    injection h with h
    subst h
    obtain rfl : vx = .map none := hx
    obtain ⟨a, b, hu⟩ := isMapT_some hc
    simp [Builtin.len_, ha, run_underlying hu, goInt]
  · obtain ⟨hc, h⟩ := chk_some h
    injection h with h
    subst h
    rename_i nn
    obtain ⟨h0, h1, ⟨A, c, rfl, _⟩, _⟩ := hx
    have := sl A nn.toNat c hc
    rwa [Int.toNat_of_nonneg h1] at this
  · rename_i r
    split at h
    · rename_i kk kv es hH
      obtain ⟨hc, h⟩ := chk_some h
      injection h with h
      subst h
      obtain ⟨a, b, hu⟩ := isMapT_some hc
      obtain ⟨g, ents, clock, hG, _, _, hh, hl⟩ := hg.map hH
      obtain ⟨g', rfl, hg'⟩ := hx
      rw [hg' _ _ _ hH] at hG
      injection hG with hG
      injection hG with hG
      subst hG
      have hl := hl.length
      simp [Builtin.len_, ha, run_underlying hu, goInt, run_getObj hh (by simp), hl]
    · cases h
  · cases h

theorem strOf_eq (l : List Int) : ∀ (s : ByteArray), (l.foldl (fun r n => r.push (UInt8.ofNat n.toNat)) s).data.toList = s.data.toList ++ l.map fun n => UInt8.ofNat n.toNat := by
  induction l with
  | nil => intro s; simp
  | cons a l ih =>
    intro s
    rw [List.foldl_cons, ih]
    simp [ByteArray.push]
theorem strOf_fold (l : List Int) : l.foldl (fun r n => r.push (UInt8.ofNat n.toNat)) ByteArray.empty = strOf l := by
  have h := strOf_eq l ByteArray.empty
  cases hx : l.foldl (fun r n => r.push (UInt8.ofNat n.toNat)) ByteArray.empty with
  | mk d =>
    rw [hx] at h
    unfold strOf
    congr 1
    apply Array.ext'
    have h2 : d.toList = l.map fun n => UInt8.ofNat n.toNat := by
      rw [show d.toList = (ByteArray.mk d).data.toList from rfl, h]; rfl
    rw [h2]
theorem bytes_run {S : Nat → Prop} {src dst e : TypeId} (hus : P.underlying src = some (.slice e)) (hue : P.underlying e = some (.int .u8)) (hud : P.underlying dst = some .string) {A : Option Addr} {c : Nat} (l : List Int) {w : World}
    (hr : RowAt w S 1 (fun (x : Int) vs => vs = [.int .u8 x]) A l) : (Go.convert src dst (.slice A l.length c)).run P w = .ok (.string (strOf l)) w := by
  rw [run_convert_bytes_string w src dst e A _ c hus hue hud]
  rcases hr with rfl | ⟨a, rfl, _, hcell⟩
  · cases A with
    | none => rfl
    | some a =>
      rw [run_bytesToString w a _ c [] rfl]
      rfl
  · have : (loadCells a l.length).run P w = .ok (l.map (Value.int .u8)).toArray w := by
      have := run_loadCells_list (P := P) w a (l.map (Value.int .u8)) (fun j v hj => by
        rw [List.getElem?_map] at hj
        obtain ⟨m, hm, rfl⟩ := map_some hj
        obtain ⟨vs, hl, rfl, hv⟩ := hcell j m hm
        have := hv 0 (by omega)
        simpa using this)
      simpa using this
    rw [run_bytesToString w a _ c l this, strOf_fold]

theorem convert_ok {src dst : TypeId} {x r : AV} {vx : Value} (hg : Good E n) (hx : RelV E x vx) (h : convert (mkCx P hint glob) E.H src dst x = some r) :
    ∃ v, (Go.convert src dst vx).run P E.w = .ok v E.w ∧ RelV E r v ∧ r.ids = [] := by
  unfold convert at h
  split at h
  · rename_i k0 k hs hd
    obtain ⟨ds, hus, hds⟩ := tdAt_under hs
    obtain ⟨dd, hud, hdd⟩ := tdAt_under hd
    have hds := td_inv.2.1 _ hds
    have hdd := td_inv.2.1 _ hdd
    subst hds hdd
    split at h
    · rename_i kx m
      injection h with h
      subst h
      have hx := relV_int.1 hx
      subst hx
      refine ⟨_, ?_, relV_intV.2 rfl, rfl⟩
      simp [Go.convert, run_underlying hus, run_underlying hud, Conv.intToInt]
    · cases h
  · rename_i hs hd
    obtain ⟨ds, hus, hds⟩ := tdAt_under hs
    obtain ⟨dd, hud, hdd⟩ := tdAt_under hd
    have hds := td_inv.2.2.1 hds
    have hdd := td_inv.2.2.1 hdd
    subst hds hdd
    split at h
    · rename_i s
      injection h with h
      subst h
      have hx := relV_str.1 hx
      subst hx
      refine ⟨_, ?_, relV_str.2 rfl, rfl⟩
      simp [Go.convert, run_underlying hus, run_underlying hud]
    · cases h
  · rename_i e hs hd
    obtain ⟨ds, hus, hds⟩ := tdAt_under hs
    obtain ⟨dd, hud, hdd⟩ := tdAt_under hd
    have hds := td_inv.1 _ hds
    have hdd := td_inv.2.2.1 hdd
    subst hds hdd
    split at h
    · rename_i l hc he
      injection h with h
      subst h
      have hue := kind_int (kindAt_some (eq_of_beq he))
      obtain ⟨A, c, rfl, hcap, hr⟩ := content_ok (S' := fun _ => True) hg (SubH.refl _) (fun _ _ => trivial) (fun _ _ _ _ _ _ _ _ _ _ _ => trivial) hx hc
      exact ⟨_, bytes_run hus hue hud l hr, relV_str.2 rfl, rfl⟩
    · cases h
  · cases h

theorem minmax_ok {mx : Bool} : ∀ (l : List AV) (x r : AV) (vx : Value) (vs : List Value), RelV E x vx → All2 (RelV E) l vs → minmax mx x l = some r → x.ids = [] →
    ∃ v, (vs.foldlM (match mx with | true => Builtin.max2 | false => Builtin.min2) vx).run P E.w = .ok v E.w ∧ RelV E r v ∧ r.ids = []
  | [], x, r, vx, vs, hx, hl, h, hi => by
    have h : some x = some r := by cases x <;> exact h
    injection h with h
    subst h
    cases vs with
    | nil => exact ⟨vx, rfl, hx, hi⟩
    | cons _ _ => exact hl.elim
  | y :: l, x, r, vx, vs, hx, hl, h, hi => by
    cases vs with
    | nil => exact hl.elim
    | cons vy vs =>
      unfold minmax at h
      split at h
      · rename_i heq; cases heq
      · rename_i k a k' b l' heq
        injection heq with e1 e2
        subst e1 e2
        have hx := relV_int.1 hx
        have hy := relV_int.1 hl.1
        subst hx hy
        obtain ⟨v, h1, h2⟩ := minmax_ok l _ r _ vs (relV_intV.2 rfl) hl.2 h rfl
        refine ⟨v, ?_, h2⟩
        rw [List.foldlM_cons, Sem.run_bind]
        cases mx with
        | true => exact h1
        | false => exact h1
      · cases h
end
end Go.Lite
end

section
/-
  LITE 17: a step that changes some roots.
-/
set_option linter.unusedVariables false
set_option linter.unusedSimpArgs false
namespace Go.Lite
open Go Go.RowKit

/-- What a step changes: the roots in D, their blocks, and new blocks. -/
structure Chg (D : Nat → Prop) (n : Nat → Prop) (E E' : Env) : Prop where
  H : ∀ r, ¬ D r → E'.H r = E.H r
  G : ∀ r, ¬ D r → E'.G r = E.G r
  size : E.w.heap.size ≤ E'.w.heap.size
  os : E'.w.os = E.w.os
  tape : E'.w.tape = E.w.tape
  output : E'.w.output = E.w.output
  keep : ∀ b, b < E.w.heap.size → (∀ d gr, D d → E.G d = some gr → b ∉ gr.blocks) → E'.w.heap[b]? = E.w.heap[b]?
  S : ∀ b, E'.S b ↔ (b < E'.w.heap.size ∧ ¬ Own E'.G b ∧ ¬ E'.F b)
  blk : ∀ d gr, D d → E'.G d = some gr → ∀ b ∈ gr.blocks, b < E'.w.heap.size ∧ (E.w.heap.size ≤ b ∨ ∃ d' gr', D d' ∧ E.G d' = some gr' ∧ b ∈ gr'.blocks)
  ext : ∀ d, D d → n d → ExtR (E.H d) (E'.H d) (E.G d) (E'.G d)
  F : E'.F = E.F

theorem Chg.own {D : Nat → Prop} {n : Nat → Prop} {E E' : Env} (hc : Chg D n E E') : ∀ b, Own E'.G b → b < E.w.heap.size → Own E.G b := by
  rintro b ⟨r, gr, hgr, hb⟩ hlt
  by_cases hD : D r
  · obtain ⟨_, h | ⟨d', gr', _, h1, h2⟩⟩ := hc.blk r gr hD hgr b hb
    · omega
    · exact ⟨d', gr', h1, h2⟩
  · rw [hc.G r hD] at hgr
    exact ⟨r, gr, hgr, hb⟩
theorem Chg.stay {D : Nat → Prop} {n : Nat → Prop} {E E' : Env} (hc : Chg D n E E') (hg : Good E n) : ∀ b, E.S b → E'.S b ∧ E'.w.heap[b]? = E.w.heap[b]? := by
  intro b hb
  obtain ⟨h1, h2, h3⟩ := (hg.S b).1 hb
  refine ⟨(hc.S b).2 ⟨Nat.lt_of_lt_of_le h1 hc.size, fun ho => h2 (hc.own b ho h1), by rw [hc.F]; exact h3⟩, hc.keep b h1 (fun d gr _ hgr hb' => h2 ⟨d, gr, hgr, hb'⟩)⟩
theorem Chg.toExt {D : Nat → Prop} {n : Nat → Prop} {E E' : Env} (hc : Chg D n E E') (hg : Good E n) : Ext n E E' :=
  ⟨hc.stay hg, fun r hr => by
    by_cases hD : D r
    · exact hc.ext r hD hr
    · rw [hc.H r hD, hc.G r hD]
      exact ExtR.refl _ _ (fun fl k xs ver hole hr => by
        obtain ⟨A, c, els, hg, _⟩ := hg.arr r fl k xs ver hole hr
        exact ⟨_, hg, rfl⟩)⟩
theorem Chg.tr {D : Nat → Prop} {n : Nat → Prop} {E E' : Env} (hc : Chg D n E E') : Tr (Own E.G) E.w E'.w :=
  ⟨hc.size, hc.os, hc.tape, hc.output, fun b hb hn => hc.keep b hb (fun d gr _ hgr hb' => hn ⟨d, gr, hgr, hb'⟩)⟩

theorem relEntry_ext {n : Nat → Prop} {E E' : Env} (hx : Ext n E E') {kk kv : K} {e : kk.D × kv.D} {m : MapEntry} (h : RelEntry E kk kv e m) : RelEntry E' kk kv e m :=
  ⟨RelV.ext hx _ _ (by simp [AV.ids]) h.1, RelV.ext hx _ _ (by simp [AV.ids]) h.2⟩
/-- A root that a step leaves alone. -/
theorem RelRoot.keep {n : Nat → Prop} {E E' : Env} (hx : Ext n E E') {root : Root} {gr : GRoot} (hi : ∀ q ∈ root.ids, n q) (hb : ∀ b ∈ gr.blocks, E'.w.heap[b]? = E.w.heap[b]?) (h : RelRoot E root gr) : RelRoot E' root gr := by
  cases root with
  | box cells =>
    cases gr with
    | box g => obtain ⟨vs, e, h1, h2⟩ := h; exact ⟨vs, e, (hb g (by simp [GRoot.blocks])).trans h1, RelAll2.ext hx hi h2⟩
    | _ => exact h.elim
  | arr fl k xs ver hole =>
    obtain ⟨_, _, _, rfl, _⟩ := h.arr
    cases hole with
    | none => obtain ⟨A, c, els, rfl', h1, h2⟩ := h; exact ⟨A, c, els, rfl', T.ok_mono _ hb h1, h2.imp (fun _ _ _ hx' => hx'.mono hx.stay fl k _ _)⟩
    | some q => obtain ⟨A, c, els, pq, h1, h2, h3, h4, h5⟩ := h; exact ⟨A, c, els, pq, h1, h2, h3.imp (fun _ _ _ hx' => hx'.mono hx.stay fl k _ _), h4, T.ok_mono _ hb h5⟩
  | frz k xs =>
    cases gr with
    | frz A c m => obtain ⟨h1, h2, h3⟩ := h; exact ⟨h1, h2, h3.imp hx.stay (RepC.mono hx.stay k)⟩
    | _ => exact h.elim
  | mp kk kv es =>
    cases gr with
    | mp g => obtain ⟨h1, h2, ents, clock, h3, h4⟩ := h; exact ⟨h1, h2, ents, clock, (hb g (by simp [GRoot.blocks])).trans h3, h4.imp (fun _ _ _ he => relEntry_ext hx he)⟩
    | _ => exact h.elim
  | it s pos =>
    cases gr with
    | it g => exact (hb g (by simp [GRoot.blocks])).trans h
    | _ => exact h.elim

theorem Chg.good {D : Nat → Prop} {n n' : Nat → Prop} {E E' : Env} (hc : Chg D n E E') (hg : Good E n) (hn : ∀ q, n q → n' q)
    (hroots : ∀ d root, D d → E'.H d = some root → ∃ gr, E'.G d = some gr ∧ RelRoot E' root gr)
    (hnone : ∀ d, D d → E'.H d = none → E'.G d = none)
    (hap : ∀ d d' gr gr', D d → D d' → d ≠ d' → E'.G d = some gr → E'.G d' = some gr' → ∀ b, b ∈ gr.blocks → b ∉ gr'.blocks)
    (hnd : ∀ d gr, D d → E'.G d = some gr → gr.blocks.Nodup)
    (hnames : ∀ d root, D d → E'.H d = some root → n' d ∧ ∀ q ∈ root.ids, n' q) : Good E' n' := by
  have hx := hc.toExt hg
  have out : ∀ d r gr gr', D d → ¬ D r → E'.G d = some gr → E'.G r = some gr' → ∀ b, b ∈ gr.blocks → b ∉ gr'.blocks := by
    intro d r gr gr' hd hr hgr hgr' b hb hb'
    rw [hc.G r hr] at hgr'
    have hlt := hg.lt b ⟨r, gr', hgr', hb'⟩
    obtain ⟨_, h | ⟨d', g2, hd', h1, h2⟩⟩ := hc.blk d gr hd hgr b hb
    · omega
    · exact hg.apart d' r g2 gr' (fun h => hr (h ▸ hd')) h1 hgr' b h2 hb'
  refine ⟨hc.S, fun r root hr => ?_, fun r hr => ?_, fun b hb => ?_, fun r r' gr gr' hne h1 h2 b hb => ?_, fun r gr hgr => ?_, fun r root hr => ?_, fun b hb => ?_⟩
  · by_cases hD : D r
    · exact hroots r root hD hr
    · rw [hc.H r hD] at hr
      obtain ⟨gr, hgr, hrel⟩ := hg.roots r root hr
      refine ⟨gr, by rw [hc.G r hD]; exact hgr, hrel.keep hx (hg.names r root hr).2 (fun b hb => ?_)⟩
      exact hc.keep b (hg.lt b ⟨r, gr, hgr, hb⟩) (fun d g2 hd hg2 hb2 => hg.apart d r g2 gr (fun h => hD (h ▸ hd)) hg2 hgr b hb2 hb)
  · by_cases hD : D r
    · exact hnone r hD hr
    · rw [hc.H r hD] at hr
      rw [hc.G r hD]
      exact hg.none r hr
  · obtain ⟨r, gr, hgr, hb'⟩ := hb
    by_cases hD : D r
    · exact (hc.blk r gr hD hgr b hb').1
    · rw [hc.G r hD] at hgr
      exact Nat.lt_of_lt_of_le (hg.lt b ⟨r, gr, hgr, hb'⟩) hc.size
  · by_cases hD : D r
    · by_cases hD' : D r'
      · exact hap r r' gr gr' hD hD' hne h1 h2 b hb
      · exact out r r' gr gr' hD hD' h1 h2 b hb
    · by_cases hD' : D r'
      · intro hb'
        exact out r' r gr' gr hD' hD h2 h1 b hb' hb
      · rw [hc.G r hD] at h1
        rw [hc.G r' hD'] at h2
        exact hg.apart r r' gr gr' hne h1 h2 b hb
  · by_cases hD : D r
    · exact hnd r gr hD hgr
    · rw [hc.G r hD] at hgr
      exact hg.nodup r gr hgr
  · by_cases hD : D r
    · exact hnames r root hD hr
    · rw [hc.H r hD] at hr
      obtain ⟨h1, h2⟩ := hg.names r root hr
      exact ⟨hn _ h1, fun q hq => hn _ (h2 q hq)⟩
  · rw [hc.F] at hb
    obtain ⟨h1, h2⟩ := hg.F b hb
    exact ⟨Nat.lt_of_lt_of_le h1 hc.size, fun ho => h2 (hc.own b ho h1)⟩

/-! ### One new root over one new block -/
theorem upd_same {α : Type} (i : Nat) (v : α) (f : Nat → α) : upd i v f i = v := by simp [upd]
theorem upd_other {α : Type} {i j : Nat} (v : α) (f : Nat → α) (h : j ≠ i) : upd i v f j = f j := by simp [upd, h]

def Env.add (E : Env) (m : Nat) (root : Root) (gr : GRoot) (o : Obj) : Env := { S := fun b => b < E.w.heap.size + 1 ∧ ¬ Own (upd m (some gr) E.G) b ∧ ¬ E.F b, F := E.F, w := { E.w with heap := E.w.heap.push o }, H := upd m (some root) E.H, G := upd m (some gr) E.G }

theorem good_fresh {E : Env} {n : Nat → Prop} {m : Nat} (hg : Good E n) (hm : ¬ n m) : E.H m = none ∧ E.G m = none := by
  have h : E.H m = none := by
    cases h : E.H m with
    | none => rfl
    | some root => exact absurd (hg.names m root h).1 hm
  exact ⟨h, hg.none m h⟩

theorem add_chg {E : Env} {n : Nat → Prop} {m : Nat} {root : Root} {gr : GRoot} {o : Obj} (hg : Good E n) (hm : ¬ n m) (hb : ∀ b ∈ gr.blocks, b = E.w.heap.size) : Chg (· = m) n E (E.add m root gr o) := by
  refine ⟨fun r hr => upd_other _ _ hr, fun r hr => upd_other _ _ hr, by simp [Env.add], rfl, rfl, rfl, fun b hb' _ => ?_, fun b => ?_, ?_, fun d hd hlt => absurd (hd ▸ hlt) hm, rfl⟩
  · simp only [Env.add]
    rw [Array.getElem?_push]
    rw [if_neg (by omega)]
  · simp [Env.add]
  · rintro d g rfl hgr b hbr
    simp only [Env.add, upd_same, Option.some.injEq] at hgr
    subst hgr
    have := hb b hbr
    subst this
    exact ⟨by simp [Env.add], .inl (Nat.le_refl _)⟩

/-- A new root: all that is asked for. -/
theorem add_post {E : Env} {m : Nat} {n n' : Nat → Prop} {root : Root} {gr : GRoot} {o : Obj} {av : AV} {v : Value} (hg : Good E n) (hm : ¬ n m) (hmn : (∀ q, n q → n' q) ∧ n' m) (hb : ∀ b ∈ gr.blocks, b = E.w.heap.size) (hnd : gr.blocks.Nodup)
    (hrel : Ext n E (E.add m root gr o) → RelRoot (E.add m root gr o) root gr) (hids : ∀ q ∈ root.ids, n' q) (hv : RelV (E.add m root gr o) av v) (hav : ∀ q ∈ av.ids, n' q) :
    Post E n ⟨av, upd m (some root) E.H⟩ n' v (E.add m root gr o) := by
  have hc := add_chg (root := root) (o := o) hg hm hb
  have hx := hc.toExt hg
  refine ⟨rfl, hc.good hg hmn.1 ?_ ?_ ?_ ?_ ?_, hx, hv, hav, hc.tr, hc.own, hc.F⟩
  · rintro d root' rfl h
    simp only [Env.add, upd_same, Option.some.injEq] at h
    subst h
    exact ⟨gr, by simp [Env.add, upd_same], hrel hx⟩
  · rintro d rfl h
    simp [Env.add, upd_same] at h
  · rintro d d' g g' rfl rfl hne
    exact absurd rfl hne
  · rintro d g rfl h
    simp only [Env.add, upd_same, Option.some.injEq] at h
    subst h
    exact hnd
  · rintro d root' rfl h
    simp only [Env.add, upd_same, Option.some.injEq] at h
    subst h
    exact ⟨hmn.2, hids⟩
end Go.Lite
end
