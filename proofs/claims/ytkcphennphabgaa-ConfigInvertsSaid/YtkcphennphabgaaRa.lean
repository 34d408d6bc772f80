/- What is proved here, part 1: a verified evaluator of the model's own code ('exec'), with its soundness; a tool for the claim's proof. It asks nothing. -/
import Derived.WalkKit
import Derived.KernelRfl
import Derived.Orders
import Derived.LoopN
import Derived.Laws.OwnMore
import Derived.Laws.Cells
import Derived.Laws.Append
import Derived.Laws.MakeOwn
import Derived.Laws.StructEq
import Derived.Deep.AppendSrc
import Derived.Laws.CopyRow
import Derived.Laws.Tables
import Derived.Great.FillDense
/- The values and the evaluator of a small typed reading of the model's code. -/
namespace Go.R
open Go

/-- Codes of plain data; 'nsl': a slice that is nil where it is empty; 'err': an interface's value, of which is known whether it is nil; 'flt': a float64, by its word. -/
inductive Ty where
  | int (k : IntKind) | bool | str | slice (t : Ty) | pair (a b : Ty) | unit | nsl (t : Ty) | err | flt
  deriving DecidableEq

@[reducible] def Dat : Ty → Type
  | .int _ => Int
  | .bool => Bool
  | .str => ByteArray
  | .slice t => List (Dat t)
  | .nsl t => List (Dat t)
  | .err => Bool
  | .flt => Nat
  | .pair a b => Dat a × Dat b
  | .unit => Unit

/-- How many cells a datum takes. -/
def Ty.sz : Ty → Nat
  | .int _ | .bool | .str | .slice _ | .nsl _ | .err | .flt => 1
  | .pair a b => a.sz + b.sz
  | .unit => 0

def Ty.dflt : (t : Ty) → Dat t
  | .int _ => (0 : Int)
  | .bool => false
  | .str => ByteArray.empty
  | .slice t => ([] : List (Dat t))
  | .nsl t => ([] : List (Dat t))
  | .err => false
  | .flt => (0 : Nat)
  | .pair a b => (a.dflt, b.dflt)
  | .unit => ()

/-- Abstract values: 'ro': a slice that nobody writes (1: it is not nil; 2: its capacity is its length; 3: it is nil where it is empty); 'own', 'ownv': a row of the call's own, whole or a part of it; 'ptr': a place in a block of the call's own (row, cell); 'rptr': a place that is only read; 'var': just that value, perhaps a place that is only read. -/
inductive AV where
  | undef
  | int (k : IntKind) (n : Int)
  | bool (b : Bool)
  | str (s : ByteArray)
  | nils
  | emp
  | nilp
  | ro (nn : Nat) (t : Ty) (xs : List (Dat t))
  | own (id : Nat)
  | ownn (id : Nat)
  | ownv (id lo : Nat) (hi : Option Nat)
  | ptr (id i j : Nat)
  | rptr (cells : List AV)
  | var (p : Value) (cells : List AV)
  | agg (cs : List AV)
  | tup (vs : List AV)
  | fn (f : Nat) (caps : List AV)
  | errv (b : Bool)
  | flt (n : Nat)

/-- Blocks of the call's own. -/
inductive Blk where
  | row (e : TypeId) (t : Ty) (xs : List (Dat t))
  | box (e : TypeId) (cs : List AV)

def AV.cells : AV → List AV
  | .agg cs => cs
  | v => [v]

/-- A datum's cells. -/
def cellsOf : (t : Ty) → Dat t → List AV
  | .int k, n => [.int k n]
  | .bool, b => [.bool b]
  | .str, s => [.str s]
  | .slice t, xs => [.ro 0 t xs]
  | .nsl t, xs => [.ro 3 t xs]
  | .err, b => [.errv b]
  | .flt, n => [.flt n]
  | .pair a b, p => cellsOf a p.1 ++ cellsOf b p.2
  | .unit, _ => []

def castS {t u : Ty} (h : t = u) (xs : List (Dat t)) : List (Dat u) := h ▸ xs

/-- A datum out of its cells. -/
def dec : (t : Ty) → List AV → Option (Dat t)
  | .int k, [.int k' n] => if k' = k then some n else none
  | .bool, [.bool b] => some b
  | .str, [.str s] => some s
  | .slice _, [.nils] => some []
  | .slice _, [.emp] => some []
  | .slice t, [.ro _ u xs] => if h : u = t then some (castS h xs) else none
  | .err, [.errv b] => some b
  | .flt, [.flt n] => some n
  | .nsl _, [.nils] => some []
  | .nsl t, [.ro nn u xs] => if h : u = t then (if nn = 3 then some (castS h xs) else none) else none
  | .pair a b, cs => (dec a (cs.take a.sz)).bind fun x => (dec b (cs.drop a.sz)).bind fun y => some (x, y)
  | .unit, [] => some ()
  | _, _ => none

/-- Equality of data without slices, as Go has it. -/
def eqS : (t : Ty) → Dat t → Dat t → Bool
  | .int _, a, b => a == b
  | .bool, a, b => a == b
  | .str, a, b => a == b
  | .slice _, _, _ => false
  | .nsl _, _, _ => false
  | .err, _, _ => false
  | .flt, _, _ => false
  | .pair a b, x, y => eqS a x.1 y.1 && eqS b x.2 y.2
  | .unit, _, _ => true

def Ty.noSlice : Ty → Bool
  | .slice _ => false
  | .nsl _ => false
  | .err => false
  | .flt => false
  | .pair a b => a.noSlice && b.noSlice
  | _ => true

/-- The part of a row that a view shows. -/
def view {α : Type} (xs : List α) (lo : Nat) : Option Nat → List α
  | none => xs.drop lo
  | some h => (xs.take h).drop lo

def addN : Nat → Nat → Nat
  | 0, n => n
  | m, n => m + n

/-- A question to the store, and what is done with the answer. -/
inductive Qn : Type 1 where
  | done (v : AV) (d : List (Nat × Option Blk))
  | fail
  | guard (c : Bool) (q : Qn)
  | ask (id : Nat) (k : Option Blk → Qn)
  | bind {α : Type} (m : Option α) (k : α → Qn)
  | branch (c : Bool) (p q : Qn)

def Qn.run {R : Type} (look : Nat → Option Blk) : Qn → (AV → List (Nat × Option Blk) → Option R) → Option R
  | .done v d, k => k v d
  | .fail, _ => none
  | .guard c q, k => cond c (q.run look k) none
  | .ask id q, k => (q (look id)).run look k
  | .bind m q, k => m.bind fun x => (q x).run look k
  | .branch c p q, k => cond c (p.run look k) (q.run look k)

/-- One value. -/
def Qn.pure (v : AV) : Qn := .done v []

def w64 (n : Int) : Int := IntKind.i64.wrap n
def mx (x y : Int) : Int := if y > x then y else x
def mn (x y : Int) : Int := if y < x then y else x
def bt (s : ByteArray) (i : Int) : Int := ((s.data.toList.getD i.toNat 0).toNat : Int)

/-- Whole numbers' operations. -/
def ibin (op : BinOp) (k : IntKind) (a b : Int) : Qn :=
  match op with
  | .add => .pure (.int k (k.wrap (a + b)))
  | .sub => .pure (.int k (k.wrap (a - b)))
  | .mul => .pure (.int k (k.wrap (a * b)))
  | .quo => .guard (b != 0) (.pure (.int k (k.wrap (a.tdiv b))))
  | .rem => .guard (b != 0) (.pure (.int k (a.tmod b)))
  | .and => .pure (.int k (k.wrap ((BitVec.ofInt k.bits a &&& BitVec.ofInt k.bits b).toNat)))
  | .or => .pure (.int k (k.wrap ((BitVec.ofInt k.bits a ||| BitVec.ofInt k.bits b).toNat)))
  | .xor => .pure (.int k (k.wrap ((BitVec.ofInt k.bits a ^^^ BitVec.ofInt k.bits b).toNat)))
  | .andNot => .pure (.int k (k.wrap ((BitVec.ofInt k.bits a &&& ~~~ BitVec.ofInt k.bits b).toNat)))
  | .eql => .pure (.bool (a == b))
  | .neq => .pure (.bool (a != b))
  | .lss => .pure (.bool (a < b))
  | .leq => .pure (.bool (a ≤ b))
  | .gtr => .pure (.bool (a > b))
  | .geq => .pure (.bool (a ≥ b))
  | _ => .fail

def ishift (op : BinOp) (k : IntKind) (a : Int) (b : Int) : Qn :=
  match op with
  | .shl => .guard (!decide (b < 0)) (.pure (.int k (k.wrap (a * 2 ^ min b.toNat k.bits))))
  | .shr => .guard (!decide (b < 0)) (.pure (.int k (a.fdiv (2 ^ min b.toNat k.bits))))
  | _ => .fail

def sbin (op : BinOp) (a b : ByteArray) : Qn :=
  match op with
  | .add => .guard (decide (a.size + b.size ≤ 9223372036854775807)) (.pure (.str (a ++ b)))
  | .eql => .pure (.bool (a.toList == b.toList))
  | .neq => .pure (.bool (!(a.toList == b.toList)))
  | .lss => .pure (.bool (Op.bytesLess a.toList b.toList))
  | .leq => .pure (.bool (Op.bytesLess a.toList b.toList || a.toList == b.toList))
  | .gtr => .pure (.bool (!(Op.bytesLess a.toList b.toList || a.toList == b.toList)))
  | .geq => .pure (.bool (!Op.bytesLess a.toList b.toList))
  | _ => .fail

/-- Float64 numbers' operations; where a NaN comes nothing is told. -/
def fbin (op : BinOp) (a b : Nat) : Qn :=
  match op with
  | .add => .bind (Ieee.double.add a b) fun r => .pure (.flt r)
  | .sub => .bind (Ieee.double.sub a b) fun r => .pure (.flt r)
  | .mul => .bind (Ieee.double.mul a b) fun r => .pure (.flt r)
  | .quo => .bind (Ieee.double.div a b) fun r => .pure (.flt r)
  | .eql => .bind (Ieee.double.order a b) fun o => .pure (.bool (o == .eq))
  | .neq => .bind (Ieee.double.order a b) fun o => .pure (.bool (!(o == .eq)))
  | .lss => .bind (Ieee.double.order a b) fun o => .pure (.bool (o == .lt))
  | .leq => .bind (Ieee.double.order a b) fun o => .pure (.bool (o == .lt || o == .eq))
  | .gtr => .bind (Ieee.double.order a b) fun o => .pure (.bool (o == .gt))
  | .geq => .bind (Ieee.double.order a b) fun o => .pure (.bool (o == .gt || o == .eq))
  | _ => .fail

/-- A float64 as a whole number, cut towards zero, if it fits. -/
def fltInt (k : IntKind) (n : Nat) : Option Int :=
  match (FloatKind.f64.decode n).toInt .zero with
  | some m => if k.min ≤ m ∧ m ≤ k.max then some m else none
  | none => none

end Go.R

/- The evaluator: it goes through the model's own code, beside a tree of remarks that a program has written. -/
namespace Go.R
open Go

/-! ### Kinds of parameters and results -/

/-- A parameter: 'ro': it is only read (agg: a struct or an array); 'mv': a row of the caller's own that is handed over; 'mvn': one that is nil where it is empty; 'pt': a place that is only read. -/
inductive PTy where
  | ro (agg : Bool) (t : Ty)
  | mv (e : TypeId) (t : Ty)
  | mvn (e : TypeId) (t : Ty)
  | pt (t : Ty)

@[reducible] def DatP : PTy → Type
  | .ro _ t => Dat t
  | .mv _ t => List (Dat t)
  | .mvn _ t => List (Dat t)
  | .pt t => Dat t

@[reducible] def DatPs : List PTy → Type
  | [] => Unit
  | [p] => DatP p
  | p :: q :: ps => DatP p × DatPs (q :: ps)

/-- A result: is it a struct; what it is; its slices' element types. -/
structure RTy where
  agg : Bool
  t : Ty
  es : List TypeId

@[reducible] def DatRs : List RTy → Type
  | [] => Unit
  | [r] => Dat r.t
  | r :: q :: rs => Dat r.t × DatRs (q :: rs)

/-- A function that is called by its contract. -/
structure Cal where
  f : FuncId
  ats : List PTy
  rts : List RTy
  F : DatPs ats → Option (DatRs rts)

/-- A function that changes a row in its place, by its contract: the row, perhaps a function (with what it has captured); it hands nothing back. -/
structure MCal where
  f : FuncId
  e : TypeId
  t : Ty
  g : Option FuncId
  cts : List PTy
  F : List (Dat t) → DatPs cts → Option (List (Dat t))

/-- A function that works on a box in its place, by its contract: the box's pieces go in ahead of the arguments and come back. -/
structure BCal where
  f : FuncId
  e : TypeId
  sizes : List (Bool × Nat)
  ps : List PTy
  ats : List PTy
  rts : List RTy
  F : DatPs (ps ++ ats) → Option (DatPs ps × DatRs rts)

/-- A function that the machine does itself, of one plain value. -/
structure XCal where
  f : FuncId
  F : AV → Qn

/-- A float64's word, and back. -/
def bitsX : AV → Qn
  | .flt n => .pure (.int .u64 n)
  | _ => .fail
def fromX : AV → Qn
  | .int .u64 n => .pure (.flt n.toNat)
  | _ => .fail
/-- A float64 made whole. -/
def wholeN (way : Ieee.Toward) (n : Nat) : Option Nat := match Ieee.double.read n with
  | .nan .. => none
  | d => some (Ieee.double.write (d.integral way))
def wholeX (way : Ieee.Toward) : AV → Qn
  | .flt n => .bind (wholeN way n) fun r => .pure (.flt r)
  | _ => .fail

/-! ### Remarks -/

inductive An where
  | n
  | eqt (t : Ty)
  | eqs (t : Ty)
  | conv (k : IntKind)
  | part (off sz : Nat) (agg : Bool)
  | idx (n sz : Nat) (agg : Bool)
  | build (zero : List AV) (places : List (Nat × Nat))
  | cells (zero : List AV)
  | load (sz : Nat) (agg : Bool)
  | loadDyn
  | store (sz : Nat)
  | nstore
  | off (o : Nat)
  | idxA (n sz : Nat)
  | idxAs (n sz : Nat)
  | idxS (n sz : Nat) (agg : Bool)
  | elem (e : TypeId) (t : Ty) (bytes : Nat)
  | room (e : TypeId) (t : Ty) (bytes : Nat)
  | elemz (e : TypeId) (t : Ty) (bytes : Nat)
  | cut (e : TypeId) (sz : Nat)
  | fz
  | pcall (i : Nat)
  | mcall (i : Nat)
  | bcall (i : Nat)
  | xcall (i : Nat)

/-- What the evaluator knows besides: callees, package-level tables, functions that it goes through. -/
structure Env where
  cs : List Cal
  gs : List (Nat × List AV)
  fns : List (Nat × Func)
  ms : List MCal
  bs : List BCal
  xs : List XCal

def AV.ofConst : Value → AV
  | .int k n => .int k n
  | .bool b => .bool b
  | .float .f64 n => .flt n
  | .string s => .str s
  | .slice none 0 0 => .nils
  | .nilIface => .errv false
  | .pointer none => .nilp
  | _ => .undef

def lookG : List (Nat × List AV) → Nat → AV
  | [], _ => .undef
  | (i, c) :: r, g => cond (Nat.beq i g) (.rptr c) (lookG r g)

def Env.eval (E : Env) (fr : List AV) : Operand → AV
  | .tmp t => fr.getD t .undef
  | .const v => .ofConst v
  | .global g => lookG E.gs g
  | .func f => .fn f []

/-! ### Rows and cells -/

/-- A value that is told as data: rows of the call's own as they now stand; their numbers are noted. -/
def frz : List AV → (List AV → List Nat → Qn) → Qn
  | [], k => k [] []
  | .own id :: r, k => .ask id fun
      | some (.row _ t xs) => frz r fun cs ids => k (.ro 0 t xs :: cs) (id :: ids)
      | _ => .fail
  | .ownv id lo hi :: r, k => .ask id fun
      | some (.row _ t xs) => frz r fun cs ids => k (.ro 0 t (view xs lo hi) :: cs) (id :: ids)
      | _ => .fail
  | v :: r, k => frz r fun cs ids => k (v :: cs) ids

def kills (ids : List Nat) : List (Nat × Option Blk) := ids.map fun i => (i, none)

/-- The cells 'vs' at place j of 'cs'. -/
def splice (cs : List AV) (j : Nat) (vs : List AV) : List AV := cs.take j ++ vs ++ cs.drop (j + vs.length)

def oneOf (agg : Bool) (cs : List AV) : AV :=
  match agg, cs with
  | true, cs => .agg cs
  | false, [v] => v
  | false, _ => .undef

/-- Values of one cell. -/
def AV.oneCell : AV → Bool
  | .undef | .agg _ | .tup _ | .var _ _ => false
  | _ => true

/-- Cells as one value: as many as are asked for. -/
def oneQ (agg : Bool) (sz : Nat) (cs : List AV) : Qn :=
  cond (Nat.beq cs.length sz) (match agg, cs with
    | true, cs => .pure (.agg cs)
    | false, [v] => .pure v
    | false, _ => .fail) .fail

/-- An element of an array, one place after the other. -/
def splitI (n sz : Nat) (agg : Bool) (cs : List AV) (i : Int) : Nat → Qn
  | 0 => .fail
  | m + 1 => .branch (i == ((n - (m + 1) : Nat) : Int)) (oneQ agg sz ((cs.drop ((n - (m + 1)) * sz)).take sz)) (splitI n sz agg cs i m)

def ints : List AV → Option (IntKind × List Int)
  | [] => none
  | [.int k n] => some (k, [n])
  | .int k n :: r => match ints r with
    | some (k', l) => if k = k' then some (k, n :: l) else none
    | none => none
  | _ => none

def strs : List AV → Option (List ByteArray)
  | [] => some []
  | .str s :: r => match strs r with
    | some l => some (s :: l)
    | none => none
  | _ => none

/-- One of cells that are alike. -/
def gather (cs : List AV) (i : Nat) : AV :=
  match ints cs with
  | some (k, l) => .int k (l.getD i 0)
  | none => match strs cs with
    | some l => .str (l.getD i ByteArray.empty)
    | none => .undef

/-- Column j of rows of sz cells. -/
def column (cs : List AV) (n sz j : Nat) : List AV := (List.range n).map fun r => cs.getD (r * sz + j) .undef

def inRange (i : Int) (n : Nat) : Bool := decide (0 ≤ i) && decide (i < (n : Int))

def split (n sz id r j : Nat) (i : Int) : Nat → Qn
  | 0 => .fail
  | m + 1 => .branch (i == ((n - (m + 1) : Nat) : Int)) (.pure (.ptr id r (j + (n - (m + 1)) * sz))) (split n sz id r j i m)

/-- An element of memory that is only read, by cases. -/
def splitR (n sz : Nat) (cs : List AV) (i : Int) : Nat → Qn
  | 0 => .fail
  | m + 1 => .branch (i == ((n - (m + 1) : Nat) : Int)) (.pure (.rptr (cs.drop ((n - (m + 1)) * sz)))) (splitR n sz cs i m)

def listParts (ρ : Operand → AV) (ps : Array (Nat × Operand)) : List (Nat × AV) := ps.toList.map fun p => (p.1, ρ p.2)

def fillA (places : List (Nat × Nat)) (cs : List AV) : List (Nat × AV) → Option (List AV)
  | [] => some cs
  | (i, v) :: r => match places[i]? with
    | none => none
    | some (off, sz) => cond (Nat.beq v.cells.length sz && v.cells.all AV.oneCell) (fillA places (splice cs off v.cells) r) none

/-- A slice literal's rows: the parts in order 0, 1, .. -/
def litRows (t : Ty) : Nat → List (Nat × List AV) → Option (List (Dat t))
  | _, [] => some []
  | i, (j, cs) :: r => if j = i then (dec t cs).bind fun x => (litRows t (i + 1) r).bind fun l => some (x :: l) else none

def frzParts : List (Nat × AV) → (List (Nat × List AV) → List Nat → Qn) → Qn
  | [], k => k [] []
  | (i, v) :: r, k => frz v.cells fun cs ids => frzParts r fun ps ids' => k ((i, cs) :: ps) (ids ++ ids')

/-- A slice's contents, its block (none: it is no row of the call's own), where the view begins. -/
def rows (t : Ty) (v : AV) (k : List (Dat t) → Option Nat → Qn) : Qn :=
  match v with
  | .nils | .emp => k [] none
  | .ro _ u xs => if h : u = t then k (castS h xs) none else .fail
  | .own id => .ask id fun
      | some (.row _ u xs) => if h : u = t then k (castS h xs) (some id) else .fail
      | _ => .fail
  | .ownv id lo hi => .ask id fun
      | some (.row _ u xs) => if h : u = t then k (view (castS h xs) lo hi) (some id) else .fail
      | _ => .fail
  | _ => .fail

def bounds (lo hi : Option AV) (len : Nat) (k : Option Nat → Option Nat → Qn) : Qn :=
  match lo, hi with
  | none, none => k none none
  | some (.int _ l), none => .guard (decide (0 ≤ l) && decide (l ≤ (len : Int))) (k (some l.toNat) none)
  | none, some (.int _ h) => .guard (decide (0 ≤ h) && decide (h ≤ (len : Int))) (k none (some h.toNat))
  | some (.int _ l), some (.int _ h) => .guard (decide (0 ≤ l) && decide (l ≤ h) && decide (h ≤ (len : Int))) (k (some l.toNat) (some h.toNat))
  | _, _ => .fail

def isZero : AV → Bool
  | .int _ (.ofNat 0) => true
  | _ => false

def hiOf (a b : Nat) : Option Nat → Nat
  | some h => addN a h
  | none => b

/-- How far a cut may go: to the row's known end, if an end is told. -/
def reach (hi : Option AV) (n m : Nat) : Nat := match hi with | some _ => n | none => m

def AV.isSlice : AV → Bool
  | .nils | .emp | .ro _ _ _ | .own _ | .ownv _ _ _ => true
  | _ => false

def sliceQ (t : Ty) (v : AV) (lo hi mx : Option AV) : Qn :=
  match mx with
  | some m => match hi with
    | some h => cond (isZero m && isZero h && lo.isNone && v.isSlice) (.pure .emp) .fail
    | none => .fail
  | none => match v with
    | .nils | .emp => bounds lo hi 0 fun _ _ => .pure .emp
    | .str s => bounds lo hi s.size fun l h => .pure (.str (s.extract (l.getD 0) (h.getD s.size)))
    | .ro _ u xs => bounds lo hi xs.length fun l h => match u == t with
        | true => .pure (.ro 0 u (view xs (l.getD 0) h))
        | false => .fail
    | .own id => .ask id fun
        | some (.row _ u xs) => bounds lo hi xs.length fun l h => match u == t with
          | true => .pure (.ownv id (l.getD 0) h)
          | false => .fail
        | _ => .fail
    | .ownv id a none => .ask id fun
        | some (.row _ u xs) => bounds lo hi (xs.length - a) fun l h => match u == t with
          | true => .pure (.ownv id (addN a (l.getD 0)) (h.map (addN a ·)))
          | false => .fail
        | _ => .fail
    | .ownv id a (some b) => .ask id fun
        | some (.row _ u xs) => bounds lo hi (reach hi (xs.length - a) (b - a)) fun l h => match u == t with
          | true => .pure (.ownv id (addN a (l.getD 0)) (some (hiOf a b h)))
          | false => .fail
        | _ => .fail
    | _ => .fail

/-- 's[l:h:m]' whose value is not used: the bounds alone. -/
def cut3 (v : AV) (lo hi mx : Option AV) : Qn :=
  match lo, hi, mx with
  | some (.int _ l), some (.int _ h), some (.int _ m) => match v with
    | .own id => .ask id fun
      | some (.row _ _ xs) => .guard (decide (0 ≤ l) && decide (l ≤ h) && decide (h ≤ m) && decide (m ≤ (xs.length : Int))) (.pure .undef)
      | _ => .fail
    | _ => .fail
  | _, _, _ => .fail

def lenQ (v : AV) : Qn :=
  match v with
  | .nils | .emp => .pure (.int .i64 0)
  | .ro _ _ xs => .pure (.int .i64 xs.length)
  | .own id => .ask id fun
      | some (.row _ _ xs) => .pure (.int .i64 xs.length)
      | _ => .fail
  | .ownv id a none => .ask id fun
      | some (.row _ _ xs) => .pure (.int .i64 ((xs.length - a : Nat) : Int))
      | _ => .fail
  | .ownv id a (some b) => .ask id fun
      | some (.row _ _ _) => .pure (.int .i64 ((b - a : Nat) : Int))
      | _ => .fail
  | _ => .fail

def idxSlice (t : Ty) (v : AV) (i : Int) : Qn :=
  match v with
  | .ro _ u xs => match u == t with
      | true => .guard (inRange i xs.length) (.pure (.rptr (cellsOf u (xs.getD i.toNat u.dflt))))
      | false => .fail
  | .own id => .ask id fun
      | some (.row _ u xs) => match u == t with
        | true => .guard (inRange i xs.length) (.pure (.ptr id i.toNat 0))
        | false => .fail
      | _ => .fail
  | .ownv id a none => .ask id fun
      | some (.row _ u xs) => match u == t with
        | true => .guard (inRange i (xs.length - a)) (.pure (.ptr id (addN a i.toNat) 0))
        | false => .fail
      | _ => .fail
  | .ownv id a (some b) => .ask id fun
      | some (.row _ u _) => match u == t with
        | true => .guard (inRange i (b - a)) (.pure (.ptr id (addN a i.toNat) 0))
        | false => .fail
      | _ => .fail
  | _ => .fail

def loadQ (sz : Nat) (agg : Bool) (v : AV) : Qn :=
  match v with
  | .ptr id i j => .ask id fun
      | some (.row _ t xs) => oneQ agg sz (((cellsOf t (xs.getD i t.dflt)).drop j).take sz)
      | some (.box _ cs) => oneQ agg sz ((cs.drop j).take sz)
      | none => .fail
  | .rptr cs => oneQ agg sz (cs.take sz)
  | .var _ (c :: cs) => oneQ agg sz ((c :: cs).take sz)
  | _ => .fail

def loadDynQ (v : AV) : Qn :=
  match v with
  | .ptr id _ j => .ask id fun
      | some (.box _ cs) => .guard (decide (j < cs.length)) (.pure (gather cs j))
      | _ => .fail
  | _ => .fail

def storeQ (sz : Nat) (a x : AV) : Qn :=
  match a with
  | .ptr id i j => .ask id fun
      | some (.box e cs) => cond (Nat.beq x.cells.length sz && Nat.ble (j + sz) cs.length && x.cells.all AV.oneCell) (.done .undef [(id, some (.box e (splice cs j x.cells)))]) .fail
      | some (.row e t xs) => frz x.cells fun vs ids =>
          cond (Nat.beq vs.length sz && Nat.ble (j + sz) t.sz && !(ids.any (Nat.beq id)) && x.cells.all AV.oneCell) (match dec t (splice (cellsOf t (xs.getD i t.dflt)) j vs) with
            | some y => .done .undef ((id, some (.row e t (xs.set i y))) :: kills ids)
            | none => .fail) .fail
      | none => .fail
  | _ => .fail

/-- A row that is not empty is written into a variable that is nil where it is empty. -/
def nstoreQ (a x : AV) : Qn :=
  match x with
  | .own q => .ask q fun
    | some (.row _ _ xs) => .guard (!(List.isEmpty xs)) (storeQ 1 a (.ownn q))
    | _ => .fail
  | _ => .fail

/-- The values of results: fresh rows for the slices. -/
def outCells (base : Nat) : (t : Ty) → Dat t → List TypeId → List AV × List (Nat × Option Blk) × List TypeId
  | .int k, n, es => ([.int k n], [], es)
  | .bool, b, es => ([.bool b], [], es)
  | .flt, n, es => ([.flt n], [], es)
  | .str, s, es => ([.str s], [], es)
  | .slice t, xs, es => match es with
    | [] => ([.undef], [], [])
    | e :: es => ([.own (base + es.length)], [(base + es.length, some (.row e t xs))], es)
  | .nsl t, xs, es => ([.ro 3 t xs], [], es)
  | .err, b, es => ([.errv b], [], es)
  | .pair a b, p, es => match outCells base a p.1 es with
    | (ca, da, es) => match outCells base b p.2 es with
      | (cb, db, es) => (ca ++ cb, da ++ db, es)
  | .unit, _, es => ([], [], es)

def outs (base : Nat) : (rts : List RTy) → DatRs rts → List AV × List (Nat × Option Blk)
  | [], _ => ([], [])
  | [r], x => match outCells base r.t x r.es with
    | (cs, d, _) => ([oneOf r.agg cs], d)
  | r :: q :: rs, x => match outCells base r.t x.1 r.es with
    | (cs, d, _) => match outs (base + r.es.length) (q :: rs) x.2 with
      | (vs, ds) => (oneOf r.agg cs :: vs, d ++ ds)

def tupOf : List AV → AV
  | [v] => v
  | vs => .tup vs

def AV.isAgg : AV → Bool
  | .agg _ => true
  | _ => false

/-- A datum that is only read, and the rows in it. -/
def insRo (agg : Bool) (t : Ty) (v : AV) (k : Dat t → List Nat → Qn) : Qn :=
  cond (agg == v.isAgg) (frz v.cells fun cs fz => match dec t cs with
    | some x => k x fz
    | none => .fail) .fail

/-- A row that is handed over. -/
def insMv (e : TypeId) (t : Ty) (v : AV) (k : List (Dat t) → List Nat → Qn) : Qn :=
  match v with
  | .nils | .emp => k [] []
  | .own id => .ask id fun
      | some (.row e' u xs) => if h : u = t then cond (Nat.beq e' e) (k (castS h xs) [id]) .fail else .fail
      | _ => .fail
  | .ownv id 0 (some b) => .ask id fun
      | some (.row e' u xs) => if h : u = t then cond (Nat.beq e' e) (k ((castS h xs).take b) [id]) .fail else .fail
      | _ => .fail
  | _ => .fail

/-- A row that is handed over, nil where it is empty. -/
def insMvn (e : TypeId) (t : Ty) (v : AV) (k : List (Dat t) → List Nat → Qn) : Qn :=
  match v with
  | .nils => k [] []
  | .ownn id => .ask id fun
      | some (.row e' u xs) => if h : u = t then cond (Nat.beq e' e) (k (castS h xs) [id]) .fail else .fail
      | _ => .fail
  | _ => .fail

/-- A place that is only read. -/
def insPt (t : Ty) (v : AV) (k : Dat t → Qn) : Qn :=
  match v with
  | .rptr cs => match dec t cs with
    | some x => k x
    | none => .fail
  | _ => .fail

/-- The arguments as data; the rows that are read, the rows that are handed over. -/
def ins : (ats : List PTy) → List AV → (DatPs ats → List Nat → List Nat → Qn) → Qn
  | [], [], k => k () [] []
  | [.ro agg t], [v], k => insRo agg t v fun x fz => k x fz []
  | [.mv e t], [v], k => insMv e t v fun xs mv => k xs [] mv
  | [.mvn e t], [v], k => insMvn e t v fun xs mv => k xs [] mv
  | [.pt t], [v], k => insPt t v fun x => k x [] []
  | .ro agg t :: q :: ps, v :: vs, k => insRo agg t v fun x fz => ins (q :: ps) vs fun y fz' mv => k (x, y) (fz ++ fz') mv
  | .mv e t :: q :: ps, v :: vs, k => insMv e t v fun xs mv => ins (q :: ps) vs fun y fz mv' => k (xs, y) fz (mv ++ mv')
  | .mvn e t :: q :: ps, v :: vs, k => insMvn e t v fun xs mv => ins (q :: ps) vs fun y fz mv' => k (xs, y) fz (mv ++ mv')
  | .pt t :: q :: ps, v :: vs, k => insPt t v fun x => ins (q :: ps) vs fun y fz mv => k (x, y) fz mv
  | _, _, _ => .fail

def distinct : List Nat → Bool
  | [] => true
  | a :: r => !(r.any (Nat.beq a)) && distinct r

/-- No slice inside a slice. -/
def Ty.flat : Ty → Bool
  | .slice t => t.noSlice
  | .nsl _ => false
  | .pair a b => a.flat && b.flat
  | _ => true

def pcallQ (C : Cal) (base : Nat) (vs : List AV) : Qn :=
  ins C.ats vs fun x fz mv => cond (distinct mv && mv.all fun i => !(fz.any (Nat.beq i))) (.bind (C.F x) fun r => match outs base C.rts r with
    | (os, d) => cond (d.all fun p => Nat.ble base p.1 && Nat.blt p.1 (base + d.length)) (.done (tupOf os) (d ++ kills (mv ++ cond (C.rts.all fun r => r.t.flat) [] fz))) .fail) .fail

/-- What a function that is handed over has captured. -/
def mcapsQ (C : MCal) (vs : List AV) (k : DatPs C.cts → Qn) : Qn :=
  match C.g, vs with
  | none, [] => ins C.cts [] fun x fz mv => cond (fz.isEmpty && mv.isEmpty) (k x) .fail
  | some g, [.fn g' caps] => cond (Nat.beq g g') (ins C.cts caps fun x fz mv => cond (fz.isEmpty && mv.isEmpty) (k x) .fail) .fail
  | _, _ => .fail

/-- A row that is changed in its place. -/
def mcallQ (C : MCal) (vs : List AV) : Qn :=
  match vs with
  | v :: r => mcapsQ C r fun x => match v with
    | .nils | .emp => .bind (C.F [] x) fun _ => .done (.tup []) []
    | .own id => .ask id fun
      | some (.row e u xs) => if h : u = C.t then cond (Nat.beq e C.e) (.bind (C.F (castS h xs) x) fun ys => .done (.tup []) [(id, some (.row C.e C.t ys))]) .fail else .fail
      | _ => .fail
    | _ => .fail
  | _ => .fail

/-- 'append': the old row is gone, the new one has a number of its own. -/
def appendQ (e : TypeId) (t : Ty) (bytes : Nat) (base : Nat) (s x : AV) : Qn :=
  match s with
  | .nils | .emp => rows t x fun ys _ => .guard (Nat.ble (ys.length * bytes) 140737488355328) (.done (.own base) [(base, some (.row e t ys))])
  | .ro 2 u xs => if h : u = t then rows t x fun ys _ =>
          .guard (Nat.ble 1 ys.length && Nat.ble (((castS h xs).length + ys.length) * bytes) 140737488355328) (.done (.own base) [(base, some (.row e t (castS h xs ++ ys)))])
        else .fail
  | .own id => .ask id fun
      | some (.row e' u xs) => if h : u = t then cond (Nat.beq e' e) (rows t x fun ys _ =>
            .guard (Nat.ble (((castS h xs).length + ys.length) * bytes) 140737488355328) (.done (.own base) [(base, some (.row e t (castS h xs ++ ys))), (id, none)])) .fail
          else .fail
      | _ => .fail
  | .ownv id 0 (some b) => .ask id fun
      | some (.row e' u xs) => if h : u = t then cond (Nat.beq e' e) (rows t x fun ys _ =>
            .guard (Nat.ble ((b + ys.length) * bytes) 140737488355328) (.done (.own base) [(base, some (.row e t ((castS h xs).take b ++ ys))), (id, none)])) .fail
          else .fail
      | _ => .fail
  | _ => .fail

/-- 'append' of so many zeros, to nothing. -/
def zerosQ (e : TypeId) (t : Ty) (bytes : Nat) (base : Nat) (s x : AV) : Qn :=
  match s with
  | .nils | .emp => match x with
    | .int .i64 n => .guard (decide (1 ≤ n) && decide (n * (bytes : Int) ≤ 281474976710656)) (.done (.own base) [(base, some (.row e t (List.replicate n.toNat t.dflt)))])
    | _ => .fail
  | _ => .fail

/-- 'append' within what is known of the row: in its place. -/
def roomQ (e : TypeId) (t : Ty) (s x : AV) : Qn :=
  match s with
  | .ownv id 0 (some b) => .ask id fun
      | some (.row e' u xs) => if h : u = t then cond (Nat.beq e' e) (rows t x fun ys _ =>
            .guard (Nat.ble (b + ys.length) (castS h xs).length) (.done (.ownv id 0 (some (b + ys.length))) [(id, some (.row e t ((castS h xs).take b ++ ys ++ (castS h xs).drop (b + ys.length))))])) .fail
          else .fail
      | _ => .fail
  | _ => .fail

/-- 'clear' of a part of a row. -/
def clearQ (e : TypeId) (t : Ty) (s : AV) : Qn :=
  match s with
  | .ownv id lo (some h) => .ask id fun
      | some (.row e' u xs) => if hu : u = t then cond (Nat.beq e' e) (.done (.tup []) [(id, some (.row e t ((castS hu xs).take lo ++ List.replicate (h - lo) t.dflt ++ (castS hu xs).drop h)))]) .fail
          else .fail
      | _ => .fail
  | _ => .fail

/-- A value as it is handed on: with the remark 'fz' a row of the call's own becomes data that is only read. -/
def moveQ (an : An) (v : AV) : Qn :=
  match an with
  | .fz => frz [v] fun cs ids => match cs with
    | [u] => .done u (kills ids)
    | _ => .fail
  | _ => .pure v

/-- Variables that are captured and only read from here on. -/
def frzB : List AV → (List AV → List Nat → Qn) → Qn
  | [], k => k [] []
  | .ptr id 0 0 :: r, k => .ask id fun
      | some (.box _ cs) => frz cs fun cs' ids => frzB r fun vs ids' => k (.rptr cs' :: vs) (id :: (ids ++ ids'))
      | _ => .fail
  | v :: r, k => frzB r fun vs ids => k (v :: vs) ids

/-- Cells in pieces. -/
def groupA : List (Bool × Nat) → List AV → List AV
  | [], _ => []
  | (agg, n) :: r, cs => oneOf agg (cs.take n) :: groupA r (cs.drop n)
def fitS : List (Bool × Nat) → Nat → Bool
  | [], m => Nat.beq m 0
  | (agg, n) :: r, m => (agg || Nat.beq n 1) && Nat.ble n m && fitS r (m - n)

/-- The cells of several values. -/
def flatA (vs : List AV) : List AV := vs.flatMap AV.cells

/-- The arguments of a function of its own: what came in is only read. -/
def argOf : (p : PTy) → DatP p → (Nat → AV × List (Nat × Option Blk))
  | .ro agg t, x => fun _ => (oneOf agg (cellsOf t x), [])
  | .mv e t, xs => fun n => (.own n, [(n, some (.row e t xs))])
  | .mvn e t, xs => fun n => (.ownn n, [(n, some (.row e t xs))])
  | .pt t, x => fun _ => (.rptr (cellsOf t x), [])

/-- Pieces that come back: numbers without gaps. -/
def backs (base : Nat) : (ps : List PTy) → DatPs ps → List AV × List (Nat × Option Blk)
  | [], _ => ([], [])
  | [p], x => match argOf p x base with
    | (v, d) => ([v], d)
  | p :: q :: ps, x => match backs base (q :: ps) x.2 with
    | (vs, ds) => match argOf p x.1 (base + ds.length) with
      | (v, d) => (v :: vs, d ++ ds)

/-- A call of such a function. -/
def bcallQ (C : BCal) (base : Nat) (v : AV) (vs : List AV) : Qn :=
  match v with
  | .ptr id 0 0 => .ask id fun
    | some (.box e cs) => cond (Nat.beq e C.e && fitS C.sizes cs.length) (ins (C.ps ++ C.ats) (groupA C.sizes cs ++ vs) fun x fz mv =>
        cond (distinct mv && (mv.all fun i => !(fz.any (Nat.beq i))) && !(mv.any (Nat.beq id)) && !(fz.any (Nat.beq id))) (.bind (C.F x) fun r => match backs base C.ps r.1 with
          | (bs, d1) => match outs (base + d1.length) C.rts r.2 with
            | (os, d2) => cond (((d2 ++ d1).all fun p => Nat.ble base p.1 && Nat.blt p.1 (base + (d1.length + d2.length))) && ((flatA bs).all AV.oneCell) && Nat.beq (flatA bs).length cs.length)
              (.done (tupOf os) ((id, some (.box C.e (flatA bs))) :: (d2 ++ (d1 ++ kills (mv ++ fz))))) .fail) .fail) .fail
    | _ => .fail
  | _ => .fail

def callQ (E : Env) (an : An) (c : Call) (ρ : Operand → AV) (base : Nat) : Qn :=
  match c.callee with
  | .builtin .len => match an, c.args.toList with
    | .elem .., [x] => lenQ (ρ x)
    | .n, [x] => match ρ x with
      | .str s => .pure (.int .i64 s.size)
      | _ => .fail
    | _, _ => .fail
  | .builtin .cap => match an, c.args.toList with
    | .elem .., [x] => match ρ x with
      | .nils | .emp => .pure (.int .i64 0)
      | _ => .fail
    | _, _ => .fail
  | .builtin .append => match an, c.args.toList with
    | .elem e t b, [s, x] => appendQ e t b base (ρ s) (ρ x)
    | .room e t b, [s, x] => match ρ s with
      | .ownv i lo hi => roomQ e t (.ownv i lo hi) (ρ x)
      | v => appendQ e t b base v (ρ x)
    | .elemz e t b, [s, x] => zerosQ e t b base (ρ s) (ρ x)
    | _, _ => .fail
  | .builtin .clear => match an, c.args.toList with
    | .elem e t _, [s] => clearQ e t (ρ s)
    | _, _ => .fail
  | .builtin .max => match c.args.toList.map ρ with
    | [.int k a, .int k' b] => if k = k' then .pure (.int k (mx a b)) else .fail
    | [.int k a, .int k' b, .int k'' c] => if k = k' then (if k = k'' then .pure (.int k (mx (mx a b) c)) else .fail) else .fail
    | l => match ints l with
      | some (k, n :: ns) => .pure (.int k (ns.foldl mx n))
      | _ => .fail
  | .builtin .min => match c.args.toList.map ρ with
    | [.int k a, .int k' b] => if k = k' then .pure (.int k (mn a b)) else .fail
    | [.int k a, .int k' b, .int k'' c] => if k = k' then (if k = k'' then .pure (.int k (mn (mn a b) c)) else .fail) else .fail
    | _ => .fail
  | .value f => match an, ρ f with
    | .pcall i, .fn g [] => match E.cs[i]? with
      | some C => cond (Nat.beq C.f g) (pcallQ C base (c.args.toList.map ρ)) .fail
      | none => .fail
    | .mcall i, .fn g [] => match E.ms[i]? with
      | some C => cond (Nat.beq C.f g) (mcallQ C (c.args.toList.map ρ)) .fail
      | none => .fail
    | .bcall i, .fn g [] => match E.bs[i]? with
      | some C => cond (Nat.beq C.f g) (match c.args.toList.map ρ with
        | v :: vs => bcallQ C base v vs
        | [] => .fail) .fail
      | none => .fail
    | .xcall i, .fn g [] => match E.xs[i]? with
      | some C => cond (Nat.beq C.f g) (match c.args.toList.map ρ with
        | [a] => C.F a
        | _ => .fail) .fail
      | none => .fail
    | _, _ => .fail
  | _ => .fail

def isShift : BinOp → Bool
  | .shl | .shr => true
  | _ => false

def eqB (op : BinOp) (b : Bool) : Qn :=
  match op with
  | .eql => .pure (.bool b)
  | .neq => .pure (.bool (!b))
  | _ => .fail

/-- A slice against nil. -/
def nilQ (op : BinOp) (a b : AV) : Qn :=
  match a, b with
  | .nils, .nils => eqB op true
  | .ro 1 _ _, .nils => eqB op false
  | .ro 3 _ xs, .nils => eqB op (List.isEmpty xs)
  | .own id, .nils => .ask id fun
      | some (.row _ _ xs) => .guard (!xs.isEmpty) (eqB op false)
      | _ => .fail
  | .ownn id, .nils => .ask id fun
      | some (.row _ _ xs) => eqB op (List.isEmpty xs)
      | _ => .fail
  | _, _ => .fail

def binQ (an : An) (op : BinOp) (a b : AV) : Qn :=
  match a, b with
  | .int k x, .int k' y => match isShift op with
    | true => ishift op k x y
    | false => if k = k' then ibin op k x y else .fail
  | .str x, .str y => sbin op x y
  | .flt x, .flt y => fbin op x y
  | .bool x, .bool y => match an with
    | .eqt .bool => eqB op (x == y)
    | _ => .fail
  | .agg xs, .agg ys => match an with
    | .eqs t => cond t.noSlice (match dec t xs with
      | some x => match dec t ys with
        | some y => eqB op (eqS t x y)
        | none => .fail
      | none => .fail) .fail
    | _ => .fail
  | u, v => match an with
    | .eqt (.slice _) => nilQ op u v
    | .eqt .err => match u, v with
      | .errv b, .errv false => eqB op (!b)
      | _, _ => .fail
    | .eqt .unit => match u, v with
      | .ptr .., .nilp => eqB op false
      | .nilp, .nilp => eqB op true
      | _, _ => .fail
    | _ => .fail

/-- What one operation does. -/
def opQ (E : Env) (an : An) (op : Op) (ρ : Operand → AV) (base : Nat) : Qn :=
  match op with
  | .move x | .assign x => moveQ an (ρ x)
  | .pick c x y => match ρ c with
    | .bool b => match ρ x, ρ y with
      | .bool u, .bool v => .pure (.bool (cond b u v))
      | u, v => .branch b (.pure u) (.pure v)
    | _ => .fail
  | .binOp o _ x y _ => binQ an o (ρ x) (ρ y)
  | .unOp o _ x => match o, ρ x with
    | .neg, .int k n => .pure (.int k (k.wrap (0 - n)))
    | .xor, .int k n => ibin .xor k (if k.signed then -1 else k.max) n
    | .not, .bool b => .pure (.bool (!b))
    | .neg, .flt n => .pure (.flt (Op.negFloat .f64 n))
    | _, _ => .fail
  | .convert _ _ x => match an, ρ x with
    | .conv k, .int _ n => .pure (.int k (k.wrap n))
    | .conv k, .flt n => .bind (fltInt k n) fun m => .pure (.int k m)
    | .eqt .flt, .int _ n => .pure (.flt (FloatKind.f64.nearest n))
    | .eqt .flt, .flt n => .pure (.flt n)
    | .n, .str s => .pure (.str s)
    | _, _ => .fail
  | .extract x j => match ρ x with
    | .tup vs => match vs[j]? with
      | some v => .pure v
      | none => .fail
    | _ => .fail
  | .nilCheck x => match ρ x with
    | .ptr id i j => .pure (.ptr id i j)
    | .rptr cs => .pure (.rptr cs)
    | _ => .fail
  | .fieldAddr _ x _ => match an, ρ x with
    | .off o, .ptr id i j => .pure (.ptr id i (j + o))
    | .off o, .rptr cs => .pure (.rptr (cs.drop o))
    | _, _ => .fail
  | .field _ x _ => match an, ρ x with
    | .part off sz agg, .agg cs => oneQ agg sz ((cs.drop off).take sz)
    | _, _ => .fail
  | .index _ x i => match an, ρ x, ρ i with
    | .idx n sz agg, .agg cs, .int _ i => .guard (inRange i n) (cond (Nat.beq cs.length (n * sz)) (oneQ agg sz ((List.range sz).map fun j => gather (column cs n sz j) i.toNat)) .fail)
    | .idxS n sz agg, .agg cs, .int _ i => cond (Nat.beq cs.length (n * sz)) (splitI n sz agg cs i n) .fail
    | .n, .str s, .int _ i => .guard (inRange i s.size) (.pure (.int .u8 (bt s i)))
    | _, _, _ => .fail
  | .indexAddr _ x i => match an, ρ x, ρ i with
    | .idxA n sz, .ptr id r j, .int _ i => .guard (inRange i n) (.pure (.ptr id r (j + i.toNat * sz)))
    | .idxAs n sz, .ptr id r j, .int _ i => split n sz id r j i n
    | .idxAs n sz, .rptr cs, .int _ i => splitR n sz cs i n
    | .elem _ t _, v, .int _ i => idxSlice t v i
    | _, _, _ => .fail
  | .load _ a => match an with
    | .load sz agg => loadQ sz agg (ρ a)
    | .loadDyn => loadDynQ (ρ a)
    | _ => .fail
  | .store _ a x => match an with
    | .store sz => storeQ sz (ρ a) (ρ x)
    | .nstore => nstoreQ (ρ a) (ρ x)
    | _ => .fail
  | .alloc e => match an with
    | .cells z => .done (.ptr base 0 0) [(base, some (.box e z))]
    | _ => .fail
  | .box e x => cond ((ρ x).cells.all AV.oneCell) (.done (.ptr base 0 0) [(base, some (.box e (ρ x).cells))]) .fail
  | .build _ ps => match an with
    | .build z places => match fillA places z (listParts ρ ps) with
      | some cs => .pure (.agg cs)
      | none => .fail
    | _ => .fail
  | .buildSlice _ len ps => match an with
    | .elem e t _ => frzParts (listParts ρ ps) fun qs ids => match litRows t 0 qs with
      | some xs => cond (Nat.beq xs.length len) (.done (.own base) ((base, some (.row e t xs)) :: kills ids)) .fail
      | none => .fail
    | .elemz _ t _ => frzParts (listParts ρ ps) fun qs ids => match litRows t 0 qs with
      | some xs => cond (Nat.beq xs.length len) (.done (.ro 2 t xs) ((base, none) :: kills ids)) .fail
      | none => .fail
    | _ => .fail
  | .makeSlice _ l c => match an, ρ l, ρ c with
    | .elem e t b, .int .i64 l, .int .i64 c => .guard (decide (0 ≤ l) && decide (l ≤ c) && decide ((b : Int) * c ≤ 281474976710656))
        (.done (.own base) [(base, some (.row e t (List.replicate l.toNat t.dflt)))])
    | _, _, _ => .fail
  | .slice _ x lo hi mx => match an with
    | .elem _ t _ => cond (ρ x).isSlice (sliceQ t (ρ x) (lo.map ρ) (hi.map ρ) (mx.map ρ)) .fail
    | .cut _ _ => cut3 (ρ x) (lo.map ρ) (hi.map ρ) (mx.map ρ)
    | .n => match ρ x with
      | .str s => sliceQ .unit (.str s) (lo.map ρ) (hi.map ρ) (mx.map ρ)
      | _ => .fail
    | _ => .fail
  | .makeFunc (.func f) first caps => match first.toList with
    | [] => match an with
      | .fz => frzB (caps.toList.map ρ) fun cs ids => .done (.fn f cs) (kills ids)
      | _ => .pure (.fn f (caps.toList.map ρ))
    | _ => .fail
  | .call c => callQ E an c ρ base
  | _ => .fail

/-! ### The state -/

structure St where
  fr : List AV
  fs : List (List AV)
  store : List (Nat × Option Blk)
  next : Nat
  dirty : List Nat

def look : List (Nat × Option Blk) → Nat → Option Blk
  | [], _ => none
  | (i, b) :: r, id => cond (Nat.beq i id) b (look r id)

def St.put (st : St) (dst : Option Nat) (v : AV) (d : List (Nat × Option Blk)) : St :=
  { fr := match dst with | some t => st.fr.set t v | none => st.fr, fs := st.fs, store := d ++ st.store, next := st.next + d.length, dirty := d.map (·.1) ++ st.dirty }

/-- A place that a loop's round (or a join) hands on. -/
inductive Loc where
  | slot (s : Nat)
  | cell (id j : Nat)

structure Hole where
  loc : Loc
  agg : Bool
  t : Ty

structure RowHole where
  e : TypeId
  t : Ty
  locs : List Loc
  nn : Bool

/-- What is handed on: values, rows of the call's own; the slots that are forgotten. -/
structure Sig where
  vals : List Hole
  rows : List RowHole
  mask : List Nat

@[reducible] def DatH : List Hole → Type
  | [] => Unit
  | [h] => Dat h.t
  | h :: g :: r => Dat h.t × DatH (g :: r)

@[reducible] def DatW : List RowHole → Type
  | [] => Unit
  | [h] => List (Dat h.t)
  | h :: g :: r => List (Dat h.t) × DatW (g :: r)

@[reducible] def Sig.X (s : Sig) : Type :=
  match s.vals, s.rows with
  | vs, [] => DatH vs
  | [], r :: rs => DatW (r :: rs)
  | v :: vs, r :: rs => DatH (v :: vs) × DatW (r :: rs)

def St.at (st : St) : Loc → AV
  | .slot s => st.fr.getD s .undef
  | .cell id j => match look st.store id with
    | some (.box _ cs) => cs.getD j .undef
    | _ => .undef

def decH (h : Hole) (v : AV) : Option (Dat h.t) := cond (h.agg == v.isAgg) (dec h.t v.cells) none

def getH (st : St) : (hs : List Hole) → Option (DatH hs)
  | [] => some ()
  | [h] => decH h (st.at h.loc)
  | h :: g :: r => (decH h (st.at h.loc)).bind fun x => (getH st (g :: r)).bind fun y => some (x, y)

/-- A row's contents, and its number. -/
def rowAt (st : St) (e : TypeId) (t : Ty) (v : AV) : Option (List (Dat t) × Option Nat) :=
  match v with
  | .nils | .emp => some ([], none)
  | .own id => match look st.store id with
    | some (.row e' u xs) => if h : u = t then cond (Nat.beq e' e) (some (castS h xs, some id)) none else none
    | _ => none
  | .ownn id => match look st.store id with
    | some (.row e' u xs) => if h : u = t then cond (Nat.beq e' e) (some (castS h xs, some id)) none else none
    | _ => none
  | .ownv id 0 (some b) => match look st.store id with
    | some (.row e' u xs) => if h : u = t then cond (Nat.beq e' e) (some ((castS h xs).take b, some id)) none else none
    | _ => none
  | _ => none

/-- One row under two names. -/
def sameRow : AV → AV → Bool
  | .own i, .own j => Nat.beq i j
  | .ownn i, .ownn j => Nat.beq i j
  | .ownv i 0 (some b), .ownv j 0 (some c) => Nat.beq i j && Nat.beq b c
  | .nils, .nils => true
  | .nils, .emp => true
  | .emp, .nils => true
  | .emp, .emp => true
  | _, _ => false

/-- A row of the call's own, of which is known that it is nil where it is empty. -/
def AV.nilRow : AV → Bool
  | .nils | .ownn _ => true
  | _ => false

/-- A row's own name. -/
def ownA (nn : Bool) (n : Nat) : AV := match nn with
  | true => .ownn n
  | false => .own n

def rowH (st : St) (h : RowHole) : Option (List (Dat h.t) × List Nat) :=
  match h.locs with
  | [] => none
  | l :: ls => match rowAt st h.e h.t (st.at l) with
    | some (xs, id) => cond ((ls.all fun l' => sameRow (st.at l) (st.at l')) && (!h.nn || h.locs.all fun l' => (st.at l').nilRow)) (some (xs, id.toList)) none
    | none => none

def getW (st : St) : (hs : List RowHole) → Option (DatW hs × List Nat)
  | [] => some ((), [])
  | [h] => rowH st h
  | h :: g :: r => match rowH st h with
    | some (xs, id) => match getW st (g :: r) with
      | some (ys, ids) => some ((xs, ys), id ++ ids)
      | none => none
    | none => none

def getX (st : St) : (s : Sig) → Option (s.X × List Nat)
  | ⟨vs, [], _⟩ => match getH st vs with
    | some x => some (x, [])
    | none => none
  | ⟨[], r :: rs, _⟩ => match getW st (r :: rs) with
    | some (y, ids) => cond (distinct ids) (some (y, ids)) none
    | none => none
  | ⟨v :: vs, r :: rs, _⟩ => match getH st (v :: vs) with
    | some x => match getW st (r :: rs) with
      | some (y, ids) => cond (distinct ids) (some ((x, y), ids)) none
      | none => none
    | none => none

def St.setAt (st : St) (l : Loc) (v : AV) : St :=
  match l with
  | .slot s => { st with fr := st.fr.set s v }
  | .cell id j => match look st.store id with
    | some (.box e cs) => { st with store := (id, some (.box e (cs.set j v))) :: st.store }
    | _ => st

def putH (st : St) : (hs : List Hole) → DatH hs → St
  | [], _ => st
  | [h], x => st.setAt h.loc (oneOf h.agg (cellsOf h.t x))
  | h :: g :: r, x => putH (st.setAt h.loc (oneOf h.agg (cellsOf h.t x.1))) (g :: r) x.2

def putW (st : St) (n : Nat) : (hs : List RowHole) → DatW hs → St
  | [], _ => st
  | [h], x => h.locs.foldl (fun st l => st.setAt l (ownA h.nn n)) { st with store := (n, some (.row h.e h.t x)) :: st.store }
  | h :: g :: r, x => putW (h.locs.foldl (fun st l => st.setAt l (ownA h.nn n)) { st with store := (n, some (.row h.e h.t x.1)) :: st.store }) (n + 1) (g :: r) x.2

/-- The state in which a round begins: 'st' is the context. -/
def putX (st : St) : (s : Sig) → s.X → St
  | ⟨vs, [], _⟩, x => putH st vs x
  | ⟨[], r :: rs, _⟩, y => putW st st.next (r :: rs) y
  | ⟨v :: vs, r :: rs, _⟩, x => putW (putH st (v :: vs) x.1) st.next (r :: rs) x.2

def maskAll (fr : List AV) : List Nat → List AV
  | [] => fr
  | s :: r => maskAll (fr.set s .undef) r

def Loc.box? : Loc → Option Nat
  | .slot _ => none
  | .cell id _ => some id

def Loc.slot? : Loc → Option Nat
  | .slot s => some s
  | .cell _ _ => none

/-- The variables in memory whose cells are handed on. -/
def Sig.boxes (s : Sig) : List Nat := s.vals.filterMap (·.loc.box?) ++ s.rows.flatMap fun h => h.locs.filterMap (·.box?)

/-- The slots that are handed on. -/
def Sig.slots (s : Sig) : List Nat := s.vals.filterMap (·.loc.slot?) ++ s.rows.flatMap fun h => h.locs.filterMap (·.slot?)

/-- The cells of variables are forgotten. -/
def blank : List Nat → List (Nat × Option Blk) → List (Nat × Option Blk)
  | [], s => s
  | id :: r, s => match look s id with
    | some (.box e cs) => blank r ((id, some (.box e (cs.map fun _ => .undef))) :: s)
    | _ => blank r s

/-- The context of a loop or join: the forgotten slots; the rows that are handed on are taken out. -/
def St.ctx (st : St) (s : Sig) (ids : List Nat) : St :=
  { fr := maskAll st.fr (s.mask ++ s.slots), fs := st.fs, store := blank s.boxes (kills ids ++ st.store), next := st.next, dirty := s.boxes ++ (ids ++ (List.range' st.next s.rows.length ++ st.dirty)) }

/-- Where the numbers go on behind the rows that are handed on. -/
def St.beyond (st : St) (s : Sig) : St := { st with next := st.next + s.rows.length }

def Loc.isCell (id j : Nat) : Loc → Bool
  | .slot _ => false
  | .cell i k => Nat.beq i id && Nat.beq k j

def Sig.hasCell (s : Sig) (id j : Nat) : Bool := s.vals.any (fun h => h.loc.isCell id j) || s.rows.any fun h => h.locs.any (·.isCell id j)

/-- All cells of those variables are handed on. -/
def covered (st : St) (s : Sig) : Bool := s.boxes.all fun id => match look st.store id with
  | some (.box _ cs) => (List.range cs.length).all fun j => s.hasCell id j
  | _ => false

/-- What was written since the context stood: only what is new since, or handed on. -/
def clean (ctx st : St) (al : List Nat) : Bool := (st.dirty.take (st.dirty.length - ctx.dirty.length)).all fun d => Nat.ble ctx.next d || al.any (Nat.beq d)

/-- The rows that are handed on are none of the context's. -/
def strange (ctx : St) (ids : List Nat) : Bool := ids.all fun i => Nat.ble ctx.next i || (look ctx.store i).isNone

/-! ### Code -/

mutual
inductive ACode where
  | u
  | reg (items : AItems)
  | seq (a b : ACode)
  | cond (a b : ACode)
  | block (a : ACode)
  | loop (s : Sig) (a : ACode)
  | join (s : Sig) (ids : List Nat) (a : ACode)
  | case (s : Nat) (n : Int) (a b : ACode)
  | fzs (s : Nat) (a : ACode)
  | unr (a b : ACode)
inductive AItems where
  | nil
  | op (an : An) (rest : AItems)
  | andor (n : Nat) (sub rest : AItems)
  | icall (j : Nat) (body : ACode) (rest : AItems)
  | gd (a b : AItems)
  | ijoin (n : Nat) (s : Sig) (ids : List Nat) (sub rest : AItems)
end

structure Conts (R : Type) where
  norm : St → Option R
  ret : St → Option R
  exits : List (Nat × (St → Option R))

def goExit {R : Type} : List (Nat × (St → Option R)) → Nat → St → Option R
  | [], _, _ => none
  | (i, k) :: r, id, st => cond (Nat.beq i id) (k st) (goExit r id st)

def iterT {X R : Type} : Nat → ((X → Option R) → X → Option R) → X → Option R
  | 0, _, _ => none
  | n + 1, F, x => F (iterT n F) x

def asBool {R : Type} (v : AV) (k : Bool → Option R) : Option R :=
  match v with
  | .bool b => k b
  | _ => none

/-- A guarded piece: it is done where the guard's value is the wanted one. -/
def gcond {R : Type} (w b : Bool) (x y : Option R) : Option R :=
  match w with
  | true => cond b x y
  | false => cond b y x

/-- A piece under a guard: what is known of it is not asked again; where the guard's own operation was passed over, the piece is too. -/
def guardQ {R : Type} (sat : List (Nat × Bool)) (g : Nat × Bool) (v : AV) (x y : Option R) : Option R :=
  cond (sat.any fun p => Nat.beq p.1 g.1 && (p.2 == g.2)) x (cond (sat.any fun p => Nat.beq p.1 g.1 && (p.2 == !g.2)) y (match v with | .bool b => gcond g.2 b x y | .tup [] => y | _ => none))

/-- What is known of a slot is written into it. -/
def St.setS (st : St) (s : Nat) (v : AV) : St := { st with fr := st.fr.set s v }

/-- The slot of a guard. -/
def guardSlot (all : Array Oper) (j : Nat) : Nat :=
  match all[j]? with
  | some o => o.dst.getD 0
  | none => 0

def pickSlot : Op → Option Nat
  | .pick _ (.tmp r) (.const (.bool false)) => some r
  | .pick _ (.const (.bool true)) (.tmp r) => some r
  | _ => none

def dsts (ops : List Oper) : List Nat := ops.filterMap (·.dst)

def resultOf (st : St) : ResultVar → Option AV
  | .tmp t => some (st.fr.getD t .undef)
  | .cell a _ => match st.fr.getD a .undef with
    | .ptr id 0 0 => match look st.store id with
      | some (.box _ cs) => some (.agg cs)
      | _ => none
    | _ => none

def resultsOf (st : St) : List ResultVar → Option (List AV)
  | [] => some []
  | r :: rs => match resultOf st r with
    | some v => match resultsOf st rs with
      | some vs => some (v :: vs)
      | none => none
    | none => none

/-- What follows a round: the next one. -/
def loopK {R : Type} (s : Sig) (ctx : St) (K : Conts R) (self : s.X → Option R) : Conts R :=
  ⟨fun st' => cond (clean ctx st' s.boxes && covered st' s) (match getX st' s with
    | some (x', ids) => cond (strange ctx ids) (self x') none
    | none => none) none, K.ret, K.exits⟩

/-- What follows a joined piece: its data, or the end. -/
def joinK {R : Type} (s : Sig) (ids : List Nat) (st : St) (K : Conts R) : Conts (s.X ⊕ R) :=
  ⟨fun st' => cond (clean st st' (ids ++ s.boxes) && covered st' s) (match getX st' s with
    | some (x', ids') => cond (strange (st.ctx s ids) ids') (some (.inl x')) none
    | none => none) none, fun st' => (K.ret st').map .inr, K.exits.map fun p => (p.1, fun st' => (p.2 st').map .inr)⟩

/-- The end of a joined piece of a region: its data. -/
def joinE (s : Sig) (ids : List Nat) (st st' : St) : Option s.X :=
  cond (clean st st' (ids ++ s.boxes) && covered st' s) (match getX st' s with
    | some (x', ids') => cond (strange (st.ctx s ids) ids') (some x') none
    | none => none) none

/-- A question's answer, and which blocks were asked for. -/
def Qn.runL {R : Type} (look : Nat → Option Blk) : Qn → List Nat → (AV → List (Nat × Option Blk) → List Nat → Option R) → Option R
  | .done v d, l, k => k v d l
  | .fail, _, _ => none
  | .guard c q, l, k => cond c (q.runL look l k) none
  | .ask id q, l, k => (q (look id)).runL look (id :: l) k
  | .bind m q, l, k => m.bind fun x => (q x).runL look l k
  | .branch c p q, l, k => cond c (p.runL look l k) (q.runL look l k)

/-- What an operation of a region with a drawn order has done: blocks asked for, blocks written. -/
structure Rec where
  rs : List Nat
  ws : List Nat

def meets (a b : List Nat) : Bool := a.any fun i => b.any (Nat.beq i)

/-- Operations that must have gone before: bits. -/
def befores (l : List Nat) (o : Oper) : Nat := o.after.toList.foldl (fun m e => cond (Region.binds .any e) (m ||| (1 <<< e.on) ||| l.getD e.on 0) m) 0

/-- For each operation: what must have gone before. -/
def ancs : List Oper → List Nat → List Nat
  | [], l => l
  | o :: os, l => ancs os (l ++ [befores l o])

def bit (m j : Nat) : Bool := m.testBit j

/-- Records that meet are in order: j's number and record against later ones. -/
def recsOk1 (as : List Nat) (j : Nat) (r : Rec) : Nat → List Rec → Bool
  | _, [] => true
  | i, q :: qs => (cond (meets r.ws q.rs || meets r.ws q.ws || meets r.rs q.ws) (bit (as.getD i 0) j) true) && recsOk1 as j r (i + 1) qs

def recsOk (as : List Nat) : Nat → List Rec → Bool
  | _, [] => true
  | j, r :: rs => recsOk1 as j r (j + 1) rs && recsOk as (j + 1) rs

/-- A region with a drawn order: as it stands in the text; in the end what was done must be in order by the region's edges. -/
def execR (E : Env) : AItems → {R : Type} → Array Oper → List Oper → List (Nat × Bool) → List Rec → St → (St → Option R) → Option R
  | .nil, _, all, [], _, log, st, k => cond (recsOk (ancs all.toList []) 0 log) (k st) none
  | .op an rest, _, all, o :: os, sat, log, st, k =>
    match o.guard with
    | none => (opQ E an o.op (E.eval st.fr) st.next).runL (look st.store) [] fun v d l => execR E rest all os sat (log ++ [⟨l, d.map (·.1)⟩]) (st.put o.dst v d) k
    | some g => guardQ sat g (st.fr.getD (guardSlot all g.1) .undef)
        ((opQ E an o.op (E.eval st.fr) st.next).runL (look st.store) [] fun v d l => execR E rest all os sat (log ++ [⟨l, d.map (·.1)⟩]) (st.put o.dst v d) k)
        (execR E rest all os sat (log ++ [⟨[], []⟩]) (st.put o.dst (.tup []) []) k)
  | .gd a b, _, all, o :: os, sat, log, st, k =>
    match o.guard with
    | some g => asBool (st.fr.getD (guardSlot all g.1) .undef) fun t => cond t (execR E a all (o :: os) ((g.1, true) :: sat) log (st.setS (guardSlot all g.1) (.bool true)) k) (execR E b all (o :: os) ((g.1, false) :: sat) log (st.setS (guardSlot all g.1) (.bool false)) k)
    | none => none
  | _, _, _, _, _, _, _, _ => none

mutual
def exec (E : Env) (fuel : Nat) : ACode → {R : Type} → Code → Conts R → St → Option R
  | .u, _, .skip, K, st => K.norm st
  | .u, _, .exit id, K, st => goExit K.exits id st
  | .u, _, .ret, K, st => K.ret st
  | .reg items, _, .region _ ops draw, K, st => cond draw (execR E items ops ops.toList [] [] st K.norm) (execI E fuel items ops ops.toList [] K.norm st)
  | .seq a b, _, .seq c d, K, st => exec E fuel a c { K with norm := fun st' => exec E fuel b d K st' } st
  | .cond a b, _, .cond x c d, K, st => asBool (E.eval st.fr x) fun t => _root_.cond t (exec E fuel a c K st) (exec E fuel b d K st)
  | .block a, _, .block id c, K, st => exec E fuel a c { K with exits := (id, K.norm) :: K.exits } st
  | .loop s a, _, .loop c, K, st => match getX st s with
    | some (x0, ids) => cond (covered st s) (iterT fuel (fun self x => exec E fuel a c (loopK s (st.ctx s ids) K self) (putX (st.ctx s ids) s x |>.beyond s)) x0) none
    | none => none
  | .unr a b, _, .loop c, K, st => exec E fuel a c { K with norm := fun st' => exec E fuel b (.loop c) K st' } st
  | .join s ids a, _, c, K, st =>
    (exec E fuel a c (joinK s ids st K) st).bind fun y => match y with
      | .inl x => K.norm (putX (st.ctx s ids) s x |>.beyond s)
      | .inr r => some r
  | .case s n a b, _, c, K, st => match st.fr.getD s .undef with
    | .int k m => _root_.cond (m == n) (exec E fuel a c K (st.setS s (.int k n))) (exec E fuel b c K st)
    | _ => none
  | .fzs s a, _, c, K, st => match st.fr.getD s .undef with
    | .own id => match look st.store id with
      | some (.row _ t xs) => exec E fuel a c K { st with fr := st.fr.set s (.ro 0 t xs), store := (id, none) :: st.store, dirty := id :: st.dirty }
      | _ => none
    | _ => none
  | _, _, _, _, _ => none
def execI (E : Env) (fuel : Nat) : AItems → {R : Type} → Array Oper → List Oper → List (Nat × Bool) → (St → Option R) → St → Option R
  | .nil, _, _, [], _, k, st => k st
  | .op an rest, _, all, o :: os, sat, k, st =>
    match o.guard with
    | none => (opQ E an o.op (E.eval st.fr) st.next).run (look st.store) fun v d => execI E fuel rest all os sat k (st.put o.dst v d)
    | some g => guardQ sat g (st.fr.getD (guardSlot all g.1) .undef)
        ((opQ E an o.op (E.eval st.fr) st.next).run (look st.store) fun v d => execI E fuel rest all os sat k (st.put o.dst v d))
        (execI E fuel rest all os sat k (st.put o.dst (.tup []) []))
  | .andor n sub rest, _, all, os, sat, k, st =>
    match os.head? with
    | some o => match o.guard with
      | some g => match os[n]? with
        | some p => match pickSlot p.op with
          | some r => asBool (st.fr.getD (guardSlot all g.1) .undef) fun b =>
              (gcond g.2 b (execI E fuel sub (R := Bool) all (os.take n) (g :: sat) (fun st' => cond (clean st st' []) (asBool (st'.fr.getD r .undef) some) none) st) (some (!g.2))).bind fun v =>
                execI E fuel rest all (os.drop (n + 1)) sat k { st with fr := (match p.dst with | some t => (maskAll st.fr (dsts (os.take n))).set t (.bool v) | none => maskAll st.fr (dsts (os.take n))) }
          | none => none
        | none => none
      | none => none
    | none => none
  | .icall j body rest, _, all, o :: os, sat, k, st =>
    match o.guard with
    | none => (match o.op, E.fns[j]? with
      | .call { callee := .value f, args, .. }, some (id, fn) => match E.eval st.fr f, fn.body with
        | .fn g caps, some c =>
          let back := fun (st' : St) => match resultsOf st' fn.results.toList with
            | some vs => execI E fuel rest all os sat k (St.put { st' with fr := st'.fs.headD [], fs := st'.fs.tail } o.dst (tupOf vs) [])
            | none => none
          cond (Nat.beq g id && Nat.ble (args.size + caps.length) fn.ntmps) (exec E fuel body c { norm := back, ret := back, exits := [] }
            { st with fr := args.toList.map (E.eval st.fr) ++ caps ++ List.replicate (fn.ntmps - (args.size + caps.length)) .undef, fs := st.fr :: st.fs }) none
        | _, _ => none
      | _, _ => none)
    | some gd => guardQ sat gd (st.fr.getD (guardSlot all gd.1) .undef)
      (match o.op, E.fns[j]? with
      | .call { callee := .value f, args, .. }, some (id, fn) => match E.eval st.fr f, fn.body with
        | .fn g caps, some c =>
          let back := fun (st' : St) => match resultsOf st' fn.results.toList with
            | some vs => execI E fuel rest all os sat k (St.put { st' with fr := st'.fs.headD [], fs := st'.fs.tail } o.dst (tupOf vs) [])
            | none => none
          cond (Nat.beq g id && Nat.ble (args.size + caps.length) fn.ntmps) (exec E fuel body c { norm := back, ret := back, exits := [] }
            { st with fr := args.toList.map (E.eval st.fr) ++ caps ++ List.replicate (fn.ntmps - (args.size + caps.length)) .undef, fs := st.fr :: st.fs }) none
        | _, _ => none
      | _, _ => none)
      (execI E fuel rest all os sat k (st.put o.dst (.tup []) []))
  | .gd a b, _, all, o :: os, sat, k, st =>
    match o.guard with
    | some g => asBool (st.fr.getD (guardSlot all g.1) .undef) fun t => cond t (execI E fuel a all (o :: os) ((g.1, true) :: sat) k (st.setS (guardSlot all g.1) (.bool true))) (execI E fuel b all (o :: os) ((g.1, false) :: sat) k (st.setS (guardSlot all g.1) (.bool false)))
    | none => none
  | .ijoin n s ids sub rest, _, all, os, sat, k, st =>
    (execI E fuel sub (R := s.X) all (os.take n) sat (joinE s ids st) st).bind fun x => execI E fuel rest all (os.drop n) sat k (putX (st.ctx s ids) s x |>.beyond s)
  | _, _, _, _, _, _, _ => none
end

/-! ### A function -/

def argsOf (n : Nat) : (ats : List PTy) → DatPs ats → List AV × List (Nat × Option Blk)
  | [], _ => ([], [])
  | [p], x => match argOf p x n with
    | (v, d) => ([v], d)
  | p :: q :: ps, x => match argOf p x.1 n with
    | (v, d) => match argsOf (n + 1) (q :: ps) x.2 with
      | (vs, ds) => (v :: vs, d ++ ds)

/-- A result as data; the rows' numbers; the element types that are left. -/
def resS (st : St) : (t : Ty) → List TypeId → List AV → Option (Dat t × List Nat × List TypeId)
  | .int k, es, [.int k' n] => if k' = k then some (n, [], es) else none
  | .bool, es, [.bool b] => some (b, [], es)
  | .flt, es, [.flt n] => some (n, [], es)
  | .str, es, [.str s] => some (s, [], es)
  | .slice t, e :: es, [v] => match rowAt st e t v with
    | some (xs, id) => some (xs, id.toList, es)
    | none => none
  | .err, es, [.errv b] => some (b, [], es)
  | .nsl t, es, [v] => match dec (.nsl t) [v] with
    | some xs => some (xs, [], es)
    | none => none
  | .pair a b, es, cs => match resS st a es (cs.take a.sz) with
    | some (x, i1, es1) => match resS st b es1 (cs.drop a.sz) with
      | some (y, i2, es2) => some ((x, y), i1 ++ i2, es2)
      | none => none
    | none => none
  | .unit, es, [] => some ((), [], es)
  | _, _, _ => none

def resO (st : St) (r : RTy) (v : AV) : Option (Dat r.t × List Nat) := cond (r.agg == v.isAgg) (match resS st r.t r.es v.cells with
  | some (x, ids, []) => some (x, ids)
  | _ => none) none

def resR (st : St) : (rts : List RTy) → List AV → Option (DatRs rts × List Nat)
  | [], [] => some ((), [])
  | [r], [v] => resO st r v
  | r :: q :: rs, v :: vs => match resO st r v with
    | some (x, ids) => match resR st (q :: rs) vs with
      | some (y, ids') => some ((x, y), ids ++ ids')
      | none => none
    | none => none
  | _, _ => none

def finish (fn : Func) (rts : List RTy) (st : St) : Option (DatRs rts) :=
  match resultsOf st fn.results.toList with
  | some vs => match resR st rts vs with
    | some (x, ids) => cond (distinct ids) (some x) none
    | none => none
  | none => none

def evalFn (E : Env) (fuel : Nat) (fn : Func) (a : ACode) (ats : List PTy) (rts : List RTy) (x : DatPs ats) : Option (DatRs rts) :=
  match fn.body with
  | some c => match argsOf 0 ats x with
    | (vs, d) => exec E fuel a c { norm := finish fn rts, ret := finish fn rts, exits := [] }
        { fr := vs ++ List.replicate (fn.ntmps - vs.length) .undef, fs := [], store := d, next := vs.length, dirty := [] }
  | none => none

end Go.R

/- What the evaluator's values and blocks stand for in the model's memory. -/
namespace Go.R
open Go

abbrev Mem := Nat → Nat → Option Value
/-- The cells of M are in w; of a block all or none. -/
def MemOk (M : Mem) (w : World) : Prop := ∀ b o v, M b o = some v → ∀ o', w.cell? ⟨b, o', none⟩ = M b o'
theorem MemOk.at {M : Mem} {w : World} (h : MemOk M w) {b o : Nat} {v : Value} (hv : M b o = some v) : w.cell? ⟨b, o, none⟩ = some v := (h b o v hv o).trans hv
/-- More is known; of a block that was known nothing more. -/
def Mem.le (M M' : Mem) : Prop := ∀ b o v, M b o = some v → ∀ o', M' b o' = M b o'
theorem Mem.le.at {M M' : Mem} (h : M.le M') {b o : Nat} {v : Value} (hv : M b o = some v) : M' b o = some v := (h b o v hv o).trans hv
theorem Mem.le_refl (M : Mem) : M.le M := fun _ _ _ _ _ => rfl
theorem Mem.le_trans {M M' M'' : Mem} (h : M.le M') (h' : M'.le M'') : M.le M'' := fun b o v x o' => (h' b o v (h.at x) o').trans (h b o v x o')

/-- Cells that stand for a datum. -/
def RepS (M : Mem) : (t : Ty) → Dat t → List Value → Prop
  | .int k, n, vs => vs = [.int k n]
  | .bool, b, vs => vs = [.bool b]
  | .flt, n, vs => vs = [.float .f64 n]
  | .str, s, vs => vs = [.string s]
  | .err, b, vs => (b = false → vs = [.nilIface]) ∧ (b = true → ∃ t p, vs = [.iface t p])
  | .slice t, xs, vs => ∃ A c, vs = [.slice A (List.length xs) c] ∧ (List.length xs ≤ c ∧ (A = none → c = 0)) ∧
      ∀ (i : Nat) (x : Dat t), (xs : List (Dat t))[i]? = some x → ∃ (ad : Addr) (cs : List Value), A = some ad ∧ ad.spot = none ∧ RepS M t x cs ∧
        ∀ (j : Nat) (u : Value), cs[j]? = some u → M ad.block (ad.off + (i * t.sz + j)) = some u
  | .nsl t, xs, vs => (xs = [] → vs = [.slice none 0 0]) ∧ ∃ A c, vs = [.slice A (List.length xs) c] ∧ (List.length xs ≤ c ∧ (A = none → c = 0)) ∧
      ∀ (i : Nat) (x : Dat t), (xs : List (Dat t))[i]? = some x → ∃ (ad : Addr) (cs : List Value), A = some ad ∧ ad.spot = none ∧ RepS M t x cs ∧
        ∀ (j : Nat) (u : Value), cs[j]? = some u → M ad.block (ad.off + (i * t.sz + j)) = some u
  | .pair a b, p, vs => ∃ v1 v2, vs = v1 ++ v2 ∧ RepS M a p.1 v1 ∧ RepS M b p.2 v2
  | .unit, _, vs => vs = []

theorem RepS.err {M : Mem} {b : Bool} {vs : List Value} : RepS M .err b vs ↔ vs = [.nilIface] ∧ b = false ∨ (∃ t p, vs = [.iface t p]) ∧ b = true := by
  simp only [RepS]
  cases b <;> simp

theorem RepS.nsl {M : Mem} {t : Ty} {xs : List (Dat t)} {vs : List Value} : RepS M (.nsl t) xs vs ↔ (xs = [] → vs = [.slice none 0 0]) ∧ RepS M (.slice t) xs vs := by
  simp only [RepS]

theorem RepS.len {M : Mem} : {t : Ty} → {x : Dat t} → {vs : List Value} → RepS M t x vs → vs.length = t.sz
  | .int _, _, _, h => by simp only [RepS] at h; subst h; rfl
  | .bool, _, _, h => by simp only [RepS] at h; subst h; rfl
  | .flt, _, _, h => by simp only [RepS] at h; subst h; rfl
  | .str, _, _, h => by simp only [RepS] at h; subst h; rfl
  | .slice _, _, _, h => by simp only [RepS] at h; obtain ⟨A, c, rfl, _⟩ := h; rfl
  | .nsl _, _, _, h => by simp only [RepS] at h; obtain ⟨_, A, c, rfl, _⟩ := h; rfl
  | .err, _, _, h => by rcases RepS.err.1 h with ⟨rfl, _⟩ | ⟨⟨t, p, rfl⟩, _⟩ <;> rfl
  | .pair a b, p, vs, h => by
    simp only [RepS] at h
    obtain ⟨v1, v2, rfl, h1, h2⟩ := h
    simp [Ty.sz, RepS.len h1, RepS.len h2]
  | .unit, _, _, h => by simp only [RepS] at h; subst h; rfl

theorem RepS.mono {M M' : Mem} (hM : M.le M') : {t : Ty} → {x : Dat t} → {vs : List Value} → RepS M t x vs → RepS M' t x vs
  | .int _, _, _, h => h
  | .bool, _, _, h => h
  | .flt, _, _, h => h
  | .err, _, _, h => h
  | .str, _, _, h => h
  | .slice t, xs, vs, h => by
    simp only [RepS] at h ⊢
    obtain ⟨A, c, h1, h2, h3⟩ := h
    refine ⟨A, c, h1, h2, fun i x hx => ?_⟩
    obtain ⟨ad, cs, e, hs, hr, hc⟩ := h3 i x hx
    exact ⟨ad, cs, e, hs, RepS.mono hM hr, fun j u hu => hM.at (hc j u hu)⟩
  | .nsl t, xs, vs, h => by
    simp only [RepS] at h ⊢
    obtain ⟨h0, A, c, h1, h2, h3⟩ := h
    refine ⟨h0, A, c, h1, h2, fun i x hx => ?_⟩
    obtain ⟨ad, cs, e, hs, hr, hc⟩ := h3 i x hx
    exact ⟨ad, cs, e, hs, RepS.mono hM hr, fun j u hu => hM.at (hc j u hu)⟩
  | .pair a b, p, vs, h => by
    simp only [RepS] at h ⊢
    obtain ⟨v1, v2, e, h1, h2⟩ := h
    exact ⟨v1, v2, e, RepS.mono hM h1, RepS.mono hM h2⟩
  | .unit, _, _, h => h

theorem RepS.one {M : Mem} : {t : Ty} → {x : Dat t} → {vs : List Value} → RepS M t x vs → ∀ u ∈ vs, u.oneCell' = true
  | .int _, _, _, h => by simp only [RepS] at h; subst h; simp [Value.oneCell']
  | .bool, _, _, h => by simp only [RepS] at h; subst h; simp [Value.oneCell']
  | .flt, _, _, h => by simp only [RepS] at h; subst h; simp [Value.oneCell']
  | .str, _, _, h => by simp only [RepS] at h; subst h; simp [Value.oneCell']
  | .slice _, _, _, h => by simp only [RepS] at h; obtain ⟨A, c, rfl, _⟩ := h; simp [Value.oneCell']
  | .nsl _, _, _, h => by simp only [RepS] at h; obtain ⟨_, A, c, rfl, _⟩ := h; simp [Value.oneCell']
  | .err, _, _, h => by rcases RepS.err.1 h with ⟨rfl, _⟩ | ⟨⟨t, p, rfl⟩, _⟩ <;> simp [Value.oneCell']
  | .pair a b, p, vs, h => by
    simp only [RepS] at h
    obtain ⟨v1, v2, rfl, h1, h2⟩ := h
    intro u hu
    rcases List.mem_append.1 hu with hu | hu
    · exact RepS.one h1 u hu
    · exact RepS.one h2 u hu
  | .unit, _, _, h => by simp only [RepS] at h; subst h; simp

/-- How many elements a view shows. -/
def vlen (n lo : Nat) : Option Nat → Nat
  | none => n - lo
  | some h => h - lo

def inView (n lo : Nat) : Option Nat → Prop
  | none => lo ≤ n
  | some h => lo ≤ h ∧ h ≤ n

theorem vlen_end {n lo : Nat} {hi : Option Nat} (h : inView n lo hi) (e : lo = n) : vlen n lo hi = 0 := by
  cases hi <;> simp only [vlen, inView] at * <;> omega

theorem view_length {α : Type} (xs : List α) (lo : Nat) (hi : Option Nat) (h : inView xs.length lo hi) : (view xs lo hi).length = vlen xs.length lo hi := by
  cases hi with
  | none => simp [view, vlen]
  | some b => simp only [inView] at h; simp [view, vlen]; omega

theorem view_get {α : Type} (xs : List α) (lo : Nat) (hi : Option Nat) (i : Nat) (x : α) (h : (view xs lo hi)[i]? = some x) : xs[lo + i]? = some x := by
  cases hi with
  | none => simpa [view] using h
  | some b =>
    simp only [view, List.getElem?_drop, List.getElem?_take] at h
    split at h
    · exact h
    · cases h

/-- Blocks' places: block, capacity. -/
abbrev Places := Nat → Option (Nat × Nat)
abbrev Blks := Nat → Option Blk

def OwnV (ρ : Places) (L : Blks) (id lo : Nat) (hi : Option Nat) (v : Value) : Prop :=
  match L id with
  | some (.row _ t xs) => ∃ A c, v = .slice A (vlen (List.length xs) lo hi) c ∧ inView (List.length xs) lo hi ∧
      ((c = 0 ∧ lo = List.length xs) ∨ ∃ g cap, ρ id = some (g, cap) ∧ A = some ⟨g, lo * t.sz, none⟩ ∧ lo + c = cap)
  | some (.box _ _) => False
  | none => ∃ A l c, v = .slice A l c

def PtrV (ρ : Places) (L : Blks) (id i j : Nat) (v : Value) : Prop :=
  match L id with
  | some (.row _ t xs) => ∃ g cap, ρ id = some (g, cap) ∧ i < List.length xs ∧ v = .pointer (some ⟨g, i * t.sz + j, none⟩)
  | some (.box _ _) => ∃ g cap, ρ id = some (g, cap) ∧ i = 0 ∧ v = .pointer (some ⟨g, j, none⟩)
  | none => ∃ b o, v = .pointer (some ⟨b, o, none⟩)

/-- A row that is nil where it is empty. -/
def NilX (L : Blks) (id : Nat) (v : Value) : Prop := ∀ e t, L id = some (.row e t []) → v = .slice none 0 0

theorem OwnV.form {ρ : Places} {L : Blks} {id lo : Nat} {hi : Option Nat} {v : Value} (h : OwnV ρ L id lo hi v) : ∃ A l c, v = .slice A l c := by
  unfold OwnV at h
  split at h
  · obtain ⟨A, c, rfl, _⟩ := h; exact ⟨_, _, _, rfl⟩
  · exact h.elim
  · exact h

theorem PtrV.form {ρ : Places} {L : Blks} {id i j : Nat} {v : Value} (h : PtrV ρ L id i j v) : ∃ b o, v = .pointer (some ⟨b, o, none⟩) := by
  unfold PtrV at h
  split at h
  · obtain ⟨g, c, _, _, rfl⟩ := h; exact ⟨_, _, rfl⟩
  · obtain ⟨g, c, _, _, rfl⟩ := h; exact ⟨_, _, rfl⟩
  · exact h

mutual
def Rep (M : Mem) (ρ : Places) (L : Blks) : AV → Value → Prop
  | .undef, _ => True
  | .int k n, v => v = .int k n
  | .bool b, v => v = .bool b
  | .flt n, v => v = .float .f64 n
  | .str s, v => v = .string s
  | .errv b, v => (b = false → v = .nilIface) ∧ (b = true → ∃ t p, v = .iface t p)
  | .nils, v => v = .slice none 0 0
  | .emp, v => ∃ A, v = .slice A 0 0
  | .nilp, v => v = .pointer none
  | .ro nn t xs, v => RepS M (.slice t) xs [v] ∧ (nn = 1 → ∀ l c, v ≠ .slice none l c) ∧ (nn = 2 → ∃ A n, v = .slice A n n) ∧ (nn = 3 → xs = [] → v = .slice none 0 0)
  | .own id, v => OwnV ρ L id 0 none v
  | .ownn id, v => OwnV ρ L id 0 none v ∧ NilX L id v
  | .ownv id lo hi, v => OwnV ρ L id lo hi v
  | .ptr id i j, v => PtrV ρ L id i j v
  | .rptr cs, v => ∃ (ad : Addr) (us : List Value), v = .pointer (some ad) ∧ ad.spot = none ∧ RepL M ρ L cs us ∧ ∀ (j : Nat) (u : Value), us[j]? = some u → M ad.block (ad.off + j) = some u
  | .var p cs, v => v = p ∧ (cs = [] ∨ ∃ (ad : Addr) (us : List Value), v = .pointer (some ad) ∧ ad.spot = none ∧ RepL M ρ L cs us ∧ ∀ (j : Nat) (u : Value), us[j]? = some u → M ad.block (ad.off + j) = some u)
  | .agg cs, v => ∃ us : Array Value, v = .agg us ∧ RepL M ρ L cs us.toList
  | .tup vs, v => ∃ us : Array Value, v = .tuple us ∧ RepL M ρ L vs us.toList
  | .fn f caps, v => ∃ us : Array Value, v = .func (.func f) #[] us ∧ RepL M ρ L caps us.toList
def RepL (M : Mem) (ρ : Places) (L : Blks) : List AV → List Value → Prop
  | [], vs => vs = []
  | a :: as, vs => ∃ v r, vs = v :: r ∧ Rep M ρ L a v ∧ RepL M ρ L as r
end

mutual
/-- The blocks that a value names are among G. -/
def Bd (G : Nat → Prop) : AV → Prop
  | .own id => G id
  | .ownn id => G id
  | .ownv id _ _ => G id
  | .ptr id _ _ => G id
  | .rptr cs => BdL G cs
  | .var _ cs => BdL G cs
  | .agg cs => BdL G cs
  | .tup vs => BdL G vs
  | .fn _ caps => BdL G caps
  | _ => True
def BdL (G : Nat → Prop) : List AV → Prop
  | [] => True
  | a :: as => Bd G a ∧ BdL G as
end

def Alike : Option Blk → Option Blk → Prop
  | some (.row _ t xs), some (.row _ t' xs') => t = t' ∧ List.length xs = List.length xs'
  | some (.box _ _), some (.box _ _) => True
  | _, _ => False

theorem Alike.refl {b : Blk} : Alike (some b) (some b) := by cases b <;> simp [Alike]

/-- What was told of the blocks of G still holds, or they are gone. -/
def Still (G : Nat → Prop) (ρ : Places) (L : Blks) (ρ' : Places) (L' : Blks) : Prop := ∀ id, G id → L' id = none ∨ (Alike (L id) (L' id) ∧ ρ' id = ρ id)

theorem OwnV.still {G : Nat → Prop} {ρ ρ' : Places} {L L' : Blks} (h : Still G ρ L ρ' L') {id lo : Nat} {hi : Option Nat} {v : Value} (hg : G id) (hv : OwnV ρ L id lo hi v) : OwnV ρ' L' id lo hi v := by
  rcases h id hg with h0 | ⟨ha, hr⟩
  · have := hv.form; simpa [OwnV, h0] using this
  · unfold OwnV at hv ⊢
    cases h1 : L id with
    | none => simp [h1, Alike] at ha
    | some b =>
      cases h2 : L' id with
      | none => rw [h1, h2] at ha; simp [Alike] at ha
      | some b' =>
        rw [h1, h2] at ha
        cases b with
        | row e t xs =>
          cases b' with
          | row e' t' xs' =>
            simp only [Alike] at ha
            obtain ⟨rfl, hl⟩ := ha
            simp only [h1] at hv
            simp only [hr, ← hl]
            exact hv
          | box _ _ => simp [Alike] at ha
        | box _ _ => simp [h1] at hv

theorem NilX.still {G : Nat → Prop} {ρ ρ' : Places} {L L' : Blks} (h : Still G ρ L ρ' L') {id : Nat} {v : Value} (hg : G id) (hv : NilX L id v) : NilX L' id v := fun e t hl => by
  rcases h id hg with h0 | ⟨ha, _⟩
  · rw [h0] at hl; cases hl
  · rw [hl] at ha
    cases h1 : L id with
    | none => simp [h1, Alike] at ha
    | some b =>
      cases b with
      | row e' t' xs =>
        rw [h1] at ha
        simp only [Alike] at ha
        obtain ⟨rfl, hlen⟩ := ha
        obtain rfl : xs = [] := List.eq_nil_of_length_eq_zero (by simpa using hlen)
        exact hv e' _ h1
      | box _ _ => simp [h1, Alike] at ha

theorem PtrV.still {G : Nat → Prop} {ρ ρ' : Places} {L L' : Blks} (h : Still G ρ L ρ' L') {id i j : Nat} {v : Value} (hg : G id) (hv : PtrV ρ L id i j v) : PtrV ρ' L' id i j v := by
  rcases h id hg with h0 | ⟨ha, hr⟩
  · have := hv.form; simpa [PtrV, h0] using this
  · unfold PtrV at hv ⊢
    cases h1 : L id with
    | none => simp [h1, Alike] at ha
    | some b =>
      cases h2 : L' id with
      | none => rw [h1, h2] at ha; simp [Alike] at ha
      | some b' =>
        rw [h1, h2] at ha
        cases b with
        | row e t xs =>
          cases b' with
          | row e' t' xs' =>
            simp only [Alike] at ha
            obtain ⟨rfl, hl⟩ := ha
            simp only [h1] at hv
            simp only [hr, ← hl]
            exact hv
          | box _ _ => simp [Alike] at ha
        | box _ _ =>
          cases b' with
          | row _ _ _ => simp [Alike] at ha
          | box _ _ => simp only [h1] at hv; simp only [hr]; exact hv

mutual
theorem Rep.mono {M M' : Mem} {G : Nat → Prop} {ρ ρ' : Places} {L L' : Blks} (hM : M.le M') (h : Still G ρ L ρ' L') : (a : AV) → (v : Value) → Bd G a → Rep M ρ L a v → Rep M' ρ' L' a v
  | .undef, _, _, _ => by simp [Rep]
  | .int _ _, _, _, r => by simpa [Rep] using r
  | .bool _, _, _, r => by simpa [Rep] using r
  | .flt _, _, _, r => by simpa [Rep] using r
  | .str _, _, _, r => by simpa [Rep] using r
  | .errv _, _, _, r => by simpa only [Rep] using r
  | .nils, _, _, r => by simpa [Rep] using r
  | .emp, _, _, r => by simpa [Rep] using r
  | .nilp, _, _, r => by simpa [Rep] using r
  | .ro nn t xs, v, _, r => by simp only [Rep] at r ⊢; exact ⟨RepS.mono hM r.1, r.2⟩
  | .own id, v, b, r => by simp only [Rep, Bd] at *; exact r.still h b
  | .ownn id, v, b, r => by simp only [Rep, Bd] at *; exact ⟨r.1.still h b, r.2.still h b⟩
  | .ownv id lo hi, v, b, r => by simp only [Rep, Bd] at *; exact r.still h b
  | .ptr id i j, v, b, r => by simp only [Rep, Bd] at *; exact r.still h b
  | .rptr cs, v, b, r => by
    simp only [Rep, Bd] at *
    obtain ⟨ad, us, e, hs, hr, hc⟩ := r
    exact ⟨ad, us, e, hs, RepL.mono hM h cs us b hr, fun j u hu => hM.at (hc j u hu)⟩
  | .var p cs, v, b, r => by
    simp only [Rep, Bd] at *
    refine ⟨r.1, r.2.imp (fun h => h) fun ⟨ad, us, e, hs, hr, hc⟩ => ⟨ad, us, e, hs, RepL.mono hM h cs us b hr, fun j u hu => hM.at (hc j u hu)⟩⟩
  | .agg cs, v, b, r => by
    simp only [Rep, Bd] at *
    obtain ⟨us, e, hr⟩ := r
    exact ⟨us, e, RepL.mono hM h cs _ b hr⟩
  | .tup vs, v, b, r => by
    simp only [Rep, Bd] at *
    obtain ⟨us, e, hr⟩ := r
    exact ⟨us, e, RepL.mono hM h vs _ b hr⟩
  | .fn f caps, v, b, r => by
    simp only [Rep, Bd] at *
    obtain ⟨us, e, hr⟩ := r
    exact ⟨us, e, RepL.mono hM h caps _ b hr⟩
theorem RepL.mono {M M' : Mem} {G : Nat → Prop} {ρ ρ' : Places} {L L' : Blks} (hM : M.le M') (h : Still G ρ L ρ' L') : (as : List AV) → (vs : List Value) → BdL G as → RepL M ρ L as vs → RepL M' ρ' L' as vs
  | [], _, _, r => by simpa [RepL] using r
  | a :: as, vs, b, r => by
    simp only [RepL, BdL] at *
    obtain ⟨v, r', e, h1, h2⟩ := r
    exact ⟨v, r', e, Rep.mono hM h a v b.1 h1, RepL.mono hM h as r' b.2 h2⟩
end

mutual
theorem Bd.mono {G G' : Nat → Prop} (h : ∀ i, G i → G' i) : (a : AV) → Bd G a → Bd G' a
  | .own _, b => by simp only [Bd] at *; exact h _ b
  | .ownn _, b => by simp only [Bd] at *; exact h _ b
  | .ownv _ _ _, b => by simp only [Bd] at *; exact h _ b
  | .ptr _ _ _, b => by simp only [Bd] at *; exact h _ b
  | .rptr cs, b => by simp only [Bd] at *; exact BdL.mono h cs b
  | .var _ cs, b => by simp only [Bd] at *; exact BdL.mono h cs b
  | .agg cs, b => by simp only [Bd] at *; exact BdL.mono h cs b
  | .tup vs, b => by simp only [Bd] at *; exact BdL.mono h vs b
  | .fn _ caps, b => by simp only [Bd] at *; exact BdL.mono h caps b
  | .undef, _ | .int _ _, _ | .bool _, _ | .str _, _ | .nils, _ | .emp, _ | .nilp, _ | .ro _ _ _, _ | .errv _, _ | .flt _, _ => by simp [Bd]
theorem BdL.mono {G G' : Nat → Prop} (h : ∀ i, G i → G' i) : (as : List AV) → BdL G as → BdL G' as
  | [], _ => by simp [BdL]
  | a :: as, b => by simp only [BdL] at *; exact ⟨Bd.mono h a b.1, BdL.mono h as b.2⟩
end

theorem RepL.length {M : Mem} {ρ : Places} {L : Blks} : {as : List AV} → {vs : List Value} → RepL M ρ L as vs → vs.length = as.length
  | [], _, r => by simp only [RepL] at r; subst r; rfl
  | _ :: as, _, r => by simp only [RepL] at r; obtain ⟨v, r', rfl, _, h⟩ := r; simp [RepL.length h]

theorem RepL.get {M : Mem} {ρ : Places} {L : Blks} : {as : List AV} → {vs : List Value} → RepL M ρ L as vs → ∀ {i : Nat} {a : AV}, as[i]? = some a → ∃ v, vs[i]? = some v ∧ Rep M ρ L a v
  | [], _, _, i, a, h => by simp at h
  | b :: as, vs, r, i, a, h => by
    simp only [RepL] at r
    obtain ⟨v, r', rfl, h1, h2⟩ := r
    cases i with
    | zero => simp at h; subst h; exact ⟨v, by simp, h1⟩
    | succ i => simp at h; obtain ⟨u, hu, hr⟩ := RepL.get h2 h; exact ⟨u, by simpa using hu, hr⟩

theorem RepL.get' {M : Mem} {ρ : Places} {L : Blks} : {as : List AV} → {vs : List Value} → RepL M ρ L as vs → ∀ {i : Nat} {v : Value}, vs[i]? = some v → ∃ a, as[i]? = some a ∧ Rep M ρ L a v
  | [], vs, r, i, v, h => by simp only [RepL] at r; subst r; simp at h
  | b :: as, vs, r, i, v, h => by
    simp only [RepL] at r
    obtain ⟨u, r', rfl, h1, h2⟩ := r
    cases i with
    | zero => simp at h; subst h; exact ⟨b, by simp, h1⟩
    | succ i => simp at h; obtain ⟨a, ha, hr⟩ := RepL.get' h2 h; exact ⟨a, by simpa using ha, hr⟩

theorem RepL.set {M : Mem} {ρ : Places} {L : Blks} : {as : List AV} → {vs : List Value} → RepL M ρ L as vs → ∀ (i : Nat) {a : AV} {v : Value}, Rep M ρ L a v → RepL M ρ L (as.set i a) (vs.set i v)
  | [], _, r, i, a, v, _ => by simp only [RepL] at r; subst r; simp [RepL]
  | b :: as, vs, r, i, a, v, h => by
    simp only [RepL] at r
    obtain ⟨u, r', rfl, h1, h2⟩ := r
    cases i with
    | zero => simp only [List.set_cons_zero, RepL]; exact ⟨_, _, rfl, h, h2⟩
    | succ i => simp only [List.set_cons_succ, RepL]; exact ⟨_, _, rfl, h1, RepL.set h2 i h⟩

theorem RepL.append {M : Mem} {ρ : Places} {L : Blks} : {as bs : List AV} → {vs us : List Value} → RepL M ρ L as vs → RepL M ρ L bs us → RepL M ρ L (as ++ bs) (vs ++ us)
  | [], bs, vs, us, r, h => by simp only [RepL] at r; subst r; simpa using h
  | a :: as, bs, vs, us, r, h => by
    simp only [RepL] at r
    obtain ⟨u, r', rfl, h1, h2⟩ := r
    simp only [List.cons_append, RepL]
    exact ⟨_, _, rfl, h1, RepL.append h2 h⟩

theorem RepL.take {M : Mem} {ρ : Places} {L : Blks} : {as : List AV} → {vs : List Value} → RepL M ρ L as vs → ∀ n, RepL M ρ L (as.take n) (vs.take n)
  | [], _, r, n => by simp only [RepL] at r; subst r; simp [RepL]
  | a :: as, vs, r, n => by
    simp only [RepL] at r
    obtain ⟨u, r', rfl, h1, h2⟩ := r
    cases n with
    | zero => simp [RepL]
    | succ n => simp only [List.take_succ_cons, RepL]; exact ⟨_, _, rfl, h1, RepL.take h2 n⟩

theorem RepL.drop {M : Mem} {ρ : Places} {L : Blks} : {as : List AV} → {vs : List Value} → RepL M ρ L as vs → ∀ n, RepL M ρ L (as.drop n) (vs.drop n)
  | [], _, r, n => by simp only [RepL] at r; subst r; simp [RepL]
  | a :: as, vs, r, n => by
    simp only [RepL] at r
    obtain ⟨u, r', rfl, h1, h2⟩ := r
    cases n with
    | zero => simp only [List.drop_zero, RepL]; exact ⟨_, _, rfl, h1, h2⟩
    | succ n => simp only [List.drop_succ_cons]; exact RepL.drop h2 n

theorem RepL.splice {M : Mem} {ρ : Places} {L : Blks} {as bs : List AV} {vs us : List Value} (h : RepL M ρ L as vs) (g : RepL M ρ L bs us) (j : Nat) : RepL M ρ L (splice as j bs) (vs.take j ++ us ++ vs.drop (j + us.length)) := by
  unfold R.splice
  rw [g.length]
  exact ((h.take j).append g).append (h.drop _)

/-- A datum's cells as values. -/
theorem RepL.of_S {M : Mem} {ρ : Places} {L : Blks} : {t : Ty} → {x : Dat t} → {vs : List Value} → RepS M t x vs → RepL M ρ L (cellsOf t x) vs
  | .int _, _, _, h => by simp only [RepS] at h; subst h; simp [cellsOf, RepL, Rep]
  | .bool, _, _, h => by simp only [RepS] at h; subst h; simp [cellsOf, RepL, Rep]
  | .flt, _, _, h => by simp only [RepS] at h; subst h; simp [cellsOf, RepL, Rep]
  | .str, _, _, h => by simp only [RepS] at h; subst h; simp [cellsOf, RepL, Rep]
  | .slice t, xs, vs, h => by
    have h0 := h
    simp only [RepS] at h
    obtain ⟨A, c, rfl, _⟩ := h
    simp only [cellsOf, RepL, Rep]
    exact ⟨_, _, rfl, ⟨h0, by simp⟩, rfl⟩
  | .err, b, vs, h => by
    simp only [cellsOf, RepL, Rep]
    rcases RepS.err.1 h with ⟨rfl, rfl⟩ | ⟨⟨t, p, rfl⟩, rfl⟩
    · exact ⟨_, _, rfl, by simp, rfl⟩
    · exact ⟨_, _, rfl, by simp, rfl⟩
  | .nsl t, xs, vs, h => by
    obtain ⟨hn, h⟩ := RepS.nsl.1 h
    have h0 := h
    simp only [RepS] at h
    obtain ⟨A, c, rfl, _⟩ := h
    simp only [cellsOf, RepL, Rep]
    exact ⟨_, _, rfl, ⟨h0, by simp, by simp, fun _ e => by simpa using hn e⟩, rfl⟩
  | .pair a b, p, vs, h => by
    simp only [RepS] at h
    obtain ⟨v1, v2, rfl, h1, h2⟩ := h
    simp only [cellsOf]
    exact (RepL.of_S h1).append (RepL.of_S h2)
  | .unit, _, _, h => by simp only [RepS] at h; subst h; simp [cellsOf, RepL]

theorem BdL_cellsOf {G : Nat → Prop} : (t : Ty) → (x : Dat t) → BdL G (cellsOf t x)
  | .int _, _ => by simp [cellsOf, BdL, Bd]
  | .bool, _ => by simp [cellsOf, BdL, Bd]
  | .flt, _ => by simp [cellsOf, BdL, Bd]
  | .str, _ => by simp [cellsOf, BdL, Bd]
  | .slice _, _ => by simp [cellsOf, BdL, Bd]
  | .nsl _, _ => by simp [cellsOf, BdL, Bd]
  | .err, _ => by simp [cellsOf, BdL, Bd]
  | .pair a b, p => by
    simp only [cellsOf]
    have h1 := BdL_cellsOf (G := G) a p.1
    have h2 := BdL_cellsOf (G := G) b p.2
    generalize cellsOf a p.1 = l at *
    induction l with
    | nil => simpa using h2
    | cons x l ih => simp only [List.cons_append, BdL] at *; exact ⟨h1.1, ih h1.2⟩
  | .unit, _ => by simp [cellsOf, BdL]

theorem castS_self {t : Ty} (h : t = t) (xs : List (Dat t)) : castS h xs = xs := rfl

/-- What is read as data stands for the datum. -/
theorem RepS.of_dec {M : Mem} {ρ : Places} {L : Blks} : {t : Ty} → {cs : List AV} → {x : Dat t} → dec t cs = some x → ∀ {vs : List Value}, RepL M ρ L cs vs → RepS M t x vs
  | .int k, cs, x, h, vs, r => by
    match cs with
    | [] => simp [dec] at h
    | [v] =>
      cases v <;> simp [dec] at h
      obtain ⟨rfl, rfl⟩ := h
      simpa [RepL, Rep, RepS] using r
    | _ :: _ :: _ => simp [dec] at h
  | .bool, cs, x, h, vs, r => by
    match cs with
    | [] => simp [dec] at h
    | [v] =>
      cases v <;> simp [dec] at h
      subst h
      simpa [RepL, Rep, RepS] using r
    | _ :: _ :: _ => simp [dec] at h
  | .flt, cs, x, h, vs, r => by
    match cs with
    | [] => simp [dec] at h
    | [v] =>
      cases v <;> simp [dec] at h
      subst h
      simpa [RepL, Rep, RepS] using r
    | _ :: _ :: _ => simp [dec] at h
  | .str, cs, x, h, vs, r => by
    match cs with
    | [] => simp [dec] at h
    | [v] =>
      cases v <;> simp [dec] at h
      subst h
      simpa [RepL, Rep, RepS] using r
    | _ :: _ :: _ => simp [dec] at h
  | .slice t, cs, x, h, vs, r => by
    match cs with
    | [] => simp [dec] at h
    | [v] =>
      simp only [RepL] at r
      obtain ⟨v', _, rfl, r1, rfl⟩ := r
      cases v <;> simp [dec] at h
      case nils =>
        subst h
        simp only [Rep] at r1
        subst r1
        simp only [RepS]
        exact ⟨none, 0, rfl, ⟨Nat.le_refl _, fun _ => rfl⟩, by simp⟩
      case emp =>
        subst h
        simp only [Rep] at r1
        obtain ⟨A, rfl⟩ := r1
        simp only [RepS]
        exact ⟨A, 0, rfl, ⟨Nat.le_refl _, fun _ => rfl⟩, by simp⟩
      case ro nn u xs =>
        obtain ⟨rfl, h⟩ := h
        simp only [castS_self] at h
        subst h
        simp only [Rep] at r1
        exact r1.1
    | _ :: _ :: _ => simp [dec] at h
  | .err, cs, x, h, vs, r => by
    match cs with
    | [] => simp [dec] at h
    | [v] =>
      simp only [RepL] at r
      obtain ⟨v', _, rfl, r1, rfl⟩ := r
      cases v <;> simp [dec] at h
      subst h
      simp only [Rep] at r1
      simp only [RepS]
      exact ⟨fun e => by rw [r1.1 e], fun e => by obtain ⟨t, p, h⟩ := r1.2 e; exact ⟨t, p, by rw [h]⟩⟩
    | _ :: _ :: _ => simp [dec] at h
  | .nsl t, cs, x, h, vs, r => by
    match cs with
    | [] => simp [dec] at h
    | [v] =>
      simp only [RepL] at r
      obtain ⟨v', _, rfl, r1, rfl⟩ := r
      cases v <;> simp [dec] at h
      case nils =>
        subst h
        simp only [Rep] at r1
        subst r1
        simp only [RepS]
        exact ⟨fun _ => trivial, none, 0, rfl, ⟨Nat.le_refl _, fun _ => rfl⟩, by simp⟩
      case ro nn u xs =>
        obtain ⟨rfl, rfl, h⟩ := h
        simp only [castS_self] at h
        subst h
        simp only [Rep] at r1
        exact RepS.nsl.2 ⟨fun e => by rw [r1.2.2.2 trivial e], r1.1⟩
    | _ :: _ :: _ => simp [dec] at h
  | .pair a b, cs, x, h, vs, r => by
    simp only [dec, Option.bind_eq_some_iff] at h
    obtain ⟨y, h1, z, h2, h3⟩ := h
    cases h3
    simp only [RepS]
    exact ⟨vs.take a.sz, vs.drop a.sz, (List.take_append_drop _ _).symm, RepS.of_dec h1 (r.take _), RepS.of_dec h2 (r.drop _)⟩
  | .unit, cs, x, h, vs, r => by
    match cs with
    | [] => simpa [RepL, RepS] using r
    | _ :: _ => simp [dec] at h

end Go.R

/- The evaluator's state beside the model's world: the relation, and how it goes on. -/
namespace Go.R
open Go

/-- Where a call began: the world, the memory that was only read. -/
structure Start extends World where
  m : Mem
  ds : List Deferred := []

/-- How the draws went on. -/
def DrawLe (a b : Nat) : Prop := a ≤ b
theorem DrawLe.of {a b : Nat} (h : a ≤ b) : DrawLe a b := h
theorem DrawLe.refl (a : Nat) : DrawLe a a := DrawLe.of (Nat.le_refl a)
theorem DrawLe.succ (a : Nat) : DrawLe a (a + 1) := DrawLe.of (Nat.le_succ a)
theorem DrawLe.trans {a b c : Nat} (h : DrawLe a b) (g : DrawLe b c) : DrawLe a c := Nat.le_trans h g

/-- What was there when the call began has not turned, but for the blocks of S. -/
structure Kp (w0 w : World) (S : Nat → Prop) : Prop where
  os : w.os = w0.os
  tape : w.tape = w0.tape
  output : w.output = w0.output
  size : w0.heap.size ≤ w.heap.size
  drawn : DrawLe w0.drawn w.drawn
  block : ∀ k, k < w0.heap.size → ¬ S k → w.heap[k]? = w0.heap[k]?

theorem Kp.refl (w : World) (S : Nat → Prop) : Kp w w S := ⟨rfl, rfl, rfl, Nat.le_refl _, DrawLe.refl _, fun _ _ _ => rfl⟩

theorem Kp.grown {w0 w w' : World} {S : Nat → Prop} {row : Option Nat} (h : Kp w0 w S) (hg : w.grownBy w' row) (hd : DrawLe w.drawn w'.drawn) (hr : ∀ k, row = some k → w0.heap.size ≤ k ∨ S k) : Kp w0 w' S :=
  ⟨hg.os.trans h.os, hg.tape.trans h.tape, hg.output.trans h.output, Nat.le_trans h.size hg.size, DrawLe.trans h.drawn hd, fun k hk hs =>
    (hg.block k (Nat.lt_of_lt_of_le hk h.size) (fun e => by rcases hr k e.symm with hr | hr; omega; exact hs hr)).trans (h.block k hk hs)⟩

def RowIn (M : Mem) (t : Ty) (xs : List (Dat t)) (cur : Array Value) : Prop :=
  ∀ (i : Nat) (x : Dat t), xs[i]? = some x → ∃ cs, RepS M t x cs ∧ ∀ (j : Nat) (u : Value), cs[j]? = some u → cur[i * t.sz + j]? = some u

theorem RowIn.mono {M M' : Mem} (hM : M.le M') {t : Ty} {xs : List (Dat t)} {cur : Array Value} (h : RowIn M t xs cur) : RowIn M' t xs cur :=
  fun i x hx => let ⟨cs, a, b⟩ := h i x hx; ⟨cs, a.mono hM, b⟩

def BlkOk (w : World) (M : Mem) (ρ : Places) (L : Blks) (id : Nat) : Prop :=
  match L id with
  | some (.row e t xs) => match ρ id with
    | none => xs = []
    | some (g, cap) => 0 < t.sz ∧ ∃ cur, w.heap[g]? = some (.cells cur e (0, 0)) ∧ List.length xs ≤ cap ∧ cap ≤ maxLen ∧ cur.size = cap * t.sz ∧ RowIn M t xs cur
  | some (.box e cs) => ∃ g cap cur, ρ id = some (g, cap) ∧ w.heap[g]? = some (.cells cur e (0, 0)) ∧ RepL M ρ L cs cur.toList
  | none => True

def RepF (M : Mem) (ρ : Places) (L : Blks) : List (List AV) → List (List Value) → Prop
  | [], vs => vs = []
  | a :: as, vs => ∃ v r, vs = v :: r ∧ RepL M ρ L a v ∧ RepF M ρ L as r

def BdF (G : Nat → Prop) : List (List AV) → Prop
  | [] => True
  | a :: as => BdL G a ∧ BdF G as

theorem RepF.mono {M M' : Mem} {G : Nat → Prop} {ρ ρ' : Places} {L L' : Blks} (hM : M.le M') (h : Still G ρ L ρ' L') : (as : List (List AV)) → (vs : List (List Value)) → BdF G as → RepF M ρ L as vs → RepF M' ρ' L' as vs
  | [], _, _, r => by simpa [RepF] using r
  | a :: as, vs, b, r => by
    simp only [RepF, BdF] at *
    obtain ⟨v, r', e, h1, h2⟩ := r
    exact ⟨v, r', e, RepL.mono hM h a v b.1 h1, RepF.mono hM h as r' b.2 h2⟩

theorem BdF.mono {G G' : Nat → Prop} (h : ∀ i, G i → G' i) : (as : List (List AV)) → BdF G as → BdF G' as
  | [], _ => by simp [BdF]
  | a :: as, b => by simp only [BdF] at *; exact ⟨BdL.mono h a b.1, BdF.mono h as b.2⟩

/-- A table lies in memory, and ends there. -/
structure GlobAt (M : Mem) (g : Nat) (c : List AV) : Prop where
  rep : Rep M (fun _ => none) (fun _ => none) (.rptr c) (.pointer (some ⟨g, 0, none⟩))
  bd : BdL (fun _ => False) c
  ends : ∃ o v, M g o = some v ∧ M g c.length = none

theorem GlobAt.mono {M M' : Mem} {g : Nat} {c : List AV} (h : GlobAt M g c) (hle : M.le M') : GlobAt M' g c :=
  ⟨h.rep.mono (G := fun _ => False) hle (fun _ hf => hf.elim) _ _ (by simp only [Bd]; exact h.bd), h.bd, let ⟨o, v, h1, h2⟩ := h.ends; ⟨o, v, hle.at h1, (hle _ _ _ h1 _).trans h2⟩⟩

/-- Memory: what is frozen, the blocks of the call's own, what came in. -/
structure SimM (E : Env) (w0 : Start) (S : Nat → Prop) (G : Nat → Prop) (M : Mem) (ρ : Places) (L : Blks) (w : World) : Prop where
  mem : MemOk M w
  kp : Kp w0.toWorld w S
  glob : ∀ g c, (g, c) ∈ E.gs → GlobAt M g c
  own : ∀ id, L id ≠ none → ∀ g c, ρ id = some (g, c) → (w0.heap.size ≤ g ∨ S g) ∧ ∀ o, M g o = none
  inj : ∀ id id', L id ≠ none → L id' ≠ none → ∀ g c c', ρ id = some (g, c) → ρ id' = some (g, c') → id = id'
  blk : ∀ id, BlkOk w M ρ L id
  bbx : ∀ id e cs, L id = some (.box e cs) → BdL G cs
  live : ∀ id, L id ≠ none → G id
  le : w0.m.le M
  new : ∀ b o u, M b o = some u → w0.m b o = some u ∨ w0.heap.size ≤ b ∨ S b

/-- The whole: memory, the frame, the frames that wait. -/
structure Sim (E : Env) (w0 : Start) (S : Nat → Prop) (G : Nat → Prop) (M : Mem) (ρ : Places) (L : Blks) (fr : List AV) (fs : List (List AV)) (tmps : List Value) (susp : List (List Value)) (w : World) : Prop extends SimM E w0 S G M ρ L w where
  frr : RepL M ρ L fr tmps
  fsr : RepF M ρ L fs susp
  bfr : BdL G fr
  bfs : BdF G fs

def upd {α : Type} (f : Nat → α) (n : Nat) (b : α) : Nat → α := fun i => cond (Nat.beq n i) b (f i)
theorem upd_same {α : Type} (f : Nat → α) (n : Nat) (b : α) : upd f n b n = b := by simp [upd]
theorem upd_other {α : Type} (f : Nat → α) {n i : Nat} (b : α) (h : i ≠ n) : upd f n b i = f i := by
  have : Nat.beq n i = false := by
    cases h' : Nat.beq n i with
    | false => rfl
    | true => exact absurd (Nat.eq_of_beq_eq_true h').symm h
  simp [upd, this]
theorem look_cons (n : Nat) (b : Option Blk) (s : List (Nat × Option Blk)) : look ((n, b) :: s) = upd (look s) n b := rfl

/-- A block that has not been touched. -/
theorem BlkOk.keep {w w' : World} {M M' : Mem} {G : Nat → Prop} {ρ ρ' : Places} {L L' : Blks} {id : Nat} (h : BlkOk w M ρ L id) (hL : L' id = L id) (hρ : ρ' id = ρ id) (hM : M.le M')
    (hs : Still G ρ L ρ' L') (hb : ∀ e cs, L id = some (.box e cs) → BdL G cs) (hw : L id ≠ none → ∀ g c, ρ id = some (g, c) → w'.heap[g]? = w.heap[g]?) : BlkOk w' M' ρ' L' id := by
  unfold BlkOk at h ⊢
  rw [hL, hρ]
  cases hl : L id with
  | none => trivial
  | some b =>
    rw [hl] at h
    cases b with
    | row e t xs =>
      dsimp only at h ⊢
      cases hr : ρ id with
      | none => rw [hr] at h; exact h
      | some p =>
        obtain ⟨g, cap⟩ := p
        rw [hr] at h
        dsimp only at h ⊢
        obtain ⟨h0, cur, h1, h2, h3, h4, h5⟩ := h
        exact ⟨h0, cur, (hw (by simp [hl]) g cap hr).trans h1, h2, h3, h4, h5.mono hM⟩
    | box e cs =>
      dsimp only at h ⊢
      obtain ⟨g, cap, cur, hr, h1, h2⟩ := h
      exact ⟨g, cap, cur, hr, (hw (by simp [hl]) g cap hr).trans h1, h2.mono hM hs _ _ (hb e cs hl)⟩

section
variable {E : Env} {w0 : Start} {S G : Nat → Prop} {M : Mem} {ρ : Places} {L : Blks} {w : World} {fr : List AV} {fs : List (List AV)} {tmps : List Value} {susp : List (List Value)}

/-- The place of a live block lies in the heap. -/
theorem SimM.place_lt (h : SimM E w0 S G M ρ L w) {id g c : Nat} (hl : L id ≠ none) (hr : ρ id = some (g, c)) : g < w.heap.size := by
  have hb := h.blk id
  unfold BlkOk at hb
  cases hL : L id with
  | none => exact absurd hL hl
  | some b =>
    rw [hL] at hb
    cases b with
    | row e t xs =>
      rw [hr] at hb
      dsimp only at hb
      obtain ⟨_, cur, h1, _⟩ := hb
      exact (Array.getElem?_eq_some_iff.1 h1).1
    | box e cs =>
      dsimp only at hb
      obtain ⟨g', cap, cur, hr', h1, _⟩ := hb
      rw [hr] at hr'
      cases hr'
      exact (Array.getElem?_eq_some_iff.1 h1).1

theorem MemOk.lt (h : MemOk M w) {b o : Nat} {v : Value} (hm : M b o = some v) : b < w.heap.size := by
  have := h.at hm
  exact World.block_lt_of_cell? w ⟨b, o, none⟩ this

theorem MemOk.kp {w' : World} {S : Nat → Prop} (h : MemOk M w) (hk : Kp w w' S) (hS : ∀ b, S b → ∀ o, M b o = none) : MemOk M w' := fun b o v hv o' =>
  (World.cell?_of_block (a := ⟨b, o', none⟩) (hk.block b (h.lt hv) fun hs => by rw [hS b hs o] at hv; cases hv)).trans (h b o v hv o')

theorem Still.refl_of {G : Nat → Prop} {ρ : Places} {L : Blks} : Still G ρ L ρ L := fun id _ => by
  cases h : L id with
  | none => exact .inl rfl
  | some b => exact .inr ⟨by simpa using Alike.refl, rfl⟩

/-- A block is forgotten. -/
theorem still_kill (G : Nat → Prop) (ρ : Places) (L : Blks) (n : Nat) : Still G ρ L ρ (upd L n none) := fun id _ => by
  by_cases h : id = n
  · subst h; exact .inl (upd_same _ _ _)
  · rw [upd_other _ _ h]
    cases h : L id with
    | none => exact .inl rfl
    | some b => exact .inr ⟨by simpa using Alike.refl, rfl⟩

theorem upd_none {L : Blks} {n id : Nat} (h : upd L n none id ≠ none) : id ≠ n ∧ L id ≠ none := by
  by_cases e : id = n
  · subst e; rw [upd_same] at h; exact absurd rfl h
  · rw [upd_other _ _ e] at h; exact ⟨e, h⟩

theorem SimM.kill (h : SimM E w0 S G M ρ L w) (n : Nat) : SimM E w0 S G M ρ (upd L n none) w where
  mem := h.mem
  kp := h.kp
  glob := h.glob
  own := fun id hl => h.own id (upd_none hl).2
  inj := fun id id' hl hl' => h.inj id id' (upd_none hl).2 (upd_none hl').2
  blk := fun id => by
    by_cases e : id = n
    · subst e; simp [BlkOk, upd_same]
    · exact (h.blk id).keep (upd_other _ _ e) rfl (Mem.le_refl _) (still_kill G ρ L n) (h.bbx id) (fun _ _ _ _ => rfl)
  bbx := fun id e cs hl => h.bbx id e cs (by rw [← hl, upd_other _ _ (upd_none (by rw [hl]; simp)).1])
  live := fun id hl => h.live id (upd_none hl).2
  le := h.le
  new := h.new

/-- The frame beside another memory. -/
theorem Sim.mem' (h : Sim E w0 S G M ρ L fr fs tmps susp w) {G' : Nat → Prop} {M' : Mem} {ρ' : Places} {L' : Blks} {w' : World} (hm : SimM E w0 S G' M' ρ' L' w') (hM : M.le M') (hs : Still G ρ L ρ' L') (hG : ∀ i, G i → G' i) :
    Sim E w0 S G' M' ρ' L' fr fs tmps susp w' :=
  { hm with
    frr := h.frr.mono hM hs _ _ h.bfr
    fsr := h.fsr.mono hM hs _ _ h.bfs
    bfr := h.bfr.mono hG
    bfs := h.bfs.mono hG }

theorem BdL.set {G : Nat → Prop} : {as : List AV} → BdL G as → (i : Nat) → {a : AV} → Bd G a → BdL G (as.set i a)
  | [], h, _, _, _ => by simpa using h
  | b :: as, h, 0, a, ha => by simp only [List.set_cons_zero, BdL] at *; exact ⟨ha, h.2⟩
  | b :: as, h, i + 1, a, ha => by simp only [List.set_cons_succ, BdL] at *; exact ⟨h.1, BdL.set h.2 i ha⟩

theorem BdL.get {G : Nat → Prop} : {as : List AV} → BdL G as → {i : Nat} → {a : AV} → as[i]? = some a → Bd G a
  | [], _, _, _, h => by simp at h
  | b :: as, hb, 0, a, h => by simp at h; subst h; exact hb.1
  | b :: as, hb, i + 1, a, h => BdL.get hb.2 (by simpa using h)

theorem BdL.of_get {G : Nat → Prop} : {as : List AV} → (∀ (i : Nat) (a : AV), as[i]? = some a → Bd G a) → BdL G as
  | [], _ => by simp [BdL]
  | b :: as, h => by simp only [BdL]; exact ⟨h 0 b (by simp), BdL.of_get fun i a ha => h (i + 1) a (by simpa using ha)⟩

theorem BdL.append {G : Nat → Prop} {as bs : List AV} (h : BdL G as) (g : BdL G bs) : BdL G (as ++ bs) := by
  induction as with
  | nil => simpa using g
  | cons a as ih => simp only [List.cons_append, BdL] at *; exact ⟨h.1, ih h.2⟩

theorem BdL.take {G : Nat → Prop} {as : List AV} (h : BdL G as) (n : Nat) : BdL G (as.take n) :=
  BdL.of_get fun i a ha => by rw [List.getElem?_take] at ha; split at ha; exact h.get ha; cases ha
theorem BdL.drop {G : Nat → Prop} {as : List AV} (h : BdL G as) (n : Nat) : BdL G (as.drop n) :=
  BdL.of_get fun i a ha => by rw [List.getElem?_drop] at ha; exact h.get ha

/-- A slot is written. -/
theorem Sim.put (h : Sim E w0 S G M ρ L fr fs tmps susp w) (d : Nat) {a : AV} {v : Value} (hv : Rep M ρ L a v) (hb : Bd G a) : Sim E w0 S G M ρ L (fr.set d a) fs (tmps.set d v) susp w :=
  { h with frr := h.frr.set d hv, bfr := h.bfr.set d hb }

/-- A new block. -/
theorem SimM.alloc (h : SimM E w0 S G M ρ L w) {n : Nat} (hn : ¬ G n) {b : Blk} {cur : Array Value} {e : TypeId} {cap : Nat}
    (hb : match b with
      | .row e' t xs => e' = e ∧ 0 < t.sz ∧ List.length xs ≤ cap ∧ cap ≤ maxLen ∧ cur.size = cap * t.sz ∧ RowIn M t xs cur
      | .box e' cs => e' = e ∧ RepL M ρ L cs cur.toList ∧ BdL G cs) :
    SimM E w0 S (fun i => G i ∨ i = n) M (upd ρ n (some (w.heap.size, cap))) (upd L n (some b)) (w.alloc (.cells cur e)) ∧
      Still G ρ L (upd ρ n (some (w.heap.size, cap))) (upd L n (some b)) := by
  have hst : Still G ρ L (upd ρ n (some (w.heap.size, cap))) (upd L n (some b)) := fun id hid => by
    have e : id ≠ n := fun e => hn (e ▸ hid)
    rw [upd_other _ _ e, upd_other _ _ e]
    exact Still.refl_of id hid
  have hlive : ∀ id, upd L n (some b) id ≠ none → id ≠ n → L id ≠ none := fun id hl e => by rwa [upd_other _ _ e] at hl
  refine ⟨⟨fun b' o v hm o' => ?_, ?_, h.glob, fun id hl g c hr => ?_, fun id id' hl hl' g c c' hr hr' => ?_, fun id => ?_, fun id e' cs hl => ?_, fun id hl => ?_, h.le, h.new⟩, hst⟩
  · rw [World.cell?_alloc_lt _ _ _ (show (⟨b', o', none⟩ : Addr).block < _ from h.mem.lt hm)]; exact h.mem b' o v hm o'
  · exact h.kp.grown (World.grownBy_alloc w _ none) (DrawLe.refl _) (fun k hk => by cases hk)
  · by_cases e : id = n
    · subst e
      rw [upd_same] at hr
      cases hr
      refine ⟨.inl h.kp.size, fun o => ?_⟩
      cases hm : M w.heap.size o with
      | none => rfl
      | some v => exact absurd (h.mem.lt hm) (Nat.lt_irrefl _)
    · rw [upd_other _ _ e] at hr
      exact h.own id (hlive id hl e) g c hr
  · by_cases e : id = n
    · by_cases e' : id' = n
      · rw [e, e']
      · subst e
        rw [upd_same] at hr
        cases hr
        rw [upd_other _ _ e'] at hr'
        exact absurd (h.place_lt (hlive id' hl' e') hr') (Nat.lt_irrefl _)
    · by_cases e' : id' = n
      · subst e'
        rw [upd_same] at hr'
        cases hr'
        rw [upd_other _ _ e] at hr
        exact absurd (h.place_lt (hlive id hl e) hr) (Nat.lt_irrefl _)
      · rw [upd_other _ _ e] at hr
        rw [upd_other _ _ e'] at hr'
        exact h.inj id id' (hlive id hl e) (hlive id' hl' e') g c c' hr hr'
  · by_cases e' : id = n
    · subst e'
      simp only [BlkOk, upd_same]
      cases b with
      | row e' t xs =>
        dsimp only at hb ⊢
        obtain ⟨rfl, h0, h1, h2, h3, h4⟩ := hb
        exact ⟨h0, cur, heap_alloc_new w _, h1, h2, h3, h4⟩
      | box e' cs =>
        dsimp only at hb ⊢
        obtain ⟨rfl, h1, h2⟩ := hb
        exact ⟨_, _, cur, rfl, heap_alloc_new w _, h1.mono (Mem.le_refl _) hst _ _ h2⟩
    · exact (h.blk id).keep (upd_other _ _ e') (upd_other _ _ e') (Mem.le_refl _) hst (h.bbx id) (fun hl g c hr => heap_alloc_old w _ (h.place_lt hl hr))
  · by_cases e : id = n
    · subst e
      rw [upd_same] at hl
      cases hl
      dsimp only at hb
      exact hb.2.2.mono (fun _ => .inl)
    · rw [upd_other _ _ e] at hl
      exact (h.bbx id e' cs hl).mono (fun _ => .inl)
  · by_cases e : id = n
    · exact .inr e
    · exact .inl (h.live id (hlive id hl e))

/-- A block that is written. -/
theorem SimM.write (h : SimM E w0 S G M ρ L w) {n g cap : Nat} {b b' : Blk} {cur cur' : Array Value} {e : TypeId} (hl : L n = some b) (hr : ρ n = some (g, cap)) (hg : w.heap[g]? = some (.cells cur e (0, 0)))
    (ha : Alike (some b) (some b'))
    (hb : match b' with
      | .row e' t xs => e' = e ∧ 0 < t.sz ∧ List.length xs ≤ cap ∧ cap ≤ maxLen ∧ cur'.size = cap * t.sz ∧ RowIn M t xs cur'
      | .box e' cs => e' = e ∧ RepL M ρ L cs cur'.toList ∧ BdL G cs) :
    SimM E w0 S G M ρ (upd L n (some b')) (w.setRow g cur') ∧ Still G ρ L ρ (upd L n (some b')) := by
  have hlive : ∀ id, upd L n (some b') id ≠ none → L id ≠ none := fun id hl' => by
    by_cases e : id = n
    · rw [e, hl]; simp
    · rwa [upd_other _ _ e] at hl'
  have hst : Still G ρ L ρ (upd L n (some b')) := fun id _ => by
    by_cases e : id = n
    · subst e; rw [upd_same, hl]; exact .inr ⟨ha, rfl⟩
    · rw [upd_other _ _ e]; exact Still.refl_of (G := fun _ => True) id trivial
  have hne : ∀ id g' c, id ≠ n → L id ≠ none → ρ id = some (g', c) → g' ≠ g := fun id g' c e hl' hr' eg => by
    subst eg
    exact e (h.inj id n hl' (by rw [hl]; simp) g' c cap hr' hr)
  refine ⟨⟨fun b' o v hm o' => ?_, ?_, h.glob, fun id hl' => h.own id (hlive id hl'), fun id id' hl1 hl2 => h.inj id id' (hlive id hl1) (hlive id' hl2), fun id => ?_, fun id e' cs hl' => ?_, fun id hl' => h.live id (hlive id hl'), h.le, h.new⟩, hst⟩
  · rw [cell_setRow_other]
    · exact h.mem b' o v hm o'
    · intro eb
      have eb : b' = g := eb
      subst eb
      rw [(h.own n (by rw [hl]; simp) b' cap hr).2 o] at hm
      cases hm
  · exact h.kp.grown (row := some g) ⟨rfl, rfl, rfl, by simp, fun k _ hk => setRow_other w g k _ (fun e => hk (by rw [e]))⟩ (DrawLe.refl _) (fun k hk => by cases hk; exact (h.own n (by rw [hl]; simp) g cap hr).1)
  · by_cases e' : id = n
    · subst e'
      simp only [BlkOk, upd_same]
      cases b' with
      | row e' t xs =>
        dsimp only at hb ⊢
        obtain ⟨rfl, h0, h1, h2, h3, h4⟩ := hb
        rw [hr]
        exact ⟨h0, cur', setRow_heap w g cur cur' e' (0, 0) hg, h1, h2, h3, h4⟩
      | box e' cs =>
        dsimp only at hb ⊢
        obtain ⟨rfl, h1, h2⟩ := hb
        exact ⟨_, _, cur', hr, setRow_heap w g cur cur' e' (0, 0) hg, h1.mono (Mem.le_refl _) hst _ _ h2⟩
    · exact (h.blk id).keep (upd_other _ _ e') rfl (Mem.le_refl _) hst (h.bbx id) (fun hl' g' c hr' => setRow_other w g g' _ (hne id g' c e' hl' hr'))
  · by_cases e : id = n
    · subst e
      rw [upd_same] at hl'
      cases hl'
      dsimp only at hb
      exact hb.2.2
    · rw [upd_other _ _ e] at hl'
      exact h.bbx id e' cs hl'

theorem SimM.drew (h : SimM E w0 S G M ρ L w) : SimM E w0 S G M ρ L w.drew :=
  ⟨h.mem, ⟨h.kp.os, h.kp.tape, h.kp.output, h.kp.size, DrawLe.trans h.kp.drawn (DrawLe.succ _), h.kp.block⟩, h.glob, h.own, h.inj, fun id => (h.blk id).keep rfl rfl (Mem.le_refl _) Still.refl_of (h.bbx id) (fun _ _ _ _ => rfl), h.bbx, h.live, h.le, h.new⟩

theorem still_fresh {n : Nat} (hn : ¬ G n) (ρ : Places) (L : Blks) (p : Option (Nat × Nat)) (b : Option Blk) : Still G ρ L (upd ρ n p) (upd L n b) := fun id hid => by
  have e : id ≠ n := fun e => hn (e ▸ hid)
  rw [upd_other _ _ e, upd_other _ _ e]
  exact Still.refl_of id hid

/-- A new row that takes no memory. -/
theorem SimM.empty (h : SimM E w0 S G M ρ L w) {n : Nat} (hn : ¬ G n) (e : TypeId) (t : Ty) :
    SimM E w0 S (fun i => G i ∨ i = n) M (upd ρ n none) (upd L n (some (.row e t []))) w ∧ Still G ρ L (upd ρ n none) (upd L n (some (.row e t []))) := by
  have hst := still_fresh hn ρ L none (some (.row e t []))
  have hlive : ∀ id, upd L n (some (.row e t [])) id ≠ none → id ≠ n → L id ≠ none := fun id hl e => by rwa [upd_other _ _ e] at hl
  refine ⟨⟨h.mem, h.kp, h.glob, fun id hl g c hr => ?_, fun id id' hl hl' g c c' hr hr' => ?_, fun id => ?_, fun id e' cs hl => ?_, fun id hl => ?_, h.le, h.new⟩, hst⟩
  · by_cases e : id = n
    · subst e; rw [upd_same] at hr; cases hr
    · rw [upd_other _ _ e] at hr; exact h.own id (hlive id hl e) g c hr
  · by_cases e : id = n
    · subst e; rw [upd_same] at hr; cases hr
    · by_cases e' : id' = n
      · subst e'; rw [upd_same] at hr'; cases hr'
      · rw [upd_other _ _ e] at hr
        rw [upd_other _ _ e'] at hr'
        exact h.inj id id' (hlive id hl e) (hlive id' hl' e') g c c' hr hr'
  · by_cases e' : id = n
    · subst e'; simp [BlkOk, upd_same]
    · exact (h.blk id).keep (upd_other _ _ e') (upd_other _ _ e') (Mem.le_refl _) hst (h.bbx id) (fun _ _ _ _ => rfl)
  · by_cases e : id = n
    · subst e; rw [upd_same] at hl; cases hl
    · rw [upd_other _ _ e] at hl; exact (h.bbx id e' cs hl).mono (fun _ => .inl)
  · by_cases e : id = n
    · exact .inr e
    · exact .inl (h.live id (hlive id hl e))

/-- A block that is nobody's takes a number, and is written. -/
theorem SimM.adopt (h : SimM E w0 S G M ρ L w) {n g cap : Nat} (hn : ¬ G n) {cur cur' : Array Value} {e : TypeId} {t : Ty} {xs : List (Dat t)} (hg : w.heap[g]? = some (.cells cur e (0, 0)))
    (hw : w0.heap.size ≤ g ∨ S g) (hm : ∀ o, M g o = none) (hfree : ∀ id, L id ≠ none → ∀ g' c, ρ id = some (g', c) → g' ≠ g)
    (h0 : 0 < t.sz) (h1 : xs.length ≤ cap) (h2 : cap ≤ maxLen) (h3 : cur'.size = cap * t.sz) (h4 : RowIn M t xs cur') :
    SimM E w0 S (fun i => G i ∨ i = n) M (upd ρ n (some (g, cap))) (upd L n (some (.row e t xs))) (w.setRow g cur') ∧ Still G ρ L (upd ρ n (some (g, cap))) (upd L n (some (.row e t xs))) := by
  have hst := still_fresh hn ρ L (some (g, cap)) (some (.row e t xs))
  have hlive : ∀ id, upd L n (some (.row e t xs)) id ≠ none → id ≠ n → L id ≠ none := fun id hl e => by rwa [upd_other _ _ e] at hl
  refine ⟨⟨fun b' o v hm' o' => ?_, ?_, h.glob, fun id hl g' c hr => ?_, fun id id' hl hl' g' c c' hr hr' => ?_, fun id => ?_, fun id e' cs hl => ?_, fun id hl => ?_, h.le, h.new⟩, hst⟩
  · rw [cell_setRow_other]
    · exact h.mem b' o v hm' o'
    · intro eb
      have eb : b' = g := eb
      subst eb
      rw [hm o] at hm'
      cases hm'
  · exact h.kp.grown (row := some g) ⟨rfl, rfl, rfl, by simp, fun k _ hk => setRow_other w g k _ (fun e => hk (by rw [e]))⟩ (DrawLe.refl _) (fun k hk => by cases hk; exact hw)
  · by_cases e : id = n
    · subst e; rw [upd_same] at hr; cases hr; exact ⟨hw, hm⟩
    · rw [upd_other _ _ e] at hr; exact h.own id (hlive id hl e) g' c hr
  · by_cases e : id = n
    · by_cases e' : id' = n
      · rw [e, e']
      · subst e
        rw [upd_same] at hr
        cases hr
        rw [upd_other _ _ e'] at hr'
        exact absurd rfl (hfree id' (hlive id' hl' e') g c' hr')
    · by_cases e' : id' = n
      · subst e'
        rw [upd_same] at hr'
        cases hr'
        rw [upd_other _ _ e] at hr
        exact absurd rfl (hfree id (hlive id hl e) g c hr)
      · rw [upd_other _ _ e] at hr
        rw [upd_other _ _ e'] at hr'
        exact h.inj id id' (hlive id hl e) (hlive id' hl' e') g' c c' hr hr'
  · by_cases e' : id = n
    · subst e'
      simp only [BlkOk, upd_same]
      exact ⟨h0, cur', setRow_heap w g cur cur' e (0, 0) hg, h1, h2, h3, h4⟩
    · exact (h.blk id).keep (upd_other _ _ e') (upd_other _ _ e') (Mem.le_refl _) hst (h.bbx id) (fun hl' g' c hr' => setRow_other w g g' _ (hfree id hl' g' c hr'))
  · by_cases e : id = n
    · subst e; rw [upd_same] at hl; cases hl
    · rw [upd_other _ _ e] at hl; exact (h.bbx id e' cs hl).mono (fun _ => .inl)
  · by_cases e : id = n
    · exact .inr e
    · exact .inl (h.live id (hlive id hl e))

/-- A row's view, as data that lies in M'. -/
theorem own_data {id : Nat} {M' : Mem} (hM : M.le M') (h : BlkOk w M ρ L id) {e : TypeId} {t : Ty} {xs : List (Dat t)} (hl : L id = some (.row e t xs)) {lo : Nat} {hi : Option Nat} {v : Value} (hv : OwnV ρ L id lo hi v)
    (hc : ∀ g cap cur, ρ id = some (g, cap) → w.heap[g]? = some (.cells cur e (0, 0)) → ∀ o u, cur[o]? = some u → M' g o = some u) : RepS M' (.slice t) (view xs lo hi) [v] := by
  unfold OwnV at hv
  unfold BlkOk at h
  rw [hl] at hv h
  dsimp only at hv h
  obtain ⟨A, c, rfl, hin, hcase⟩ := hv
  simp only [RepS]
  refine ⟨A, c, by rw [view_length _ _ _ hin], ⟨?_, fun hn => by rcases hcase with ⟨h0, _⟩ | ⟨g, cap, _, hA, _⟩; exact h0; rw [hA] at hn; cases hn⟩, fun i x hx => ?_⟩
  · rw [view_length _ _ _ hin]
    rcases hcase with ⟨_, h0⟩ | ⟨g, cap, hr, _, hcap⟩
    · have h0 := vlen_end hin h0
      omega
    · rw [hr] at h
      obtain ⟨_, cur, _, h1, _⟩ := h
      cases hi with
      | none => simp only [vlen]; omega
      | some b => simp only [vlen, inView] at *; omega
  · rcases hcase with ⟨_, h0⟩ | ⟨g, cap, hr, hA, _⟩
    · have h0 := vlen_end hin h0
      have : i < (view xs lo hi).length := (List.getElem?_eq_some_iff.1 hx).1
      rw [view_length _ _ _ hin] at this
      omega
    · rw [hr] at h
      obtain ⟨_, cur, hg, _, _, _, hrow⟩ := h
      obtain ⟨cs, h1, h2⟩ := hrow (lo + i) x (view_get xs lo hi i x hx)
      refine ⟨_, cs, hA, rfl, h1.mono hM, fun j u hu => ?_⟩
      have := hc g cap cur hr hg _ _ (h2 j u hu)
      rw [show lo * t.sz + (i * t.sz + j) = (lo + i) * t.sz + j by rw [Nat.add_mul]; omega]
      exact this

end
end Go.R

/- Each operation: what the evaluator says of it, the model does. -/
namespace Go.R
open Go

/-! ### What is asked of the types -/
def tySz (P : Program) (t : TypeId) : Option Nat := (P.info? t).map (·.size)
def tyAgg (P : Program) (t : TypeId) : Option Bool := (P.underlying t).map fun | .struct _ | .array _ _ => true | _ => false
def tyElem (P : Program) (t : TypeId) : Option TypeId := match P.underlying t with | some (.slice e) => some e | _ => none
def tyArr (P : Program) (t : TypeId) : Option (Nat × TypeId) := match P.underlying t with | some (.array n e) => some (n, e) | _ => none
def tyField (P : Program) (t : TypeId) (i : Nat) : Option (Nat × TypeId) := match P.underlying t with | some (.struct fs) => (fs[i]?).map fun f => (f.offset, f.type) | _ => none
def tyStr (P : Program) (t : TypeId) : Bool := match P.underlying t with | some .string => true | _ => false
def tyFlt (P : Program) (t : TypeId) : Bool := match P.underlying t with | some (.float .f64) => true | _ => false
def tyInt (P : Program) (t : TypeId) : Option IntKind := match P.underlying t with | some (.int k) => some k | _ => none

def valEq : Value → Value → Bool
  | .int k n, .int k' n' => k == k' && n == n'
  | .bool a, .bool b => a == b
  | .float k a, .float k' b => k == k' && a == b
  | .string a, .string b => a.data == b.data
  | .slice none 0 0, .slice none 0 0 => true
  | .pointer none, .pointer none => true
  | _, _ => false

theorem bytes_ext {a b : ByteArray} (h : (a.data == b.data) = true) : a = b := by
  cases a; cases b; simp at h; subst h; rfl

theorem valEq_eq {a b : Value} (h : valEq a b = true) : a = b := by
  unfold valEq at h
  split at h
  case h_4 a b => rw [bytes_ext h]
  all_goals simp_all

def zvals : Ty → List Value
  | .int k => [.int k 0]
  | .bool => [.bool false]
  | .flt => [.float .f64 0]
  | .str => [.string ByteArray.empty]
  | .slice _ => [.slice none 0 0]
  | .nsl _ => [.slice none 0 0]
  | .err => [.nilIface]
  | .pair a b => zvals a ++ zvals b
  | .unit => []

theorem RepS_dflt (M : Mem) : (t : Ty) → RepS M t t.dflt (zvals t)
  | .int k => by simp [RepS, Ty.dflt, zvals]
  | .bool => by simp [RepS, Ty.dflt, zvals]
  | .flt => by simp [RepS, Ty.dflt, zvals]
  | .str => by simp [RepS, Ty.dflt, zvals]
  | .slice t => by simp only [RepS, Ty.dflt, zvals]; exact ⟨none, 0, rfl, ⟨Nat.le_refl _, fun _ => rfl⟩, by simp⟩
  | .err => RepS.err.2 (.inl ⟨rfl, rfl⟩)
  | .nsl t => RepS.nsl.2 ⟨fun _ => rfl, by simp only [RepS]; exact ⟨none, 0, rfl, ⟨Nat.le_refl _, fun _ => rfl⟩, by simp [Ty.dflt]⟩⟩
  | .pair a b => by simp only [RepS, Ty.dflt, zvals]; exact ⟨_, _, rfl, RepS_dflt M a, RepS_dflt M b⟩
  | .unit => by simp [RepS, zvals]

def valsEq : List Value → List Value → Bool
  | [], [] => true
  | a :: as, b :: bs => valEq a b && valsEq as bs
  | _, _ => false

theorem valsEq_eq : {as bs : List Value} → valsEq as bs = true → as = bs
  | [], [], _ => rfl
  | a :: as, b :: bs, h => by simp only [valsEq, Bool.and_eq_true] at h; rw [valEq_eq h.1, valsEq_eq h.2]
  | [], _ :: _, h => by simp [valsEq] at h
  | _ :: _, [], h => by simp [valsEq] at h

/-- A constant of the remarks beside a value. -/
def avEq : AV → Value → Bool
  | .undef, _ => true
  | .int k n, .int k' n' => k == k' && n == n'
  | .bool a, .bool b => a == b
  | .flt a, .float k b => k == .f64 && a == b
  | .str a, .string b => a.data == b.data
  | .nils, .slice none 0 0 => true
  | .nilp, .pointer none => true
  | _, _ => false

def avsEq : List AV → List Value → Bool
  | [], [] => true
  | a :: as, b :: bs => avEq a b && avsEq as bs
  | _, _ => false

theorem Rep_avEq {M : Mem} {ρ : Places} {L : Blks} {G : Nat → Prop} {a : AV} {v : Value} (h : avEq a v = true) : Rep M ρ L a v ∧ Bd G a := by
  unfold avEq at h
  split at h
  case h_5 a b => rw [bytes_ext h]; simp [Rep, Bd]
  all_goals simp_all [Rep, Bd]

theorem RepL_avsEq {M : Mem} {ρ : Places} {L : Blks} {G : Nat → Prop} : {as : List AV} → {vs : List Value} → avsEq as vs = true → RepL M ρ L as vs ∧ BdL G as
  | [], [], _ => by simp [RepL, BdL]
  | a :: as, b :: bs, h => by
    simp only [avsEq, Bool.and_eq_true] at h
    have h1 := Rep_avEq (M := M) (ρ := ρ) (L := L) (G := G) h.1
    have h2 := RepL_avsEq (M := M) (ρ := ρ) (L := L) (G := G) h.2
    simp only [RepL, BdL]
    exact ⟨⟨_, _, rfl, h1.1, h2.1⟩, h1.2, h2.2⟩
  | [], _ :: _, h => by simp [avsEq] at h
  | _ :: _, [], h => by simp [avsEq] at h

/-- The zero value of a type has these cells. -/
def zeroIs (P : Program) (t : TypeId) (f : List Value → Bool) : Bool :=
  match P.info? t with
  | some i => match i.zero with
    | some v => f v.cells.toList && v.cells.size == i.size
    | none => false
  | none => false

/-- An element's type: its cells, its bytes, its zero value. -/
def elemIs (P : Program) (e : TypeId) (t : Ty) (bytes : Nat) : Bool :=
  match P.info? e with
  | some i => i.size == t.sz && i.bytes == bytes && decide (0 < t.sz) && decide (0 < bytes) && zeroIs P e (fun vs => valsEq vs (zvals t))
  | none => false

/-! ### Operands -/
section
variable {P : Program} {E : Env} {w0 : Start} {S G : Nat → Prop} {M : Mem} {ρ : Places} {L : Blks} {w : World} {fr : List AV} {fs : List (List AV)} {tmps : List Value} {susp : List (List Value)}

theorem lookG_mem : {gs : List (Nat × List AV)} → {g : Nat} → lookG gs g = .undef ∨ ∃ c, (g, c) ∈ gs ∧ lookG gs g = .rptr c
  | [], g => .inl rfl
  | (i, c) :: r, g => by
    unfold lookG
    cases h : Nat.beq i g with
    | true => exact .inr ⟨c, by rw [Nat.eq_of_beq_eq_true h]; simp, rfl⟩
    | false =>
      rcases lookG_mem (gs := r) (g := g) with h1 | ⟨c', h1, h2⟩
      · exact .inl h1
      · exact .inr ⟨c', by simp [h1], h2⟩

theorem Rep_ofConst (v : Value) : Rep M ρ L (AV.ofConst v) v ∧ Bd G (AV.ofConst v) := by
  unfold AV.ofConst
  split <;> simp [Rep, Bd]

theorem Sim.eval {a : Act} (h : Sim E w0 S G M ρ L fr fs a.tmps.toList susp w) (x : Operand) : Rep M ρ L (E.eval fr x) (a.eval x) ∧ Bd G (E.eval fr x) := by
  cases x with
  | tmp t =>
    simp only [Env.eval, Act.eval]
    cases hg : fr[t]? with
    | none => simp [hg, Rep, Bd]
    | some v =>
      obtain ⟨u, hu, hr⟩ := h.frr.get hg
      have : a.tmps.getD t undef = u := by
        rw [Array.getElem?_toList] at hu
        simp [hu]
      rw [this]
      simp only [List.getD, hg, Option.getD_some]
      exact ⟨hr, h.bfr.get hg⟩
  | const v => exact Rep_ofConst v
  | global g =>
    simp only [Env.eval, Act.eval]
    rcases lookG_mem (gs := E.gs) (g := g) with h1 | ⟨c, h1, h2⟩
    · rw [h1]; simp [Rep, Bd]
    · rw [h2]
      have hg := h.glob g c h1
      exact ⟨hg.rep.mono (G := fun _ => False) (Mem.le_refl _) (fun _ hf => hf.elim) _ _ (by simp only [Bd]; exact hg.bd), by simp only [Bd]; exact hg.bd.mono (fun _ hf => hf.elim)⟩
  | func f => simp [Env.eval, Act.eval, Rep, RepL, Bd, BdL]

end

/-! ### The outcome of an operation -/

/-- The store behind changes. -/
def ov : List (Nat × Option Blk) → Blks → Blks
  | [], L => L
  | (n, b) :: r, L => upd (ov r L) n b

theorem look_ov : (d s : List (Nat × Option Blk)) → look (d ++ s) = ov d (look s)
  | [], s => rfl
  | (n, b) :: r, s => by rw [List.cons_append, look_cons, look_ov r s]; rfl

/-- The numbers that have come. -/
def grow (G : Nat → Prop) (d : List (Nat × Option Blk)) : Nat → Prop := fun i => G i ∨ ∃ b, (i, some b) ∈ d

structure After (E : Env) (w0 : Start) (S G : Nat → Prop) (M : Mem) (ρ : Places) (L : Blks) (d : List (Nat × Option Blk)) (v : AV) (v' : Value) (w' : World) : Prop where
  ex : ∃ M' ρ', M.le M' ∧ Rep M' ρ' (ov d L) v v' ∧ SimM E w0 S (grow G d) M' ρ' (ov d L) w' ∧ Still G ρ L ρ' (ov d L)
  bd : Bd (grow G d) v

def OpRes (P : Program) (E : Env) (w0 : Start) (S G : Nat → Prop) (M : Mem) (ρ : Places) (L : Blks) (o : Oper) (a : Act) (w : World) (Q : Exit → Act → World → Prop) (v : AV) (d : List (Nat × Option Blk)) : Prop :=
  o.wp P a w (fun a' w' => ∃ v', a' = a.put o.dst v' ∧ After E w0 S G M ρ L d v v' w') Q

theorem grow_nil (G : Nat → Prop) : grow G [] = G := by funext i; simp [grow]

section
variable {P : Program} {E : Env} {w0 : Start} {S G : Nat → Prop} {M : Mem} {ρ : Places} {L : Blks} {w : World} {Q : Exit → Act → World → Prop} {o : Oper} {a : Act}

/-- A value, and nothing turns. -/
theorem OpRes.pure (h : SimM E w0 S G M ρ L w) {v : AV} {v' : Value} (hr : (execOp a.eval o).run P w = .ok (.value v') w) (hv : Rep M ρ L v v') (hb : Bd G v) : OpRes P E w0 S G M ρ L o a w Q v [] := by
  unfold OpRes Oper.wp
  rw [hr]
  refine ⟨v', rfl, ⟨⟨M, ρ, Mem.le_refl _, hv, ?_, Still.refl_of⟩, ?_⟩⟩
  · rw [grow_nil]; exact h
  · rw [grow_nil]; exact hb

theorem Qn.run_some {R : Type} {L : Nat → Option Blk} : {q : Go.R.Qn} → {K : AV → List (Nat × Option Blk) → Option R} → {r : R} → q.run L K = some r → ∃ v d, q.run L (fun v d => some (v, d)) = some (v, d) ∧ K v d = some r
  | .done v d, K, r, h => ⟨v, d, rfl, h⟩
  | .fail, K, r, h => by simp [Qn.run] at h
  | .guard c q, K, r, h => by
    cases c with
    | true => simp only [Qn.run, cond_true] at h ⊢; exact Qn.run_some h
    | false => simp [Qn.run] at h
  | .ask id k, K, r, h => by simp only [Qn.run] at h ⊢; exact Qn.run_some h
  | .bind m k, K, r, h => by
    cases m with
    | none => simp [Qn.run] at h
    | some x => simp only [Qn.run, Option.bind_some] at h ⊢; exact Qn.run_some h
  | .branch c p q, K, r, h => by
    cases c with
    | true => simp only [Qn.run, cond_true] at h ⊢; exact Qn.run_some h
    | false => simp only [Qn.run, cond_false] at h ⊢; exact Qn.run_some h

end
end Go.R

/- Operations that turn no memory. -/
namespace Go.R
open Go

section
variable {P : Program} {E : Env} {w0 : Start} {S G : Nat → Prop} {M : Mem} {ρ : Places} {L : Blks} {w : World} {Q : Exit → Act → World → Prop} {o : Oper} {a : Act} {fr : List AV} {fs : List (List AV)} {susp : List (List Value)}

abbrev done1 (v : AV) (d : List (Nat × Option Blk)) : Option (AV × List (Nat × Option Blk)) := some (v, d)

theorem run_pure_inv {v v' : AV} {d : List (Nat × Option Blk)} (h : (Qn.pure v).run L done1 = some (v', d)) : v' = v ∧ d = [] := by
  simp only [Qn.pure, Qn.run, done1, Option.some.injEq, Prod.mk.injEq] at h
  exact ⟨h.1.symm, h.2.symm⟩

theorem run_guard_inv {c : Bool} {q : Go.R.Qn} {r : AV × List (Nat × Option Blk)} (h : (Qn.guard c q).run L done1 = some r) : c = true ∧ q.run L done1 = some r := by
  cases c with
  | true => exact ⟨rfl, by simpa [Qn.run] using h⟩
  | false => simp [Qn.run] at h

theorem run_cond_inv {c : Bool} {q : Go.R.Qn} {r : AV × List (Nat × Option Blk)} (h : (cond c q .fail).run L done1 = some r) : c = true ∧ q.run L done1 = some r := by
  cases c with
  | true => exact ⟨rfl, h⟩
  | false => simp [Qn.run] at h

theorem run_fail {r : AV × List (Nat × Option Blk)} (h : Qn.fail.run L done1 = some r) : False := by simp [Qn.run] at h

theorem rep_int {k : IntKind} {n : Int} {v : Value} (h : Rep M ρ L (.int k n) v) : v = .int k n := by simpa [Rep] using h
theorem rep_off {v : Value} (h : Rep M ρ L (.tup []) v) : v = .tuple #[] := by
  obtain ⟨us, rfl, hu⟩ := h
  have : us.toList = [] := hu
  rw [Array.toList_eq_nil_iff.1 this]
theorem rep_flt {n : Nat} {v : Value} (h : Rep M ρ L (.flt n) v) : v = .float .f64 n := by simpa [Rep] using h
theorem rep_bool {b : Bool} {v : Value} (h : Rep M ρ L (.bool b) v) : v = .bool b := by simpa [Rep] using h
theorem rep_str {b : ByteArray} {v : Value} (h : Rep M ρ L (.str b) v) : v = .string b := by simpa [Rep] using h

/-- A value of one cell that names no block. -/
inductive Plain (M : Mem) (ρ : Places) (L : Blks) (G : Nat → Prop) (v : AV) (v' : Value) : Prop
  | mk (h : Rep M ρ L v v') (b : Bd G v)

theorem plain_int (k : IntKind) (n : Int) : Plain M ρ L G (.int k n) (.int k n) := ⟨by simp [Rep], by simp [Bd]⟩
theorem plain_flt (n : Nat) : Plain M ρ L G (.flt n) (.float .f64 n) := ⟨by simp [Rep], by simp [Bd]⟩
theorem plain_bool (b : Bool) : Plain M ρ L G (.bool b) (.bool b) := ⟨by simp [Rep], by simp [Bd]⟩
theorem plain_str (b : ByteArray) : Plain M ρ L G (.str b) (.string b) := ⟨by simp [Rep], by simp [Bd]⟩

/-- An outcome without memory: what the operation's run comes to. -/
def PureRes (P : Program) (M : Mem) (ρ : Places) (L : Blks) (G : Nat → Prop) (w : World) (s : Go.Sem Value) (v : AV) : Prop := ∃ v', s.run P w = .ok v' w ∧ Plain M ρ L G v v'

theorem ibin_sound {op : BinOp} {k : IntKind} {x y : Int} {v : AV} {d : List (Nat × Option Blk)} (h : (ibin op k x y).run L done1 = some (v, d)) (t : TypeId) (hs : isShift op = false) :
    d = [] ∧ PureRes P M ρ L G w (binOp op t (.int k x) (.int k y)) v := by
  have e : binOp op t (.int k x) (.int k y) = (match op with
    | .add | .sub | .mul => Op.intArith op k x y
    | .quo | .rem => Op.intDiv op k x y
    | .and | .or | .xor | .andNot => Op.intBits op k x y
    | _ => Op.intCmp op x y) := by cases op <;> simp [isShift] at hs <;> simp [binOp]
  rw [PureRes, e]
  unfold ibin at h
  cases op <;> simp only [isShift] at hs <;> try (cases hs; done)
  case quo =>
    obtain ⟨hc, h⟩ := run_guard_inv h
    obtain ⟨rfl, rfl⟩ := run_pure_inv h
    have hy : y ≠ 0 := by simpa using hc
    exact ⟨rfl, _, by simp [Op.intDiv, hy], plain_int _ _⟩
  case rem =>
    obtain ⟨hc, h⟩ := run_guard_inv h
    obtain ⟨rfl, rfl⟩ := run_pure_inv h
    have hy : y ≠ 0 := by simpa using hc
    exact ⟨rfl, _, by simp [Op.intDiv, hy], plain_int _ _⟩
  all_goals first
    | (obtain ⟨rfl, rfl⟩ := run_pure_inv h
       refine ⟨rfl, _, rfl, ?_⟩
       first | exact plain_int _ _ | exact plain_bool _)
    | exact (run_fail h).elim

theorem ishift_sound {op : BinOp} {k k' : IntKind} {x y : Int} {v : AV} {d : List (Nat × Option Blk)} (h : (ishift op k x y).run L done1 = some (v, d)) (t : TypeId) :
    d = [] ∧ PureRes P M ρ L G w (binOp op t (.int k x) (.int k' y)) v := by
  unfold ishift at h
  cases op
  case shl =>
    obtain ⟨hc, h⟩ := run_guard_inv h
    obtain ⟨rfl, rfl⟩ := run_pure_inv h
    have hy : ¬ y < 0 := by simpa using hc
    exact ⟨rfl, _, by simp [binOp, Op.shift, hy], plain_int _ _⟩
  case shr =>
    obtain ⟨hc, h⟩ := run_guard_inv h
    obtain ⟨rfl, rfl⟩ := run_pure_inv h
    have hy : ¬ y < 0 := by simpa using hc
    exact ⟨rfl, _, by simp [binOp, Op.shift, hy], plain_int _ _⟩
  all_goals exact (run_fail h).elim

theorem sbin_sound {op : BinOp} {x y : ByteArray} {v : AV} {d : List (Nat × Option Blk)} (h : (sbin op x y).run L done1 = some (v, d)) (t : TypeId) :
    d = [] ∧ PureRes P M ρ L G w (binOp op t (.string x) (.string y)) v := by
  unfold sbin at h
  cases op
  case add =>
    obtain ⟨hc, h⟩ := run_guard_inv h
    obtain ⟨rfl, rfl⟩ := run_pure_inv h
    have hle : x.size + y.size ≤ 9223372036854775807 := by simpa using hc
    refine ⟨rfl, _, ?_, plain_str _⟩
    have : ¬ (((x.size + y.size : Nat) : Int) > IntKind.i64.max) := by
      have : IntKind.i64.max = 9223372036854775807 := by decide
      omega
    simp only [binOp, Op.stringOp]
    rw [if_neg this]
    rfl
  case eql => obtain ⟨rfl, rfl⟩ := run_pure_inv h; exact ⟨rfl, _, by simp only [binOp, Op.stringOp]; rfl, plain_bool _⟩
  case neq => obtain ⟨rfl, rfl⟩ := run_pure_inv h; exact ⟨rfl, _, by simp only [binOp, Op.stringOp]; rfl, plain_bool _⟩
  case lss => obtain ⟨rfl, rfl⟩ := run_pure_inv h; exact ⟨rfl, _, by simp only [binOp, Op.stringOp]; rfl, plain_bool _⟩
  case leq => obtain ⟨rfl, rfl⟩ := run_pure_inv h; exact ⟨rfl, _, by simp only [binOp, Op.stringOp]; rfl, plain_bool _⟩
  case gtr => obtain ⟨rfl, rfl⟩ := run_pure_inv h; exact ⟨rfl, _, by simp only [binOp, Op.stringOp]; rfl, plain_bool _⟩
  case geq => obtain ⟨rfl, rfl⟩ := run_pure_inv h; exact ⟨rfl, _, by simp only [binOp, Op.stringOp]; rfl, plain_bool _⟩
  all_goals exact (run_fail h).elim

theorem fbin_sound {op : BinOp} {x y : Nat} {v : AV} {d : List (Nat × Option Blk)} (h : (fbin op x y).run L done1 = some (v, d)) (t : TypeId) :
    d = [] ∧ PureRes P M ρ L G w (binOp op t (.float .f64 x) (.float .f64 y)) v := by
  have ar : ∀ {m : Option Nat}, (Qn.bind m fun r => .pure (.flt r)).run L done1 = some (v, d) → ∃ r, m = some r ∧ v = .flt r ∧ d = [] := fun {m} h => by
    cases m with
    | none => simp [Qn.run] at h
    | some r =>
      simp only [Qn.run, Option.bind_some] at h
      obtain ⟨rfl, rfl⟩ := run_pure_inv h
      exact ⟨r, rfl, rfl, rfl⟩
  have cm : ∀ {f : Ordering → Bool}, (Qn.bind (Ieee.double.order x y) fun o => .pure (.bool (f o))).run L done1 = some (v, d) → ∃ o, Ieee.double.order x y = some o ∧ v = .bool (f o) ∧ d = [] := fun {f} h => by
    cases hm : Ieee.double.order x y with
    | none => rw [hm] at h; simp [Qn.run] at h
    | some r =>
      rw [hm] at h
      simp only [Qn.run, Option.bind_some] at h
      obtain ⟨rfl, rfl⟩ := run_pure_inv h
      exact ⟨r, rfl, rfl, rfl⟩
  unfold fbin at h
  cases op
  case add => obtain ⟨r, hr, rfl, rfl⟩ := ar h; exact ⟨rfl, _, by simp [binOp, Op.floatArith, FloatKind.format, hr], plain_flt _⟩
  case sub => obtain ⟨r, hr, rfl, rfl⟩ := ar h; exact ⟨rfl, _, by simp [binOp, Op.floatArith, FloatKind.format, hr], plain_flt _⟩
  case mul => obtain ⟨r, hr, rfl, rfl⟩ := ar h; exact ⟨rfl, _, by simp [binOp, Op.floatArith, FloatKind.format, hr], plain_flt _⟩
  case quo => obtain ⟨r, hr, rfl, rfl⟩ := ar h; exact ⟨rfl, _, by simp [binOp, Op.floatArith, FloatKind.format, hr], plain_flt _⟩
  case eql => obtain ⟨r, hr, rfl, rfl⟩ := cm (f := fun o => o == .eq) h; exact ⟨rfl, _, by simp [binOp, Op.floatCmp, FloatKind.format, hr], plain_bool _⟩
  case neq => obtain ⟨r, hr, rfl, rfl⟩ := cm (f := fun o => !(o == .eq)) h; exact ⟨rfl, _, by simp [binOp, Op.floatCmp, FloatKind.format, hr]; rfl, plain_bool _⟩
  case lss => obtain ⟨r, hr, rfl, rfl⟩ := cm (f := fun o => o == .lt) h; exact ⟨rfl, _, by simp [binOp, Op.floatCmp, FloatKind.format, hr], plain_bool _⟩
  case leq => obtain ⟨r, hr, rfl, rfl⟩ := cm (f := fun o => o == .lt || o == .eq) h; exact ⟨rfl, _, by simp [binOp, Op.floatCmp, FloatKind.format, hr], plain_bool _⟩
  case gtr => obtain ⟨r, hr, rfl, rfl⟩ := cm (f := fun o => o == .gt) h; exact ⟨rfl, _, by simp [binOp, Op.floatCmp, FloatKind.format, hr], plain_bool _⟩
  case geq => obtain ⟨r, hr, rfl, rfl⟩ := cm (f := fun o => o == .gt || o == .eq) h; exact ⟨rfl, _, by simp [binOp, Op.floatCmp, FloatKind.format, hr], plain_bool _⟩
  all_goals exact (run_fail h).elim

/-! ### Equality of structs -/

/-- Do the fields' equalities make the datum's. -/
def fieldsOk (P : Program) (ok : TypeId → Ty → Bool) : List Field → Ty → Nat → Bool
  | [], .unit, _ => true
  | [f], ty, off => f.name != "_" && f.offset == off && tySz P f.type == some ty.sz && (tyAgg P f.type).isSome && ok f.type ty
  | f :: g :: r, .pair a b, off => f.name != "_" && f.offset == off && tySz P f.type == some a.sz && (tyAgg P f.type).isSome && ok f.type a && fieldsOk P ok (g :: r) b (off + a.sz)
  | _, _, _ => false

/-- Is the type's equality the datum's. -/
def eqOk (P : Program) : Nat → TypeId → Ty → Bool
  | 0, _, _ => false
  | n + 1, t, ty => match P.underlying t with
    | some (.int k) => ty == .int k
    | some .bool => ty == .bool
    | some .string => ty == .str
    | some (.struct fs) => !P.stoodInHeld t && fieldsOk P (eqOk P n) fs.toList ty 0
    | _ => false

/-- A value of its cells. -/
def oneV (agg : Bool) (vs : List Value) : Value :=
  match agg with
  | true => .agg vs.toArray
  | false => vs.getD 0 undef

end
end Go.R

/- More operations that turn no memory. -/
namespace Go.R
open Go

theorem add_plain (ad : Addr) (h : ad.spot = none) (n : Nat) : ad.add n = ⟨ad.block, ad.off + n, none⟩ := by
  cases ad; simp at h; subst h; unfold Addr.add; split <;> simp_all

theorem run_info {P : Program} {t : TypeId} {i : TypeInfo} (h : P.info? t = some i) (w : World) : (typeInfo t).run P w = .ok i w := by simp [typeInfo, h]
theorem run_sz {P : Program} {t : TypeId} {n : Nat} (h : tySz P t = some n) (w : World) : (sizeOf t).run P w = .ok n w := by
  unfold tySz at h
  cases hi : P.info? t with
  | none => rw [hi] at h; cases h
  | some i => rw [hi] at h; simp at h; simp [sizeOf, typeInfo, hi, h]
theorem run_agg {P : Program} {t : TypeId} {b : Bool} (h : tyAgg P t = some b) (w : World) : (isAgg t).run P w = .ok b w := by
  unfold tyAgg at h
  cases hu : P.underlying t with
  | none => rw [hu] at h; cases h
  | some d =>
    rw [hu] at h
    simp only [Option.map_some, Option.some.injEq] at h
    simp only [isAgg, Sem.run_bind, run_underlying hu, Result.andThen_ok]
    subst h
    cases d <;> rfl

section
variable {P : Program} {E : Env} {w0 : Start} {S G : Nat → Prop} {M : Mem} {ρ : Places} {L : Blks} {w : World} {fr : List AV} {fs : List (List AV)} {susp : List (List Value)}

theorem RepL_one {v : AV} {vs : List Value} (h : RepL M ρ L [v] vs) : ∃ u, vs = [u] ∧ Rep M ρ L v u := by
  simp only [RepL] at h
  obtain ⟨u, r, rfl, h1, rfl⟩ := h
  exact ⟨u, rfl, h1⟩

/-- A value of its cells. -/
theorem oneQ_inv {agg : Bool} {sz : Nat} {cs : List AV} {v : AV} {d : List (Nat × Option Blk)} (h : (oneQ agg sz cs).run L done1 = some (v, d)) {us : List Value} (hr : RepL M ρ L cs us) (hb : BdL G cs) :
    d = [] ∧ us.length = sz ∧ ((agg = true ∧ v = .agg cs ∧ Rep M ρ L v (.agg us.toArray)) ∨ (agg = false ∧ ∃ u, us = [u] ∧ Rep M ρ L v u)) ∧ Bd G v := by
  unfold oneQ at h
  obtain ⟨hl, h⟩ := run_cond_inv h
  have hl := Nat.eq_of_beq_eq_true hl
  cases agg with
  | true =>
    obtain ⟨rfl, rfl⟩ := run_pure_inv h
    exact ⟨rfl, by rw [hr.length, hl], .inl ⟨rfl, rfl, by simp only [Rep]; exact ⟨_, rfl, by simpa using hr⟩⟩, by simpa [Bd] using hb⟩
  | false =>
    match cs, h with
    | [x], h =>
      obtain ⟨rfl, rfl⟩ := run_pure_inv h
      obtain ⟨u, rfl, hu⟩ := RepL_one hr
      simp only [BdL] at hb
      exact ⟨rfl, by simpa using hl, .inr ⟨rfl, u, rfl, hu⟩, hb.1⟩
    | [], h => exact (run_fail h).elim
    | _ :: _ :: _, h => exact (run_fail h).elim

theorem part_sound {ft : TypeId} {off sz : Nat} {agg : Bool} (hsz : tySz P ft = some sz) (hagg : tyAgg P ft = some agg) {cs : List AV} {us : Array Value} (hr : RepL M ρ L cs us.toList) (hb : BdL G cs)
    {v : AV} {d : List (Nat × Option Blk)} (h : (oneQ agg sz ((cs.drop off).take sz)).run L done1 = some (v, d)) : d = [] ∧ PureRes P M ρ L G w (part ft us off) v := by
  have hx := oneQ_inv h ((hr.drop off).take sz) ((hb.drop off).take sz)
  obtain ⟨rfl, hlen, hc, hbd⟩ := hx
  refine ⟨rfl, ?_⟩
  rcases hc with ⟨rfl, rfl, hrep⟩ | ⟨rfl, u, hu, hrep⟩
  · refine ⟨_, ?_, ⟨hrep, hbd⟩⟩
    simp only [part, Sem.run_bind, run_agg hagg, Result.andThen_ok, run_sz hsz, if_true, Sem.run_pure]
    congr 2
    apply Array.ext'
    simp [List.extract_eq_take_drop]
  · refine ⟨u, ?_, ⟨hrep, hbd⟩⟩
    have hg : us[off]? = some u := by
      have : ((us.toList.drop off).take sz)[0]? = some u := by rw [hu]; rfl
      rw [List.getElem?_take] at this
      split at this
      · simpa using this
      · cases this
    simp only [part, Sem.run_bind, run_agg hagg, Result.andThen_ok, Bool.false_eq_true, if_false, hg, Sem.run_pure]

/-- Numbers out of cells that are alike. -/
theorem ints_rep : {cs : List AV} → {k : IntKind} → {l : List Int} → ints cs = some (k, l) → ∀ {us : List Value}, RepL M ρ L cs us → us = l.map (Value.int k)
  | [], k, l, h, us, _ => by simp [ints] at h
  | [v], k, l, h, us, r => by
    cases v <;> simp [ints] at h
    obtain ⟨rfl, rfl⟩ := h
    obtain ⟨u, rfl, hu⟩ := RepL_one r
    simpa [Rep] using hu
  | v :: x :: cs, k, l, h, us, r => by
    cases v <;> try (simp [ints] at h; done)
    case int k0 n0 =>
      simp only [ints] at h
      cases hi : ints (x :: cs) with
      | none => rw [hi] at h; cases h
      | some p =>
        obtain ⟨k', l'⟩ := p
        rw [hi] at h
        simp only at h
        split at h
        · rename_i hk
          subst hk
          simp only [Option.some.injEq, Prod.mk.injEq] at h
          obtain ⟨rfl, rfl⟩ := h
          simp only [RepL] at r
          obtain ⟨u, r', rfl, h1, h2⟩ := r
          have := ints_rep hi (us := r') (by simp only [RepL]; exact h2)
          simp only [Rep] at h1
          rw [h1, this]
          rfl
        · cases h

theorem strs_rep : {cs : List AV} → {l : List ByteArray} → strs cs = some l → ∀ {us : List Value}, RepL M ρ L cs us → us = l.map Value.string
  | [], l, h, us, r => by simp [strs] at h; subst h; simpa [RepL] using r
  | v :: cs, l, h, us, r => by
    cases v <;> try (simp [strs] at h; done)
    case str s =>
      simp only [strs] at h
      cases hi : strs cs with
      | none => rw [hi] at h; cases h
      | some l' =>
        rw [hi] at h
        simp only [Option.some.injEq] at h
        subst h
        simp only [RepL] at r
        obtain ⟨u, r', rfl, h1, h2⟩ := r
        have := strs_rep hi h2
        simp only [Rep] at h1
        rw [h1, this]
        rfl

theorem gather_rep {cs : List AV} {us : List Value} (r : RepL M ρ L cs us) {i : Nat} {u : Value} (hi : us[i]? = some u) : Rep M ρ L (gather cs i) u ∧ Bd G (gather cs i) := by
  unfold gather
  cases h : ints cs with
  | some p =>
    obtain ⟨k, l⟩ := p
    have := ints_rep h r
    subst this
    rw [List.getElem?_map] at hi
    cases hl : l[i]? with
    | none => rw [hl] at hi; cases hi
    | some n => rw [hl] at hi; simp at hi; subst hi; simp [List.getD, hl, Rep, Bd]
  | none =>
    simp only
    cases h' : strs cs with
    | some l =>
      have := strs_rep h' r
      subst this
      rw [List.getElem?_map] at hi
      cases hl : l[i]? with
      | none => rw [hl] at hi; cases hi
      | some n => rw [hl] at hi; simp at hi; subst hi; simp [List.getD, hl, Rep, Bd]
    | none => simp [Rep, Bd]

theorem column_rep {cs : List AV} {us : List Value} (r : RepL M ρ L cs us) {n sz j : Nat} (hl : cs.length = n * sz) (hj : j < sz) : RepL M ρ L (column cs n sz j) ((List.range n).map fun q => us.getD (q * sz + j) undef) := by
  unfold column
  have key : ∀ m, m ≤ n → RepL M ρ L ((List.range' (n - m) m).map fun q => cs.getD (q * sz + j) .undef) ((List.range' (n - m) m).map fun q => us.getD (q * sz + j) undef) := by
    intro m
    induction m with
    | zero => intro _; simp [RepL]
    | succ m ih =>
      intro hm
      rw [List.range'_succ, show n - (m + 1) + 1 = n - m by omega]
      simp only [List.map_cons, RepL]
      refine ⟨_, _, rfl, ?_, ih (by omega)⟩
      have hlt : (n - (m + 1)) * sz + j < cs.length := by
        rw [hl]
        have : (n - (m + 1) + 1) * sz ≤ n * sz := Nat.mul_le_mul_right _ (by omega)
        rw [Nat.add_mul] at this
        omega
      obtain ⟨v, hv, hr⟩ := r.get (List.getElem?_eq_getElem hlt)
      simp only [List.getD, List.getElem?_eq_getElem hlt, hv, Option.getD_some]
      exact hr
  have := key n (Nat.le_refl _)
  simpa [List.range_eq_range'] using this

theorem range_inv {i : Int} {n : Nat} (h : inRange i n = true) : 0 ≤ i ∧ i < n := by simpa [inRange] using h

end

section
variable {P : Program} {E : Env} {w0 : Start} {S G : Nat → Prop} {M : Mem} {ρ : Places} {L : Blks} {w : World} {X : Exit → Act → World → Prop} {o : Oper} {a : Act} {fr : List AV} {fs : List (List AV)} {susp : List (List Value)} {v : AV} {d : List (Nat × Option Blk)}

/-- A pure operation. -/
theorem OpRes.of_pure (h : SimM E w0 S G M ρ L w) {s : Go.Sem Value} (he : ∀ w, (execOp a.eval o).run P w = (s.run P w).andThen fun v w => .ok (.value v) w) (hp : d = [] ∧ PureRes P M ρ L G w s v) : OpRes P E w0 S G M ρ L o a w X v d := by
  obtain ⟨rfl, v', hr, hv⟩ := hp
  exact OpRes.pure h (by rw [he, hr]; rfl) hv.1 hv.2

end
end Go.R

/- Loads, stores, new blocks. -/
namespace Go.R
open Go

section
variable {P : Program} {E : Env} {w0 : Start} {S G : Nat → Prop} {M : Mem} {ρ : Places} {L : Blks} {w : World} {X : Exit → Act → World → Prop} {o : Oper} {a : Act} {fr : List AV} {fs : List (List AV)} {susp : List (List Value)} {v : AV} {d : List (Nat × Option Blk)}

theorem run_ask_inv {id : Nat} {k : Option Blk → Go.R.Qn} {r : AV × List (Nat × Option Blk)} (h : (Qn.ask id k).run L done1 = some r) : (k (L id)).run L done1 = some r := h

/-- The cells at a place, as a load finds them. -/
theorem load_at {ad : Addr} (hs : ad.spot = none) {cs : List AV} {us : List Value} (hr : RepL M ρ L cs us) (hb : BdL G cs) (hc : ∀ j u, us[j]? = some u → w.cell? ⟨ad.block, ad.off + j, none⟩ = some u)
    {t : TypeId} {sz : Nat} {agg : Bool} (hsz : tySz P t = some sz) (hagg : tyAgg P t = some agg) (h : (oneQ agg sz (cs.take sz)).run L done1 = some (v, d)) : d = [] ∧ PureRes P M ρ L G w (loadVar t ad) v := by
  obtain ⟨rfl, hlen, hcase, hbd⟩ := oneQ_inv h (hr.take sz) (hb.take sz)
  refine ⟨rfl, ?_⟩
  rcases hcase with ⟨rfl, rfl, hrep⟩ | ⟨rfl, u, hu, hrep⟩
  · refine ⟨_, ?_, ⟨hrep, hbd⟩⟩
    have hl := run_loadCells_list (P := P) w ad (us.take sz) (fun j u hu => by
      rw [add_plain ad hs]
      rw [List.getElem?_take] at hu
      split at hu
      · exact hc j u hu
      · cases hu)
    rw [hlen] at hl
    simp only [loadVar, Sem.run_bind, run_agg hagg, Result.andThen_ok, if_true, run_sz hsz, hl, Sem.run_pure]
  · refine ⟨u, ?_, ⟨hrep, hbd⟩⟩
    have hg : us[0]? = some u := by
      have : (us.take sz)[0]? = some u := by rw [hu]; rfl
      rw [List.getElem?_take] at this
      split at this
      · exact this
      · cases this
    have hcell : w.cell? ad = some u := by
      have := hc 0 u hg
      cases ad
      simp at hs
      subst hs
      simpa using this
    simp only [loadVar, Sem.run_bind, run_agg hagg, Result.andThen_ok, Bool.false_eq_true, if_false, run_load, hcell]

theorem RowIn.cells {t : Ty} {xs : List (Dat t)} {cur : Array Value} (h : RowIn M t xs cur) {i : Nat} (hi : i < xs.length) : ∃ us, RepS M t (xs.getD i t.dflt) us ∧ ∀ (j : Nat) (u : Value), us[j]? = some u → cur[i * t.sz + j]? = some u := by
  obtain ⟨cs, h1, h2⟩ := h i xs[i] (List.getElem?_eq_getElem hi)
  rw [show xs.getD i t.dflt = xs[i] by simp [List.getD, List.getElem?_eq_getElem hi]]
  exact ⟨cs, h1, h2⟩

/-- A load. -/
theorem load_sound (hm : SimM E w0 S G M ρ L w) {av : AV} {pv : Value} (hp : Rep M ρ L av pv) (hbp : Bd G av) {t : TypeId} {sz : Nat} {agg : Bool} (hsz : tySz P t = some sz) (hagg : tyAgg P t = some agg)
    (h : (loadQ sz agg av).run L done1 = some (v, d)) : d = [] ∧ PureRes P M ρ L G w (Instr.loadAt t pv) v := by
  unfold loadQ at h
  split at h
  · rename_i id i j
    replace h := run_ask_inv h
    simp only [Rep] at hp
    unfold PtrV at hp
    have hblk := hm.blk id
    unfold BlkOk at hblk
    split at h
    · rename_i e ty xs hl
      rw [hl] at hp hblk
      dsimp only at hp hblk
      obtain ⟨g, cap, hr, hi, rfl⟩ := hp
      rw [hr] at hblk
      obtain ⟨_, cur, hg, _, _, _, hrow⟩ := hblk
      obtain ⟨us, h1, h2⟩ := hrow.cells hi
      have := load_at (P := P) (M := M) (ρ := ρ) (L := L) (G := G) (w := w) (ad := ⟨g, i * ty.sz + j, none⟩) rfl ((RepL.of_S h1).drop j) ((BdL_cellsOf ty _).drop j) (fun k u hu => by
        rw [cell_of_row w g _ cur e (0, 0) hg]
        rw [List.getElem?_drop] at hu
        rw [show i * ty.sz + j + k = i * ty.sz + (j + k) by omega]
        exact h2 _ _ hu) hsz hagg h
      simpa [Instr.loadAt, Instr.sureAddr, PureRes] using this
    · rename_i e cs hl
      rw [hl] at hp hblk
      dsimp only at hp hblk
      obtain ⟨g, cap, hr, _, rfl⟩ := hp
      obtain ⟨g', cap', cur, hr', hg, hrep⟩ := hblk
      rw [hr] at hr'
      cases hr'
      have := load_at (P := P) (M := M) (ρ := ρ) (L := L) (G := G) (w := w) (ad := ⟨g, j, none⟩) rfl (hrep.drop j) ((hm.bbx id e cs hl).drop j) (fun k u hu => by
        rw [cell_of_row w g _ cur e (0, 0) hg]
        rw [List.getElem?_drop] at hu
        simpa using hu) hsz hagg h
      simpa [Instr.loadAt, Instr.sureAddr, PureRes] using this
    · exact (run_fail h).elim
  · rename_i cs
    simp only [Rep] at hp
    obtain ⟨ad, us, rfl, hs, hrep, hc⟩ := hp
    have := load_at (P := P) (M := M) (ρ := ρ) (L := L) (G := G) (w := w) hs hrep (by simpa [Bd] using hbp) (fun k u hu => hm.mem.at (hc k u hu)) hsz hagg h
    simpa [Instr.loadAt, Instr.sureAddr, PureRes] using this
  · rename_i p c cs
    simp only [Rep] at hp
    obtain ⟨rfl, hp | ⟨ad, us, rfl, hs, hrep, hc⟩⟩ := hp
    · cases hp
    have := load_at (P := P) (M := M) (ρ := ρ) (L := L) (G := G) (w := w) hs hrep (by simpa [Bd] using hbp) (fun k u hu => hm.mem.at (hc k u hu)) hsz hagg h
    simpa [Instr.loadAt, Instr.sureAddr, PureRes] using this
  · exact (run_fail h).elim

theorem loadDyn_sound (hm : SimM E w0 S G M ρ L w) {av : AV} {pv : Value} (hp : Rep M ρ L av pv) {t : TypeId} (hagg : tyAgg P t = some false)
    (h : (loadDynQ av).run L done1 = some (v, d)) : d = [] ∧ PureRes P M ρ L G w (Instr.loadAt t pv) v := by
  unfold loadDynQ at h
  split at h
  · rename_i id i j
    replace h := run_ask_inv h
    simp only [Rep] at hp
    unfold PtrV at hp
    have hblk := hm.blk id
    unfold BlkOk at hblk
    split at h
    · rename_i e cs hl
      rw [hl] at hp hblk
      dsimp only at hp hblk
      obtain ⟨g, cap, hr, rfl, rfl⟩ := hp
      obtain ⟨g', cap', cur, hr', hg, hrep⟩ := hblk
      rw [hr] at hr'
      cases hr'
      obtain ⟨hj, h⟩ := run_guard_inv h
      obtain ⟨rfl, rfl⟩ := run_pure_inv h
      have hj : j < cs.length := by simpa using hj
      have hj' : j < cur.toList.length := by rw [hrep.length]; exact hj
      have hg' := gather_rep (G := G) hrep (List.getElem?_eq_getElem hj')
      refine ⟨rfl, cur.toList[j], ?_, ⟨hg'.1, hg'.2⟩⟩
      have hcell : w.cell? ⟨g, j, none⟩ = some cur.toList[j] := by
        rw [cell_of_row w g _ cur e (0, 0) hg]
        simp [show j < cur.size by simpa using hj']
      simp only [Instr.loadAt, Instr.sureAddr, Sem.run_bind, Sem.run_pure, Result.andThen_ok, loadVar, run_agg hagg, Bool.false_eq_true, if_false, run_load, hcell]
    · exact (run_fail h).elim
  · exact (run_fail h).elim

/-! ### New blocks -/

theorem grow_one (n : Nat) (b : Blk) : (fun i => G i ∨ i = n) = grow G [(n, some b)] := by
  funext i
  simp [grow]

theorem After.alloc (hm : SimM E w0 S G M ρ L w) {n : Nat} (hn : ¬ G n) {b : Blk} {cur : Array Value} {e : TypeId} {cap : Nat}
    (hb : match b with
      | .row e' t xs => e' = e ∧ 0 < t.sz ∧ List.length xs ≤ cap ∧ cap ≤ maxLen ∧ cur.size = cap * t.sz ∧ RowIn M t xs cur
      | .box e' cs => e' = e ∧ RepL M ρ L cs cur.toList ∧ BdL G cs) {v : AV} {v' : Value}
    (hv : Rep M (upd ρ n (some (w.heap.size, cap))) (upd L n (some b)) v v') (hbd : Bd (fun i => G i ∨ i = n) v) : After E w0 S G M ρ L [(n, some b)] v v' (w.alloc (.cells cur e)) := by
  obtain ⟨h1, h2⟩ := hm.alloc hn hb
  rw [grow_one n b] at h1 hbd
  exact ⟨⟨M, _, Mem.le_refl _, hv, h1, h2⟩, hbd⟩

theorem rep_box_ptr {n g cap : Nat} {e : TypeId} {cs : List AV} : Rep M (upd ρ n (some (g, cap))) (upd L n (some (.box e cs))) (.ptr n 0 0) (.pointer (some ⟨g, 0, none⟩)) := by
  simp only [Rep, PtrV, upd_same]
  exact ⟨g, cap, rfl, trivial, rfl⟩

theorem rep_row_own {n g cap : Nat} {e : TypeId} {t : Ty} {xs : List (Dat t)} : Rep M (upd ρ n (some (g, cap))) (upd L n (some (.row e t xs))) (.own n) (.slice (some ⟨g, 0, none⟩) xs.length cap) := by
  simp only [Rep, OwnV, upd_same]
  refine ⟨_, _, rfl, Nat.zero_le _, .inr ⟨g, cap, rfl, by simp, by simp⟩⟩

theorem zero_run {t : TypeId} {f : List Value → Bool} (h : zeroIs P t f = true) : ∃ i z, P.info? t = some i ∧ i.zero = some z ∧ f z.cells.toList = true ∧ z.cells.size = i.size := by
  unfold zeroIs at h
  cases hi : P.info? t with
  | none => rw [hi] at h; cases h
  | some i =>
    rw [hi] at h
    simp only at h
    cases hz : i.zero with
    | none => rw [hz] at h; cases h
    | some z =>
      rw [hz] at h
      simp only [Bool.and_eq_true, beq_iff_eq] at h
      exact ⟨i, z, rfl, hz, h.1, h.2⟩

theorem alloc_sound (hm : SimM E w0 S G M ρ L w) {e : TypeId} {z : List AV} (ho : o.op = .alloc e) (hz : zeroIs P e (avsEq z) = true) {base : Nat} (hn : ¬ G base) :
    OpRes P E w0 S G M ρ L o a w X (.ptr base 0 0) [(base, some (.box e z))] := by
  obtain ⟨i, zv, hi, hz1, hz2, hz3⟩ := zero_run hz
  have hz2 := RepL_avsEq (M := M) (ρ := ρ) (L := L) (G := G) hz2
  unfold OpRes Oper.wp
  have hrun : (execOp a.eval o).run P w = .ok (.value (.pointer (some ⟨w.heap.size, 0, none⟩))) (w.alloc (.cells zv.cells e)) := by
    simp [execOp, ho, Instr.alloc, zeroValue, typeInfo, hi, hz1, newVar, newRow]
  rw [hrun]
  exact ⟨_, rfl, After.alloc (b := .box e z) hm hn (cap := 0) ⟨rfl, hz2.1, hz2.2⟩ rep_box_ptr (by simp [Bd])⟩

theorem rep_one {v : AV} {u : Value} (h : Rep M ρ L v u) (hv : v.oneCell = true) : u.oneCell' = true ∧ u.cells = #[u] := by
  cases v <;> simp only [AV.oneCell] at hv <;> try (cases hv; done)
  all_goals simp only [Rep] at h
  case int => subst h; exact ⟨rfl, rfl⟩
  case bool => subst h; exact ⟨rfl, rfl⟩
  case str => subst h; exact ⟨rfl, rfl⟩
  case nils => subst h; exact ⟨rfl, rfl⟩
  case emp => obtain ⟨A, rfl⟩ := h; exact ⟨rfl, rfl⟩
  case nilp => subst h; exact ⟨rfl, rfl⟩
  case ro nn t xs => obtain ⟨h, _⟩ := h; simp only [RepS, List.cons.injEq, and_true] at h; obtain ⟨A, c, rfl, _⟩ := h; exact ⟨rfl, rfl⟩
  case own id => obtain ⟨A, l, c, rfl⟩ := h.form; exact ⟨rfl, rfl⟩
  case ownn id => obtain ⟨A, l, c, rfl⟩ := h.1.form; exact ⟨rfl, rfl⟩
  case ownv id lo hi => obtain ⟨A, l, c, rfl⟩ := h.form; exact ⟨rfl, rfl⟩
  case ptr id i j => obtain ⟨b, o, rfl⟩ := h.form; exact ⟨rfl, rfl⟩
  case rptr cs => obtain ⟨ad, us, rfl, _⟩ := h; exact ⟨rfl, rfl⟩
  case fn f caps => obtain ⟨us, rfl, _⟩ := h; exact ⟨rfl, rfl⟩
  case flt n => subst h; exact ⟨rfl, rfl⟩
  case errv b =>
    cases b with
    | false => rw [h.1 rfl]; exact ⟨rfl, rfl⟩
    | true => obtain ⟨t, p, e⟩ := h.2 rfl; rw [e]; exact ⟨rfl, rfl⟩

theorem rep_cells {v : AV} {u : Value} (h : Rep M ρ L v u) (hv : v.cells.all AV.oneCell = true) : RepL M ρ L v.cells u.cells.toList ∧ ∀ c ∈ u.cells, c.oneCell' = true := by
  cases v
  case agg cs =>
    simp only [Rep] at h
    obtain ⟨us, rfl, hr⟩ := h
    simp only [AV.cells, List.all_eq_true] at hv
    refine ⟨by simpa [AV.cells, Value.cells] using hr, fun c hc => ?_⟩
    simp only [Value.cells] at hc
    obtain ⟨i, hi, rfl⟩ := Array.mem_iff_getElem.1 hc
    obtain ⟨b, hb, hrb⟩ := hr.get' (i := i) (v := us[i]) (by simp [hi])
    exact (rep_one hrb (hv b (List.mem_of_getElem? hb))).1
  all_goals
    simp only [AV.cells, List.all_cons, List.all_nil, Bool.and_true] at hv
    have h1 := rep_one h hv
    rw [h1.2]
    simp only [AV.cells, RepL]
    exact ⟨⟨_, _, rfl, h, rfl⟩, fun c hc => by simp at hc; subst hc; exact h1.1⟩

theorem BdL_cells {v : AV} (h : Bd G v) : BdL G v.cells := by
  cases v <;> simp_all [AV.cells, BdL, Bd]

end
end Go.R

/- Rows told as data; stores; slices. -/
namespace Go.R
open Go

section
variable {P : Program} {E : Env} {w0 : Start} {S G : Nat → Prop} {M : Mem} {ρ : Places} {L : Blks} {w : World} {X : Exit → Act → World → Prop} {o : Oper} {a : Act} {fr : List AV} {fs : List (List AV)} {susp : List (List Value)} {v : AV} {d : List (Nat × Option Blk)}

open Classical in
/-- Rows are frozen. -/
noncomputable def freezeS (w : World) (M : Mem) (ρ : Places) (I : Nat → Prop) : Mem := fun b o => if ∃ id, I id ∧ ∃ c, ρ id = some (b, c) then w.cell? ⟨b, o, none⟩ else M b o

theorem freezeS_le (h : SimM E w0 S G M ρ L w) {I : Nat → Prop} (hI : ∀ id, I id → L id ≠ none) : M.le (freezeS w M ρ I) := fun b o v hv o' => by
  unfold freezeS
  split
  · rename_i hx
    obtain ⟨id, hi, c, hr⟩ := hx
    rw [(h.own id (hI id hi) b c hr).2 o] at hv
    cases hv
  · rfl

theorem freezeS_ok (h : SimM E w0 S G M ρ L w) {I : Nat → Prop} : MemOk (freezeS w M ρ I) w := fun b o v hv o' => by
  unfold freezeS at hv ⊢
  split at hv
  · rename_i hx; rw [if_pos hx]
  · rename_i hx; rw [if_neg hx]; exact h.mem b o v hv o'

theorem SimM.freezeS (h : SimM E w0 S G M ρ L w) {I : Nat → Prop} (hI : ∀ id, I id → L id ≠ none) {L' : Blks} (h1 : ∀ id, I id → L' id = none) (h2 : ∀ id, ¬ I id → L' id = L id) :
    SimM E w0 S G (freezeS w M ρ I) ρ L' w ∧ Still G ρ L ρ L' := by
  have hle := freezeS_le h hI
  have hlive : ∀ id, L' id ≠ none → ¬ I id ∧ L id ≠ none := fun id hl => by
    by_cases hi : I id
    · exact absurd (h1 id hi) hl
    · exact ⟨hi, by rwa [h2 id hi] at hl⟩
  have hst : Still G ρ L ρ L' := fun id hg => by
    by_cases hi : I id
    · exact .inl (h1 id hi)
    · rw [h2 id hi]; exact Still.refl_of id hg
  refine ⟨⟨freezeS_ok h, h.kp, fun g c hg => (h.glob g c hg).mono hle, fun id hl g c hr => ?_,
    fun id id' hl1 hl2 => h.inj id id' (hlive id hl1).2 (hlive id' hl2).2, fun id => ?_, fun id e cs hl => ?_, fun id hl => h.live id (hlive id hl).2, Mem.le_trans h.le hle, fun b o u hu => ?_⟩, hst⟩
  · obtain ⟨hn, hl⟩ := hlive id hl
    refine ⟨(h.own id hl g c hr).1, fun o => ?_⟩
    unfold R.freezeS
    rw [if_neg]
    · exact (h.own id hl g c hr).2 o
    · rintro ⟨id', hi', c', hr'⟩
      exact hn (by rw [h.inj id id' hl (hI id' hi') g c c' hr hr']; exact hi')
  · by_cases hi : I id
    · simp [BlkOk, h1 id hi]
    · exact (h.blk id).keep (h2 id hi) rfl hle hst (h.bbx id) (fun _ _ _ _ => rfl)
  · exact h.bbx id e cs (by rw [← hl, h2 id (hlive id (by rw [hl]; simp)).1])
  · unfold R.freezeS at hu
    split at hu
    · rename_i hx
      obtain ⟨id, hi, c, hr⟩ := hx
      exact .inr (h.own id (hI id hi) b c hr).1
    · exact h.new b o u hu

/-! ### Cells told as data -/

inductive Frz (L : Blks) : List AV → List AV → List Nat → Prop
  | nil : Frz L [] [] []
  | own {id e t xs r cs ids} (h : L id = some (.row e t xs)) (t' : Frz L r cs ids) : Frz L (.own id :: r) (.ro 0 t xs :: cs) (id :: ids)
  | ownv {id lo hi e t xs r cs ids} (h : L id = some (.row e t xs)) (t' : Frz L r cs ids) : Frz L (.ownv id lo hi :: r) (.ro 0 t (view xs lo hi) :: cs) (id :: ids)
  | other {v r cs ids} (t' : Frz L r cs ids) : Frz L (v :: r) (v :: cs) ids

theorem frz_inv {r : AV × List (Nat × Option Blk)} : {cs : List AV} → {k : List AV → List Nat → Go.R.Qn} → (frz cs k).run L done1 = some r → ∃ cs' ids, (k cs' ids).run L done1 = some r ∧ Frz L cs cs' ids
  | [], k, h => ⟨[], [], by simpa [frz] using h, .nil⟩
  | c :: r', k, h => by
    cases c
    case own id =>
      simp only [frz] at h
      replace h := run_ask_inv h
      split at h
      · rename_i e t xs hl
        obtain ⟨cs', ids, h1, h2⟩ := frz_inv h
        exact ⟨_, _, h1, .own hl h2⟩
      · exact (run_fail h).elim
    case ownv id lo hi =>
      simp only [frz] at h
      replace h := run_ask_inv h
      split at h
      · rename_i e t xs hl
        obtain ⟨cs', ids, h1, h2⟩ := frz_inv h
        exact ⟨_, _, h1, .ownv hl h2⟩
      · exact (run_fail h).elim
    all_goals
      simp only [frz] at h
      obtain ⟨cs', ids, h1, h2⟩ := frz_inv h
      exact ⟨_, _, h1, .other h2⟩

theorem Frz.live {cs cs' : List AV} {ids : List Nat} (h : Frz L cs cs' ids) : ∀ id ∈ ids, L id ≠ none := by
  induction h with
  | nil => simp
  | own h _ ih => intro id hid; rcases List.mem_cons.1 hid with rfl | hid; rw [h]; simp; exact ih id hid
  | ownv h _ ih => intro id hid; rcases List.mem_cons.1 hid with rfl | hid; rw [h]; simp; exact ih id hid
  | other _ ih => exact ih

theorem Frz.rep {M' : Mem} (hM : M.le M') {cs cs' : List AV} {ids : List Nat} (h : Frz L cs cs' ids) (hs : SimM E w0 S G M ρ L w) (hc : ∀ id ∈ ids, ∀ g c, ρ id = some (g, c) → ∀ o v, w.cell? ⟨g, o, none⟩ = some v → M' g o = some v)
    (hb : BdL G cs) {us : List Value} (hr : RepL M ρ L cs us) : RepL M' ρ L cs' us := by
  induction h generalizing us with
  | nil => simpa [RepL] using hr
  | own h _ ih =>
    simp only [RepL, BdL] at hr hb ⊢
    obtain ⟨v, r', rfl, h1, h2⟩ := hr
    refine ⟨v, r', rfl, ?_, ih (fun id hid => hc id (List.mem_cons_of_mem _ hid)) hb.2 h2⟩
    simp only [Rep] at h1 ⊢
    refine ⟨?_, by simp⟩
    have := own_data (M' := M') hM (hs.blk _) h h1 (fun g cap cur hr' hg o u hu => hc _ (List.mem_cons_self ..) g cap hr' o u (by rw [cell_of_row w g o cur _ (0, 0) hg]; exact hu))
    simpa [view] using this
  | ownv h _ ih =>
    simp only [RepL, BdL] at hr hb ⊢
    obtain ⟨v, r', rfl, h1, h2⟩ := hr
    refine ⟨v, r', rfl, ?_, ih (fun id hid => hc id (List.mem_cons_of_mem _ hid)) hb.2 h2⟩
    simp only [Rep] at h1 ⊢
    refine ⟨?_, by simp⟩
    exact own_data (M' := M') hM (hs.blk _) h h1 (fun g cap cur hr' hg o u hu => hc _ (List.mem_cons_self ..) g cap hr' o u (by rw [cell_of_row w g o cur _ (0, 0) hg]; exact hu))
  | other _ ih =>
    simp only [RepL, BdL] at hr hb ⊢
    obtain ⟨v, r', rfl, h1, h2⟩ := hr
    exact ⟨v, r', rfl, h1.mono hM Still.refl_of _ _ hb.1, ih hc hb.2 h2⟩

theorem freezeS_cells {I : Nat → Prop} {id : Nat} (hi : I id) {g c : Nat} (hr : ρ id = some (g, c)) {o : Nat} {v : Value} (h : w.cell? ⟨g, o, none⟩ = some v) : freezeS w M ρ I g o = some v := by
  unfold freezeS
  rw [if_pos ⟨id, hi, c, hr⟩]
  exact h

theorem ov_kills_in : {ids : List Nat} → {id : Nat} → id ∈ ids → ov (kills ids) L id = none
  | [], _, h => by simp at h
  | i :: r, id, h => by
    show upd (ov (kills r) L) i none id = none
    by_cases e : id = i
    · subst e; exact upd_same _ _ _
    · rw [upd_other _ _ e]
      exact ov_kills_in ((List.mem_cons.1 h).resolve_left e)

theorem ov_kills_out : {ids : List Nat} → {id : Nat} → id ∉ ids → ov (kills ids) L id = L id
  | [], _, _ => rfl
  | i :: r, id, h => by
    show upd (ov (kills r) L) i none id = _
    rw [upd_other _ _ (fun e => h (by simp [e]))]
    exact ov_kills_out (fun e => h (List.mem_cons_of_mem _ e))

theorem grow_kills (ids : List Nat) : grow G (kills ids) = G := by
  funext i
  simp [grow, kills]

theorem grow_cons_live {n : Nat} {b : Option Blk} (hn : G n) (d : List (Nat × Option Blk)) : grow G ((n, b) :: d) = grow G d := by
  funext i
  simp only [grow, List.mem_cons, Prod.mk.injEq, eq_iff_iff]
  constructor
  · rintro (h | ⟨c, h | h⟩)
    · exact .inl h
    · exact .inl (h.1 ▸ hn)
    · exact .inr ⟨c, h⟩
  · rintro (h | ⟨c, h⟩)
    · exact .inl h
    · exact .inr ⟨c, .inr h⟩

/-! ### Stores -/

theorem splice_cur {cur : Array Value} {o : Nat} {us : List Value} (hfit : o + us.length ≤ cur.size) :
    (cur.toList.take o ++ us ++ cur.toList.drop (o + us.length)).toArray.size = cur.size ∧
    (∀ k, k < o ∨ o + us.length ≤ k → (cur.toList.take o ++ us ++ cur.toList.drop (o + us.length)).toArray[k]? = cur[k]?) ∧
    (∀ k, k < us.length → (cur.toList.take o ++ us ++ cur.toList.drop (o + us.length)).toArray[o + k]? = us[k]?) := by
  have ht : (cur.toList.take o).length = o := by rw [List.length_take, Array.length_toList]; omega
  refine ⟨by simp; omega, fun k hk => ?_, fun k hk => ?_⟩
  · rw [List.getElem?_toArray]
    rcases hk with hk | hk
    · rw [List.append_assoc, List.getElem?_append_left (by omega), List.getElem?_take, if_pos hk]
      simp
    · rw [List.getElem?_append_right (by simp; omega), List.getElem?_drop]
      simp only [List.length_append, ht]
      rw [show o + us.length + (k - (o + us.length)) = k by omega]
      simp
  · rw [List.getElem?_toArray, List.append_assoc, List.getElem?_append_right (by omega), ht, show o + k - o = k by omega, List.getElem?_append_left hk]

theorem store_run {t : TypeId} {sz : Nat} (hsz : tySz P t = some sz) {g q : Nat} {e : TypeId} {cur : Array Value} (hg : w.heap[g]? = some (.cells cur e (0, 0))) {x : Value} (hx : x.cells.size = sz) (h1 : ∀ c ∈ x.cells, c.oneCell' = true) (hfit : q + sz ≤ cur.size) :
    (Instr.storeAt t (.pointer (some ⟨g, q, none⟩)) x).run P w = .ok () (w.setRow g (cur.toList.take q ++ x.cells.toList ++ cur.toList.drop (q + x.cells.toList.length)).toArray) := by
  have hst := run_storeCells_at P g q e x.cells.toList 0 cur w hg (by simp; omega) (fun v hv => h1 v (by simpa using hv))
  simp only [Nat.add_zero] at hst
  simp only [Instr.storeAt, Instr.sureAddr, storeVar, Sem.run_bind, Sem.run_pure, Result.andThen_ok, run_sz hsz, Sem.run_ite]
  rw [if_neg (by simp [hx])]
  simp only [hst]

theorem store_sound (hm : SimM E w0 S G M ρ L w) {t : TypeId} {ox oa : Operand} (ho : o.op = .store t oa ox) {sz : Nat} (hsz : tySz P t = some sz) {av xv : AV} (hp : Rep M ρ L av (a.eval oa)) (hbp : Bd G av) (hx : Rep M ρ L xv (a.eval ox)) (hbx : Bd G xv)
    (h : (storeQ sz av xv).run L done1 = some (v, d)) : OpRes P E w0 S G M ρ L o a w X v d := by
  unfold storeQ at h
  split at h
  · rename_i id i j
    replace h := run_ask_inv h
    simp only [Rep] at hp
    simp only [Bd] at hbp
    unfold PtrV at hp
    have hblk := hm.blk id
    unfold BlkOk at hblk
    split at h
    · rename_i e cs hl
      rw [hl] at hp hblk
      dsimp only at hp hblk
      obtain ⟨g, cap, hr, _, hpv⟩ := hp
      obtain ⟨g', cap', cur, hr', hg, hrep⟩ := hblk
      rw [hr] at hr'
      cases hr'
      obtain ⟨hc, h⟩ := run_cond_inv h
      simp only [Bool.and_eq_true] at hc
      obtain ⟨⟨hc1, hc2⟩, hc3⟩ := hc
      have hc1 := Nat.eq_of_beq_eq_true hc1
      have hc2 := Nat.le_of_ble_eq_true hc2
      simp only [Qn.run, done1, Option.some.injEq, Prod.mk.injEq] at h
      obtain ⟨rfl, rfl⟩ := h
      obtain ⟨hxr, hx1⟩ := rep_cells hx hc3
      have hlen : (a.eval ox).cells.size = sz := by have := hxr.length; rw [Array.length_toList] at this; omega
      have hcs : cur.size = cs.length := by have := hrep.length; rwa [Array.length_toList] at this
      have hrun := store_run (P := P) (w := w) hsz hg hlen hx1 (q := j) (by omega)
      unfold OpRes Oper.wp
      have hex : (execOp a.eval o).run P w = .ok .skip (w.setRow g (cur.toList.take j ++ (a.eval ox).cells.toList ++ cur.toList.drop (j + (a.eval ox).cells.toList.length)).toArray) := by
        simp only [execOp, ho, hpv, Sem.run_bind, hrun, Result.andThen_ok, Sem.run_pure]
      rw [hex]
      have hw := hm.write (b' := .box e (splice cs j xv.cells)) (cur' := (cur.toList.take j ++ (a.eval ox).cells.toList ++ cur.toList.drop (j + (a.eval ox).cells.toList.length)).toArray) hl hr hg trivial
        ⟨rfl, by simpa using hrep.splice hxr j, ((hm.bbx id e cs hl).take j |>.append (BdL_cells hbx)).append ((hm.bbx id e cs hl).drop _)⟩
      exact ⟨undef, rfl, ⟨⟨M, ρ, Mem.le_refl _, by simp [Rep], by rw [grow_cons_live hbp, grow_nil]; exact hw.1, hw.2⟩, by simp [Bd]⟩⟩
    · rename_i e ty xs hl
      rw [hl] at hp hblk
      dsimp only at hp hblk
      obtain ⟨g, cap, hr, hi, hpv⟩ := hp
      rw [hr] at hblk
      obtain ⟨hpos, cur, hg, hcap1, hcap2, hcsz, hrow⟩ := hblk
      obtain ⟨vs, ids, h, hfz⟩ := frz_inv h
      obtain ⟨hc, h⟩ := run_cond_inv h
      simp only [Bool.and_eq_true] at hc
      obtain ⟨⟨⟨hc1, hc2⟩, hc3⟩, hc4⟩ := hc
      have hc1 := Nat.eq_of_beq_eq_true hc1
      have hc2 := Nat.le_of_ble_eq_true hc2
      have hc3 : id ∉ ids := fun hmem => by
        have : ids.any (Nat.beq id) = true := List.any_eq_true.2 ⟨id, hmem, Nat.beq_refl id⟩
        rw [this] at hc3
        cases hc3
      split at h
      · rename_i y hy
        simp only [Qn.run, done1, Option.some.injEq, Prod.mk.injEq] at h
        obtain ⟨rfl, rfl⟩ := h
        obtain ⟨us, hu1, hu2⟩ := hrow.cells hi
        -- the rows that are told as data
        have hfs := hm.freezeS (I := fun q => q ∈ ids) hfz.live (L' := ov (kills ids) L) (fun q hq => ov_kills_in hq) (fun q hq => ov_kills_out hq)
        have hle := freezeS_le hm (I := fun q => q ∈ ids) hfz.live
        obtain ⟨hxr0, hx1⟩ := rep_cells hx hc4
        have hxr : RepL (freezeS w M ρ (fun q => q ∈ ids)) ρ L vs (a.eval ox).cells.toList :=
          hfz.rep hle hm (fun q hq g' c' hr' o' v' hv' => freezeS_cells hq hr' hv') (BdL_cells hbx) hxr0
        have hlen : (a.eval ox).cells.size = sz := by have := hxr.length; rw [Array.length_toList] at this; omega
        have husz : us.length = ty.sz := hu1.len
        have hfit : i * ty.sz + ty.sz ≤ cur.size := by
          rw [hcsz, ← Nat.succ_mul]
          exact Nat.mul_le_mul_right _ (by omega)
        have hrun := store_run (P := P) (w := w) hsz hg hlen hx1 (q := i * ty.sz + j) (by omega)
        have hlen' : (a.eval ox).cells.toList.length = sz := by simpa using hlen
        obtain ⟨hs1, hs2, hs3⟩ := splice_cur (cur := cur) (o := i * ty.sz + j) (us := (a.eval ox).cells.toList) (by omega)
        generalize hcur' : (cur.toList.take (i * ty.sz + j) ++ (a.eval ox).cells.toList ++ cur.toList.drop (i * ty.sz + j + (a.eval ox).cells.toList.length)).toArray = cur' at *
        have hnew := RepS.of_dec hy ((RepL.of_S (ρ := ρ) (L := L) (hu1.mono hle)).splice hxr j)
        have hrow' : RowIn (freezeS w M ρ (fun q => q ∈ ids)) ty (xs.set i y) cur' := fun k x hk => by
          by_cases hki : k = i
          · subst hki
            rw [List.getElem?_set_self hi] at hk
            cases hk
            refine ⟨_, hnew, fun m u hm' => ?_⟩
            rw [List.append_assoc] at hm'
            by_cases h1 : m < j
            · rw [List.getElem?_append_left (by rw [List.length_take]; omega), List.getElem?_take, if_pos h1] at hm'
              rw [hs2 _ (.inl (by omega))]
              exact hu2 _ _ hm'
            · rw [List.getElem?_append_right (by rw [List.length_take]; omega), List.length_take, Nat.min_eq_left (by omega)] at hm'
              by_cases h2 : m < j + sz
              · rw [List.getElem?_append_left (by omega)] at hm'
                have := hs3 (m - j) (by omega)
                rw [show k * ty.sz + j + (m - j) = k * ty.sz + m by omega] at this
                rw [this]
                exact hm'
              · rw [List.getElem?_append_right (by omega), List.getElem?_drop, hlen', show j + sz + (m - j - sz) = m by omega] at hm'
                rw [hs2 _ (.inr (by omega))]
                exact hu2 _ _ hm'
          · rw [List.getElem?_set_ne (Ne.symm hki)] at hk
            obtain ⟨cs, hc1', hc2'⟩ := hrow k x hk
            refine ⟨cs, hc1'.mono hle, fun m u hm' => ?_⟩
            have hmlt : m < ty.sz := by
              rw [← hc1'.len]
              exact (List.getElem?_eq_some_iff.1 hm').1
            rw [hs2 _ ?_]
            · exact hc2' m u hm'
            · rcases Nat.lt_or_gt_of_ne hki with hlt | hgt
              · left
                have : (k + 1) * ty.sz ≤ i * ty.sz := Nat.mul_le_mul_right _ hlt
                rw [Nat.succ_mul] at this
                omega
              · right
                have : (i + 1) * ty.sz ≤ k * ty.sz := Nat.mul_le_mul_right _ hgt
                rw [Nat.succ_mul] at this
                omega
        have hw := hfs.1.write (n := id) (b := .row e ty xs) (b' := .row e ty (xs.set i y)) (cur' := cur') (by rw [ov_kills_out hc3, hl]) hr hg (by simp [Alike])
          ⟨rfl, hpos, by simpa using hcap1, hcap2, by rw [hs1, hcsz], hrow'⟩
        unfold OpRes Oper.wp
        have hex : (execOp a.eval o).run P w = .ok .skip (w.setRow g cur') := by
          simp only [execOp, ho, hpv, Sem.run_bind, hrun, Result.andThen_ok, Sem.run_pure]
        rw [hex]
        refine ⟨undef, rfl, ⟨⟨_, ρ, hle, by simp [Rep], ?_, ?_⟩, by simp [Bd]⟩⟩
        · rw [grow_cons_live hbp, grow_kills]
          exact hw.1
        · intro q hq
          rcases hfs.2 q hq with h0 | ⟨h0, _⟩
          · rcases hw.2 q hq with h1 | ⟨h1, _⟩
            · exact .inl h1
            · rw [h0] at h1
              simp [Alike] at h1
          · rcases hw.2 q hq with h1 | ⟨h1, h2⟩
            · exact .inl h1
            · refine .inr ⟨?_, h2⟩
              by_cases hqi : q ∈ ids
              · rw [ov_kills_in hqi] at h1; simp [Alike] at h1
              · rwa [ov_kills_out hqi] at h1
      · exact (run_fail h).elim
    · exact (run_fail h).elim
  · exact (run_fail h).elim

/-- A row that is not empty is written into a variable that is nil where it is empty. -/
theorem nstore_sound (hm : SimM E w0 S G M ρ L w) {t : TypeId} {ox oa : Operand} (ho : o.op = .store t oa ox) (hsz : tySz P t = some 1) {av xv : AV} (hp : Rep M ρ L av (a.eval oa)) (hbp : Bd G av) (hx : Rep M ρ L xv (a.eval ox)) (hbx : Bd G xv)
    (h : (nstoreQ av xv).run L done1 = some (v, d)) : OpRes P E w0 S G M ρ L o a w X v d := by
  unfold nstoreQ at h
  split at h
  · rename_i q
    replace h := run_ask_inv h
    split at h
    · rename_i e2 t2 xs hlq
      obtain ⟨hne, h⟩ := run_guard_inv h
      refine store_sound hm ho hsz hp hbp (xv := .ownn q) ?_ (by simpa [Bd] using hbx) h
      simp only [Rep] at hx ⊢
      refine ⟨hx, fun e t hl => ?_⟩
      rw [hlq] at hl
      cases hl
      simp at hne
    · exact (run_fail h).elim
  · exact (run_fail h).elim

end
end Go.R

/- Boxes, slices made, cut, appended to. -/
namespace Go.R
open Go

section
variable {P : Program} {E : Env} {w0 : Start} {S G : Nat → Prop} {M : Mem} {ρ : Places} {L : Blks} {w : World} {X : Exit → Act → World → Prop} {o : Oper} {a : Act} {fr : List AV} {fs : List (List AV)} {susp : List (List Value)} {v : AV} {d : List (Nat × Option Blk)}

theorem box_sound (hm : SimM E w0 S G M ρ L w) {e : TypeId} {ox : Operand} (ho : o.op = .box e ox) {xv : AV} (hx : Rep M ρ L xv (a.eval ox)) (hbx : Bd G xv) {base : Nat} (hn : ¬ G base)
    (h : (cond (xv.cells.all AV.oneCell) (Qn.done (.ptr base 0 0) [(base, some (.box e xv.cells))]) .fail).run L done1 = some (v, d)) : OpRes P E w0 S G M ρ L o a w X v d := by
  obtain ⟨hc, h⟩ := run_cond_inv h
  simp only [Qn.run, done1, Option.some.injEq, Prod.mk.injEq] at h
  obtain ⟨rfl, rfl⟩ := h
  obtain ⟨hxr, _⟩ := rep_cells hx hc
  unfold OpRes Oper.wp
  have hrun : (execOp a.eval o).run P w = .ok (.value (.pointer (some ⟨w.heap.size, 0, none⟩))) (w.alloc (.cells (a.eval ox).cells e)) := by
    simp [execOp, ho, Instr.box, newVar, newRow]
  rw [hrun]
  exact ⟨_, rfl, After.alloc (b := .box e xv.cells) hm hn (cap := 0) ⟨rfl, hxr, BdL_cells hbx⟩ rep_box_ptr (by simp [Bd])⟩

/-- What is known of an element's type. -/
theorem elem_run {e : TypeId} {t : Ty} {bytes : Nat} (h : elemIs P e t bytes = true) : ∃ i z, P.info? e = some i ∧ i.size = t.sz ∧ i.bytes = bytes ∧ 0 < t.sz ∧ 0 < bytes ∧ i.zero = some z ∧ z.cells.toList = zvals t ∧ z.cells.size = t.sz := by
  unfold elemIs at h
  cases hi : P.info? e with
  | none => rw [hi] at h; cases h
  | some i =>
    rw [hi] at h
    simp only [Bool.and_eq_true, beq_iff_eq, decide_eq_true_eq] at h
    obtain ⟨⟨⟨⟨h1, h2⟩, h3⟩, h4⟩, h5⟩ := h
    obtain ⟨i', z, hi', hz, hv, hs⟩ := zero_run h5
    rw [hi] at hi'
    cases hi'
    exact ⟨i, z, rfl, h1, h2, h3, h4, hz, valsEq_eq hv, by rw [hs, h1]⟩

theorem elem_ty {t e : TypeId} (h : tyElem P t = some e) : P.underlying t = some (.slice e) := by
  unfold tyElem at h
  split at h
  · rename_i e' hu; cases h; exact hu
  · cases h

theorem made_get (z : Array Value) (t : Ty) (hz : z.toList = zvals t) (hs : z.size = t.sz) (n i j : Nat) (hi : i < n) (hj : j < t.sz) : (madeCells z (n * t.sz))[i * t.sz + j]? = (zvals t)[j]? := by
  have hlt : i * t.sz + j < n * t.sz := by
    have : (i + 1) * t.sz ≤ n * t.sz := Nat.mul_le_mul_right _ hi
    rw [Nat.succ_mul] at this
    omega
  unfold madeCells
  rw [Array.getElem?_map]
  rw [show (Array.range (n * t.sz))[i * t.sz + j]? = some (i * t.sz + j) by simp [hlt]]
  simp only [Option.map_some]
  rw [hs, show (i * t.sz + j) % t.sz = j by rw [Nat.mul_comm, Nat.mul_add_mod]; exact Nat.mod_eq_of_lt hj]
  rw [← hz]
  have : j < z.size := by omega
  simp [this]

theorem rowIn_replicate {t : Ty} {cur : Array Value} {n : Nat} (h : ∀ i j, i < n → j < t.sz → cur[i * t.sz + j]? = (zvals t)[j]?) : RowIn M t (List.replicate n t.dflt) cur := fun i x hx => by
  rw [List.getElem?_replicate] at hx
  split at hx
  · rename_i hi
    cases hx
    refine ⟨_, RepS_dflt M t, fun j u hu => ?_⟩
    have hj : j < t.sz := by rw [← (RepS_dflt M t).len]; exact (List.getElem?_eq_some_iff.1 hu).1
    rw [h i j hi hj]
    exact hu
  · cases hx

theorem makeSlice_sound (hm : SimM E w0 S G M ρ L w) {ty e : TypeId} {t : Ty} {bytes : Nat} {ol oc : Operand} (ho : o.op = .makeSlice ty ol oc) (hty : tyElem P ty = some e) (he : elemIs P e t bytes = true)
    {kl kc : IntKind} {l c : Int} (hl : a.eval ol = .int kl l) (hc : a.eval oc = .int kc c) {base : Nat} (hn : ¬ G base)
    (h : (Qn.guard (decide (0 ≤ l) && decide (l ≤ c) && decide ((bytes : Int) * c ≤ 281474976710656)) (.done (.own base) [(base, some (.row e t (List.replicate l.toNat t.dflt)))])).run L done1 = some (v, d)) :
    OpRes P E w0 S G M ρ L o a w X v d := by
  obtain ⟨hg, h⟩ := run_guard_inv h
  simp only [Qn.run, done1, Option.some.injEq, Prod.mk.injEq] at h
  obtain ⟨rfl, rfl⟩ := h
  simp only [Bool.and_eq_true, decide_eq_true_eq] at hg
  obtain ⟨⟨h0, h1⟩, h2⟩ := hg
  obtain ⟨i, z, hi, hsz, hby, hpos, hb0, hz, hzl, hzs⟩ := elem_run he
  have hbc : c ≤ 281474976710656 := by
    have : (1 : Int) * c ≤ (bytes : Int) * c := Int.mul_le_mul_of_nonneg_right (by omega) (by omega)
    omega
  have hrun := run_make (P := P) w ty e i z (elem_ty hty) hi hz kl kc l c h0 h1 (by rw [hby]; exact h2) (by omega)
  unfold OpRes Oper.wp
  have hex : (execOp a.eval o).run P w = .ok (.value (.slice (some ⟨w.heap.size, 0, none⟩) l.toNat c.toNat)) (w.alloc (.cells (madeCells z.cells (c.toNat * t.sz)) e)) := by
    simp only [execOp, ho, hl, hc, Sem.run_bind, hrun, hsz, Result.andThen_ok, Sem.run_pure]
  rw [hex]
  refine ⟨_, rfl, After.alloc (b := .row e t (List.replicate l.toNat t.dflt)) hm hn (cap := c.toNat) ⟨rfl, hpos, by simp; omega, by simp only [maxLen]; omega, size_madeCells _ _, rowIn_replicate fun i j hi' hj => ?_⟩ ?_ (by simp [Bd])⟩
  · exact made_get z.cells t hzl hzs c.toNat i j (by omega) hj
  · have := rep_row_own (M := M) (ρ := ρ) (L := L) (n := base) (g := w.heap.size) (cap := c.toNat) (e := e) (t := t) (xs := List.replicate l.toNat t.dflt)
    simpa using this

/-! ### Cuts -/

theorem sliceBound_ok {k : IntKind} {i : Int} {y : Nat} {code : BoundsCode} (h0 : 0 ≤ i) (h1 : i ≤ y) : (Instr.sliceBound (.int k i) y code).run P w = .ok i.toNat w := by
  simp [Instr.sliceBound, asIntOf, h0, h1]

/-- An optional operand. -/
def RepO (M : Mem) (ρ : Places) (L : Blks) (a : Option AV) (v : Option Value) : Prop := match a, v with | none, none => True | some a, some v => Rep M ρ L a v | _, _ => False

/-- Bounds that fit. -/
theorem bounds_sound {lo hi : Option AV} {len : Nat} {k : Option Nat → Option Nat → Go.R.Qn} {r : AV × List (Nat × Option Blk)} (h : (bounds lo hi len k).run L done1 = some r)
    {olo ohi : Option Value} (hlo : RepO M ρ L lo olo) (hhi : RepO M ρ L hi ohi)
    (isSlice : Bool) {cap : Nat} (hcap : len ≤ cap) :
    ∃ l h', (k l h').run L done1 = some r ∧ (Instr.sliceBounds isSlice len cap olo ohi none).run P w = .ok (l.getD 0, h'.getD len, cap) w ∧ l.getD 0 ≤ h'.getD len ∧ h'.getD len ≤ len ∧ h'.isSome = hi.isSome := by
  unfold RepO at hlo hhi
  unfold bounds at h
  split at h
  · cases olo <;> simp only at hlo
    cases ohi <;> simp only at hhi
    exact ⟨none, none, h, by simp [Instr.sliceBounds], by simp, by simp, rfl⟩
  · rename_i kl l
    cases olo <;> simp only at hlo
    cases ohi <;> simp only at hhi
    simp only [Rep] at hlo
    subst hlo
    obtain ⟨hg, h⟩ := run_guard_inv h
    simp only [Bool.and_eq_true, decide_eq_true_eq] at hg
    refine ⟨_, _, h, ?_, by simp; omega, by simp, rfl⟩
    simp only [Instr.sliceBounds, Sem.run_bind, Sem.run_pure, Result.andThen_ok, sliceBound_ok hg.1 hg.2, Option.getD]
  · rename_i kh h'
    cases olo <;> simp only at hlo
    cases ohi <;> simp only at hhi
    simp only [Rep] at hhi
    subst hhi
    obtain ⟨hg, h⟩ := run_guard_inv h
    simp only [Bool.and_eq_true, decide_eq_true_eq] at hg
    refine ⟨_, _, h, ?_, by simp, by simp; omega, rfl⟩
    simp only [Instr.sliceBounds, Sem.run_bind, Sem.run_pure, Result.andThen_ok, sliceBound_ok hg.1 (show h' ≤ (cap : Int) by omega), Option.getD]
  · rename_i kl l kh h'
    cases olo <;> simp only at hlo
    cases ohi <;> simp only at hhi
    simp only [Rep] at hlo hhi
    subst hlo hhi
    obtain ⟨hg, h⟩ := run_guard_inv h
    simp only [Bool.and_eq_true, decide_eq_true_eq] at hg
    obtain ⟨⟨g1, g2⟩, g3⟩ := hg
    refine ⟨_, _, h, ?_, by simp; omega, by simp; omega, rfl⟩
    simp only [Instr.sliceBounds, Sem.run_bind, Sem.run_pure, Result.andThen_ok, sliceBound_ok (show 0 ≤ h' by omega) (show h' ≤ (cap : Int) by omega), sliceBound_ok g1 (show l ≤ ((h'.toNat : Nat) : Int) by omega), Option.getD]
  · exact (run_fail h).elim

/-- A slice of a slice. -/
theorem slice_run {ty e : TypeId} (hty : tyElem P ty = some e) {sz : Nat} (hsz : tySz P e = some sz) {A : Option Addr} {len cap l h : Nat} {olo ohi : Option Value} (hb : (Instr.sliceBounds true len cap olo ohi none).run P w = .ok (l, h, cap) w) :
    (Instr.sliceAt ty (.slice A len cap) olo ohi none).run P w = .ok (.slice (if cap = l then A else A.map (·.add (l * sz))) (h - l) (cap - l)) w := by
  simp only [Instr.sliceAt, Sem.run_bind, run_underlying (elem_ty hty), Result.andThen_ok, Instr.slice, hb, run_sz hsz, Sem.run_pure]

end
end Go.R

/- Cuts, lengths, elements' places. -/
namespace Go.R
open Go

section
variable {P : Program} {E : Env} {w0 : Start} {S G : Nat → Prop} {M : Mem} {ρ : Places} {L : Blks} {w : World} {X : Exit → Act → World → Prop} {o : Oper} {a : Act} {fr : List AV} {fs : List (List AV)} {susp : List (List Value)} {v : AV} {d : List (Nat × Option Blk)}

theorem addN_eq (a b : Nat) : addN a b = a + b := by cases a <;> simp [addN]

theorem OwnV.cut {id lo : Nat} {hi : Option Nat} {e : TypeId} {t : Ty} {xs : List (Dat t)} (hl : L id = some (.row e t xs)) {A : Option Addr} {c l h : Nat} (hin : inView xs.length lo hi)
    (hcase : (c = 0 ∧ lo = xs.length) ∨ ∃ g cap, ρ id = some (g, cap) ∧ A = some ⟨g, lo * t.sz, none⟩ ∧ lo + c = cap) (hroom : ∀ g cap, ρ id = some (g, cap) → xs.length ≤ cap) (hlc : vlen xs.length lo hi ≤ c) (h1 : l ≤ h) (h2 : h ≤ vlen xs.length lo hi) (hi' : Option Nat) (hv : vlen xs.length (lo + l) hi' = h - l) (hin' : inView xs.length (lo + l) hi') :
    OwnV ρ L id (lo + l) hi' (.slice (if c = l then A else A.map (·.add (l * t.sz))) (h - l) (c - l)) := by
  unfold OwnV
  rw [hl]
  refine ⟨_, _, by rw [hv], hin', ?_⟩
  by_cases hcl : c = l
  · left
    refine ⟨by omega, ?_⟩
    have hle : lo + l ≤ xs.length := by cases hi' <;> simp only [inView] at hin' <;> omega
    rcases hcase with ⟨h3, h4⟩ | ⟨g, cap, hr, hA, hcap⟩
    · omega
    · have := hroom g cap hr
      omega
  · rw [if_neg hcl]
    rcases hcase with ⟨h3, h4⟩ | ⟨g, cap, hr, hA, hcap⟩
    · have := vlen_end hin h4
      omega
    · right
      refine ⟨g, cap, hr, ?_, by omega⟩
      subst hA
      simp only [Option.map_some, Option.some.injEq]
      rw [add_plain _ rfl]
      simp only [Addr.mk.injEq, true_and, and_true]
      rw [Nat.add_mul]

theorem RepS_view {t : Ty} {xs : List (Dat t)} {A : Option Addr} {c l : Nat} (hS : RepS M (.slice t) xs [.slice A xs.length c]) (hi : Option Nat) (hin : inView xs.length l hi) (hcl : xs.length ≤ c) :
    RepS M (.slice t) (view xs l hi) [.slice (if c = l then A else A.map (·.add (l * t.sz))) (vlen xs.length l hi) (c - l)] := by
  simp only [RepS, List.cons.injEq, Value.slice.injEq, and_true] at hS ⊢
  obtain ⟨A', c', ⟨rfl, _, rfl⟩, ⟨_, hnil⟩, hel⟩ := hS
  refine ⟨_, _, ⟨rfl, (view_length _ _ _ hin).symm, rfl⟩, ⟨?_, fun hn => ?_⟩, fun i x hx => ?_⟩
  · rw [view_length _ _ _ hin]
    cases hi with
    | none => simp only [vlen]; omega
    | some b => simp only [vlen, inView] at *; omega
  · have : A = none := by
      split at hn
      · exact hn
      · simpa using hn
    have := hnil this
    omega
  · have hlt : i < (view xs l hi).length := (List.getElem?_eq_some_iff.1 hx).1
    rw [view_length _ _ _ hin] at hlt
    obtain ⟨ad, cs, rfl, hs, hr, hc⟩ := hel (l + i) x (view_get xs l hi i x hx)
    have hne : ¬ c = l := by
      intro e
      cases hi with
      | none => simp only [vlen] at hlt; omega
      | some b => simp only [vlen, inView] at *; omega
    rw [if_neg hne]
    refine ⟨_, cs, rfl, ?_, hr, fun j u hu => ?_⟩
    · show (ad.add (l * t.sz)).spot = none
      rw [add_plain ad hs]
    · show M (ad.add (l * t.sz)).block ((ad.add (l * t.sz)).off + _) = _
      rw [add_plain ad hs]
      have := hc j u hu
      rw [show ad.off + l * t.sz + (i * t.sz + j) = ad.off + ((l + i) * t.sz + j) by rw [Nat.add_mul]; omega]
      exact this

theorem own_cap (hm : SimM E w0 S G M ρ L w) {id lo : Nat} {hi : Option Nat} {e : TypeId} {t : Ty} {xs : List (Dat t)} (hl : L id = some (.row e t xs)) {A : Option Addr} {c : Nat} (hin : inView xs.length lo hi)
    (hcase : (c = 0 ∧ lo = xs.length) ∨ ∃ g cap, ρ id = some (g, cap) ∧ A = some ⟨g, lo * t.sz, none⟩ ∧ lo + c = cap) : vlen xs.length lo hi ≤ c := by
  rcases hcase with ⟨h1, h2⟩ | ⟨g, cap, hr, _, hcap⟩
  · have := vlen_end hin h2
    omega
  · have hb := hm.blk id
    unfold BlkOk at hb
    rw [hl, hr] at hb
    obtain ⟨_, cur, _, h1, _⟩ := hb
    cases hi with
    | none => simp only [vlen]; omega
    | some b => simp only [vlen, inView] at *; omega

theorem own_room (hm : SimM E w0 S G M ρ L w) {id : Nat} {e : TypeId} {t : Ty} {xs : List (Dat t)} (hl : L id = some (.row e t xs)) : ∀ g cap, ρ id = some (g, cap) → xs.length ≤ cap := fun g cap hr => by
  have hb := hm.blk id
  unfold BlkOk at hb
  rw [hl, hr] at hb
  obtain ⟨_, cur, _, h1, _⟩ := hb
  exact h1

theorem slice_sound (hm : SimM E w0 S G M ρ L w) {ty e : TypeId} {t : Ty} (hty : tyElem P ty = some e) (hsz : tySz P e = some t.sz) {av : AV} {xv : Value} (hx : Rep M ρ L av xv) (hb : Bd G av) {lo hi mx : Option AV} {olo ohi omx : Option Value}
    (hlo : RepO M ρ L lo olo) (hhi : RepO M ρ L hi ohi) (hmx : RepO M ρ L mx omx) (hstr : ∀ s, av ≠ .str s) (h : (sliceQ t av lo hi mx).run L done1 = some (v, d)) :
    d = [] ∧ PureRes P M ρ L G w (Instr.sliceAt ty xv olo ohi omx) v := by
  unfold sliceQ at h
  split at h
  · -- 's[:0:0]'
    rename_i m
    split at h
    · rename_i h'
      obtain ⟨hc, h⟩ := run_cond_inv h
      obtain ⟨rfl, rfl⟩ := run_pure_inv h
      simp only [Bool.and_eq_true] at hc
      obtain ⟨⟨⟨hc1, hc2⟩, hc3⟩, hc4⟩ := hc
      cases omx with
      | none => simp [RepO] at hmx
      | some vm =>
        cases ohi with
        | none => simp [RepO] at hhi
        | some vh =>
          cases lo with
          | some _ => simp at hc3
          | none =>
            cases olo with
            | some _ => simp [RepO] at hlo
            | none =>
              simp only [RepO] at hmx hhi
              have z : ∀ {q : AV} {u : Value}, isZero q = true → Rep M ρ L q u → ∃ k, u = .int k 0 := by
                intro q u hq hu
                unfold isZero at hq
                split at hq
                · simp only [Rep] at hu; exact ⟨_, hu⟩
                · cases hq
              obtain ⟨k1, rfl⟩ := z hc1 hmx
              obtain ⟨k2, rfl⟩ := z hc2 hhi
              have hform : ∃ A l c, xv = .slice A l c := by
                cases av <;> simp only [AV.isSlice] at hc4 <;> try (cases hc4; done)
                all_goals simp only [Rep] at hx
                case nils => exact ⟨_, _, _, hx⟩
                case emp => obtain ⟨A, rfl⟩ := hx; exact ⟨_, _, _, rfl⟩
                case ro => obtain ⟨hx, _⟩ := hx; simp only [RepS, List.cons.injEq, and_true] at hx; obtain ⟨A, c, rfl, _⟩ := hx; exact ⟨_, _, _, rfl⟩
                case own => exact hx.form
                case ownv => exact hx.form
              obtain ⟨A, l, c, rfl⟩ := hform
              refine ⟨rfl, .slice A 0 0, ?_, ⟨by simp [Rep], by simp [Bd]⟩⟩
              simp only [Instr.sliceAt, Sem.run_bind, run_underlying (elem_ty hty), Result.andThen_ok, Instr.slice, Instr.sliceBounds, sliceBound_ok (show (0 : Int) ≤ 0 by omega) (show (0 : Int) ≤ (c : Int) by omega), sliceBound_ok (show (0 : Int) ≤ 0 by omega) (show (0 : Int) ≤ (((0 : Int).toNat : Nat) : Int) by simp), Sem.run_pure, run_sz hsz]
              simp
    · exact (run_fail h).elim
  · cases omx with
    | some _ => simp [RepO] at hmx
    | none =>
      split at h
      · -- nil
        simp only [Rep] at hx
        subst hx
        obtain ⟨l, h', hk, hrun, h1, h2⟩ := bounds_sound (P := P) (w := w) h hlo hhi true (cap := 0) (Nat.le_refl _)
        obtain ⟨rfl, rfl⟩ := run_pure_inv hk
        refine ⟨rfl, _, slice_run hty hsz hrun, ⟨?_, by simp [Bd]⟩⟩
        simp only [Rep]
        exact ⟨_, by rw [show h'.getD 0 = 0 by omega, show l.getD 0 = 0 by omega]⟩
      · simp only [Rep] at hx
        obtain ⟨A, rfl⟩ := hx
        obtain ⟨l, h', hk, hrun, h1, h2⟩ := bounds_sound (P := P) (w := w) h hlo hhi true (cap := 0) (Nat.le_refl _)
        obtain ⟨rfl, rfl⟩ := run_pure_inv hk
        refine ⟨rfl, _, slice_run hty hsz hrun, ⟨?_, by simp [Bd]⟩⟩
        simp only [Rep]
        exact ⟨_, by rw [show h'.getD 0 = 0 by omega, show l.getD 0 = 0 by omega]⟩
      · rename_i s
        exact absurd rfl (hstr s)
      · -- what is only read
        rename_i nn u xs
        simp only [Rep] at hx
        obtain ⟨hS, _⟩ := hx
        have hS0 := hS
        simp only [RepS, List.cons.injEq, and_true] at hS
        obtain ⟨A, c, rfl, ⟨hlc, _⟩, _⟩ := hS
        obtain ⟨l, h', hk, hrun, h1, h2⟩ := bounds_sound (P := P) (w := w) h hlo hhi true hlc
        have hut : u = t ∧ d = [] ∧ v = .ro 0 u (view xs (l.getD 0) h') := by
          cases hq : (u == t) with
          | true => rw [hq] at hk; obtain ⟨rfl, rfl⟩ := run_pure_inv hk; exact ⟨by simpa using hq, rfl, rfl⟩
          | false => rw [hq] at hk; exact (run_fail hk).elim
        obtain ⟨rfl, rfl, rfl⟩ := hut
        refine ⟨rfl, _, slice_run hty hsz hrun, ⟨?_, by simp [Bd]⟩⟩
        simp only [Rep]
        refine ⟨?_, by simp⟩
        have hin : inView xs.length (l.getD 0) h' := by cases h' <;> simp [inView] at * <;> omega
        have := RepS_view hS0 h' hin hlc
        have hv : vlen xs.length (l.getD 0) h' = h'.getD xs.length - l.getD 0 := by cases h' <;> simp [vlen]
        rwa [hv] at this
      · -- a row of the call's own
        rename_i id
        replace h := run_ask_inv h
        split at h
        · rename_i e' t' xs hl
          simp only [Rep] at hx
          have hx0 := hx
          unfold OwnV at hx
          rw [hl] at hx
          dsimp only at hx
          obtain ⟨A, c, rfl, hin, hcase⟩ := hx
          have hlc := own_cap hm hl hin hcase
          obtain ⟨l, h', hk, hrun, h1, h2⟩ := bounds_sound (P := P) (w := w) h hlo hhi true (cap := c) (by simpa [vlen] using hlc)
          have hut : t' = t ∧ d = [] ∧ v = .ownv id (l.getD 0) h' := by
            cases hq : (t' == t) with
            | true => rw [hq] at hk; obtain ⟨rfl, rfl⟩ := run_pure_inv hk; exact ⟨by simpa using hq, rfl, rfl⟩
            | false => rw [hq] at hk; exact (run_fail hk).elim
          obtain ⟨rfl, rfl, rfl⟩ := hut
          refine ⟨rfl, _, slice_run hty hsz hrun, ⟨?_, by simpa [Bd] using hb⟩⟩
          simp only [Rep]
          have hv : vlen xs.length (0 + l.getD 0) h' = h'.getD xs.length - l.getD 0 := by cases h' <;> simp [vlen]
          have := OwnV.cut hl hin hcase (own_room hm hl) hlc (l := l.getD 0) (h := h'.getD xs.length) h1 (by simp only [vlen]; omega) h' hv (by cases h' <;> simp [inView] at * <;> omega)
          simpa using this
        · exact (run_fail h).elim
      · rename_i id lo'
        replace h := run_ask_inv h
        split at h
        · rename_i e' t' xs hl
          simp only [Rep] at hx
          unfold OwnV at hx
          rw [hl] at hx
          dsimp only at hx
          obtain ⟨A, c, rfl, hin, hcase⟩ := hx
          have hlc := own_cap hm hl hin hcase
          simp only [addN_eq] at h
          obtain ⟨l, h', hk, hrun, h1, h2⟩ := bounds_sound (P := P) (w := w) h hlo hhi true (cap := c) (by simpa [vlen] using hlc)
          have hut : t' = t ∧ d = [] ∧ v = .ownv id (lo' + l.getD 0) (h'.map (lo' + ·)) := by
            cases hq : (t' == t) with
            | true => rw [hq] at hk; obtain ⟨rfl, rfl⟩ := run_pure_inv hk; exact ⟨by simpa using hq, rfl, rfl⟩
            | false => rw [hq] at hk; exact (run_fail hk).elim
          obtain ⟨rfl, rfl, rfl⟩ := hut
          refine ⟨rfl, _, slice_run hty hsz hrun, ⟨?_, by simpa [Bd] using hb⟩⟩
          simp only [Rep]
          simp only [vlen, inView] at hin hlc h1 h2
          have hv : vlen xs.length (lo' + l.getD 0) (h'.map (lo' + ·)) = h'.getD (xs.length - lo') - l.getD 0 := by cases h' <;> simp [vlen] <;> omega
          exact OwnV.cut hl (hi := none) (by simpa [inView] using hin) hcase (own_room hm hl) (by simpa [vlen] using hlc) (l := l.getD 0) (h := h'.getD (xs.length - lo')) h1 (by simp only [vlen]; omega) _ hv (by cases h' <;> simp [inView] at * <;> omega)
        · exact (run_fail h).elim
      · rename_i id lo' hi'
        replace h := run_ask_inv h
        split at h
        · rename_i e' t' xs hl
          simp only [Rep] at hx
          unfold OwnV at hx
          rw [hl] at hx
          dsimp only at hx
          obtain ⟨A, c, rfl, hin, hcase⟩ := hx
          have hlc := own_cap hm hl hin hcase
          simp only [addN_eq] at h
          have hreach : reach hi (xs.length - lo') (hi' - lo') ≤ c := by
            cases hi with
            | none => simpa [vlen, reach] using hlc
            | some _ =>
              simp only [reach]
              rcases hcase with ⟨h3, h4⟩ | ⟨g, cap, hr, hA, hcap⟩
              · omega
              · have := own_room hm hl g cap hr
                omega
          obtain ⟨l, h', hk, hrun, h1, h2, h3⟩ := bounds_sound (P := P) (w := w) h hlo hhi true (cap := c) hreach
          have hrun : (Instr.sliceBounds true (hi' - lo') c olo ohi none).run P w = .ok (l.getD 0, h'.getD (reach hi (xs.length - lo') (hi' - lo')), c) w := by
            rw [← hrun]
            cases hi with
            | none => rfl
            | some _ =>
              cases ohi with
              | none => simp [RepO] at hhi
              | some _ => rfl
          have hut : t' = t ∧ d = [] ∧ v = .ownv id (lo' + l.getD 0) (some (hiOf lo' hi' h')) := by
            cases hq : (t' == t) with
            | true => rw [hq] at hk; obtain ⟨rfl, rfl⟩ := run_pure_inv hk; exact ⟨by simpa using hq, rfl, rfl⟩
            | false => rw [hq] at hk; exact (run_fail hk).elim
          obtain ⟨rfl, rfl, rfl⟩ := hut
          refine ⟨rfl, _, slice_run hty hsz hrun, ⟨?_, by simpa [Bd] using hb⟩⟩
          simp only [Rep]
          simp only [vlen, inView] at hin hlc h1 h2
          have hroom := own_room hm hl
          have hxc : xs.length - lo' ≤ c := by
            rcases hcase with ⟨h4, h5⟩ | ⟨g, cap, hr, hA, hcap⟩
            · omega
            · have := hroom g cap hr
              omega
          cases hi with
          | none =>
            simp only [Option.isSome_none, Option.isSome_eq_false_iff, Option.isNone_iff_eq_none] at h3
            subst h3
            simp only [reach, Option.getD_none, hiOf] at *
            exact OwnV.cut hl (hi := none) (by simp only [inView]; omega) hcase hroom hxc (l := l.getD 0) (h := hi' - lo') h1 (by simp only [vlen]; omega) _ (by simp only [vlen]; omega) (by simp only [inView]; omega)
          | some q =>
            simp only [Option.isSome_some, Option.isSome_iff_exists] at h3
            obtain ⟨x, rfl⟩ := h3
            simp only [reach, Option.getD_some, hiOf, addN_eq] at *
            exact OwnV.cut hl (hi := none) (by simp only [inView]; omega) hcase hroom hxc (l := l.getD 0) (h := x) h1 (by simp only [vlen]; omega) _ (by simp only [vlen]; omega) (by simp only [inView]; omega)
        · exact (run_fail h).elim
      · exact (run_fail h).elim

end
end Go.R

/- Lengths, places of elements, literals, appends. -/
namespace Go.R
open Go

section
variable {P : Program} {E : Env} {w0 : Start} {S G : Nat → Prop} {M : Mem} {ρ : Places} {L : Blks} {w : World} {X : Exit → Act → World → Prop} {o : Oper} {a : Act} {fr : List AV} {fs : List (List AV)} {susp : List (List Value)} {v : AV} {d : List (Nat × Option Blk)}

theorem len_sound (_hm : SimM E w0 S G M ρ L w) {ty e tt : TypeId} (hty : tyElem P ty = some e) {av : AV} {xv : Value} (hx : Rep M ρ L av xv) (h : (lenQ av).run L done1 = some (v, d)) :
    d = [] ∧ PureRes P M ρ L G w (Builtin.len_ #[ty] tt #[xv]) v := by
  have hu := elem_ty hty
  have fin : ∀ {A : Option Addr} {n c : Nat} {k : Int}, xv = .slice A n c → v = .int .i64 k → k = (n : Int) → PureRes P M ρ L G w (Builtin.len_ #[ty] tt #[xv]) v := by
    intro A n c k h1 h2 h3
    subst h1 h2 h3
    exact ⟨_, by simp [Builtin.len_, run_underlying hu, goInt], plain_int _ _⟩
  unfold lenQ at h
  split at h
  · obtain ⟨rfl, rfl⟩ := run_pure_inv h
    simp only [Rep] at hx
    exact ⟨rfl, fin hx rfl rfl⟩
  · obtain ⟨rfl, rfl⟩ := run_pure_inv h
    simp only [Rep] at hx
    obtain ⟨A, hx⟩ := hx
    exact ⟨rfl, fin hx rfl rfl⟩
  · obtain ⟨rfl, rfl⟩ := run_pure_inv h
    simp only [Rep, RepS, List.cons.injEq, and_true] at hx
    obtain ⟨⟨A, c, hx, _⟩, _⟩ := hx
    exact ⟨rfl, fin hx rfl rfl⟩
  · replace h := run_ask_inv h
    split at h
    · rename_i hl
      obtain ⟨rfl, rfl⟩ := run_pure_inv h
      simp only [Rep, OwnV, hl] at hx
      obtain ⟨A, c, hx, _⟩ := hx
      exact ⟨rfl, fin hx rfl (by simp [vlen])⟩
    · exact (run_fail h).elim
  · replace h := run_ask_inv h
    split at h
    · rename_i hl
      obtain ⟨rfl, rfl⟩ := run_pure_inv h
      simp only [Rep, OwnV, hl] at hx
      obtain ⟨A, c, hx, _⟩ := hx
      exact ⟨rfl, fin hx rfl (by simp [vlen])⟩
    · exact (run_fail h).elim
  · replace h := run_ask_inv h
    split at h
    · rename_i hl
      obtain ⟨rfl, rfl⟩ := run_pure_inv h
      simp only [Rep, OwnV, hl] at hx
      obtain ⟨A, c, hx, _⟩ := hx
      exact ⟨rfl, fin hx rfl (by simp [vlen])⟩
    · exact (run_fail h).elim
  · exact (run_fail h).elim


theorem elem_run_idx {ty e : TypeId} (hty : tyElem P ty = some e) {sz : Nat} (hsz : tySz P e = some sz) {ad : Addr} {n c : Nat} {k : IntKind} {i : Int} (h : 0 ≤ i ∧ i < (n : Int)) :
    (Instr.indexAt ty (.slice (some ad) n c) (.int k i)).run P w = .ok (.pointer (some (ad.add (i.toNat * sz)))) w := by
  simp only [Instr.indexAt, asIntOf, Sem.run_bind, Sem.run_pure, Result.andThen_ok, run_underlying (elem_ty hty), Sem.run_ite, h.1, h.2, and_self, if_true, run_sz hsz]

theorem idxSlice_sound (_hm : SimM E w0 S G M ρ L w) {ty e : TypeId} {t : Ty} (hty : tyElem P ty = some e) (hsz : tySz P e = some t.sz) {av : AV} {xv : Value} (hx : Rep M ρ L av xv) (hb : Bd G av) {k : IntKind} {i : Int}
    (h : (idxSlice t av i).run L done1 = some (v, d)) : d = [] ∧ PureRes P M ρ L G w (Instr.indexAt ty xv (.int k i)) v := by
  have own : ∀ {id lo : Nat} {hi : Option Nat} {e' : TypeId} {xs : List (Dat t)}, L id = some (.row e' t xs) → OwnV ρ L id lo hi xv → G id → 0 ≤ i ∧ i < (vlen xs.length lo hi : Int) → PureRes P M ρ L G w (Instr.indexAt ty xv (.int k i)) (.ptr id (lo + i.toNat) 0) := by
    intro id lo hi e' xs hl hv hg hr
    unfold OwnV at hv
    rw [hl] at hv
    dsimp only at hv
    obtain ⟨A, c, rfl, hin, hcase⟩ := hv
    rcases hcase with ⟨_, h0⟩ | ⟨g, cap, hr', rfl, hcap⟩
    · have := vlen_end hin h0
      omega
    · refine ⟨_, elem_run_idx hty hsz hr, ⟨?_, by simpa [Bd] using hg⟩⟩
      simp only [Rep, PtrV, hl]
      refine ⟨g, cap, hr', ?_, ?_⟩
      · cases hi with
        | none => simp only [vlen, inView] at *; omega
        | some b => simp only [vlen, inView] at *; omega
      · rw [add_plain _ rfl]
        simp only [Nat.add_zero, Nat.add_mul]
  unfold idxSlice at h
  split at h
  · rename_i nn u xs
    have hut : u = t := by
      cases hq : (u == t) with
      | true => simpa using hq
      | false => rw [hq] at h; exact (run_fail h).elim
    subst hut
    rw [show (u == u) = true by simp] at h
    obtain ⟨hg, h⟩ := run_guard_inv h
    obtain ⟨rfl, rfl⟩ := run_pure_inv h
    have hg := range_inv hg
    simp only [Rep, RepS, List.cons.injEq, and_true] at hx
    obtain ⟨⟨A, c, rfl, hlc, hel⟩, _⟩ := hx
    have hlt : i.toNat < xs.length := by omega
    obtain ⟨ad, cs, rfl, hs, hr, hc⟩ := hel i.toNat xs[i.toNat] (List.getElem?_eq_getElem hlt)
    refine ⟨rfl, _, elem_run_idx hty hsz hg, ⟨?_, by simp only [Bd]; exact BdL_cellsOf u _⟩⟩
    simp only [Rep]
    refine ⟨_, cs, rfl, ?_, ?_, fun j u' hu => ?_⟩
    · rw [add_plain ad hs]
    · rw [show xs.getD i.toNat u.dflt = xs[i.toNat] by simp [List.getD, List.getElem?_eq_getElem hlt]]
      exact RepL.of_S hr
    · rw [add_plain ad hs]
      have := hc j u' hu
      rw [← Nat.add_assoc] at this
      exact this
  · rename_i id
    replace h := run_ask_inv h
    split at h
    · rename_i e' u xs hl
      have hut : u = t := by
        cases hq : (u == t) with
        | true => simpa using hq
        | false => rw [hq] at h; exact (run_fail h).elim
      subst hut
      rw [show (u == u) = true by simp] at h
      obtain ⟨hg, h⟩ := run_guard_inv h
      obtain ⟨rfl, rfl⟩ := run_pure_inv h
      simp only [Rep] at hx
      have := own hl hx hb (by simpa [vlen] using range_inv hg)
      exact ⟨rfl, by simpa using this⟩
    · exact (run_fail h).elim
  · rename_i id lo
    replace h := run_ask_inv h
    split at h
    · rename_i e' u xs hl
      have hut : u = t := by
        cases hq : (u == t) with
        | true => simpa using hq
        | false => rw [hq] at h; exact (run_fail h).elim
      subst hut
      rw [show (u == u) = true by simp] at h
      obtain ⟨hg, h⟩ := run_guard_inv h
      obtain ⟨rfl, rfl⟩ := run_pure_inv h
      simp only [Rep] at hx
      rw [addN_eq]
      exact ⟨rfl, own hl hx hb (by simpa [vlen] using range_inv hg)⟩
    · exact (run_fail h).elim
  · rename_i id lo hi
    replace h := run_ask_inv h
    split at h
    · rename_i e' u xs hl
      have hut : u = t := by
        cases hq : (u == t) with
        | true => simpa using hq
        | false => rw [hq] at h; exact (run_fail h).elim
      subst hut
      rw [show (u == u) = true by simp] at h
      obtain ⟨hg, h⟩ := run_guard_inv h
      obtain ⟨rfl, rfl⟩ := run_pure_inv h
      simp only [Rep] at hx
      rw [addN_eq]
      exact ⟨rfl, own hl hx hb (by simpa [vlen] using range_inv hg)⟩
    · exact (run_fail h).elim
  · exact (run_fail h).elim

/-! ### Appends -/

theorem append_zero {ty e tt : TypeId} (hty : tyElem P ty = some e) {sz : Nat} (hsz : tySz P e = some sz) {B A : Option Addr} {n cap c : Nat} (hn : n ≤ cap) :
    (Builtin.append_ #[ty, ty] tt #[.slice B n cap, .slice A 0 c]).run P w = .ok (.slice B n cap) w := by
  have hu := elem_ty hty
  have hd : ∀ t, P.underlying ty = some (.int t) → False := fun t h => by rw [hu] at h; cases h
  cases B <;> cases A <;> simp [Builtin.append_, run_underlying hu, run_sz hsz, Builtin.lenOf, Builtin.firstCells, hn, loadCells, loadCellsFrom, storeCells]

end
end Go.R

/- Appends. -/
namespace Go.R
open Go

theorem Alike.trans {a b c : Option Blk} (h : Alike a b) (g : Alike b c) : Alike a c := by
  match a, b, c, h, g with
  | some (.row _ _ _), some (.row _ _ _), some (.row _ _ _), h, g => simp only [Alike] at *; obtain ⟨rfl, h⟩ := h; obtain ⟨rfl, g⟩ := g; exact ⟨rfl, h.trans g⟩
  | some (.box _ _), some (.box _ _), some (.box _ _), _, _ => trivial
  | some (.row _ _ _), some (.box _ _), _, h, _ => simp [Alike] at h
  | some (.row _ _ _), none, _, h, _ => simp [Alike] at h
  | some (.box _ _), some (.row _ _ _), _, h, _ => simp [Alike] at h
  | some (.box _ _), none, _, h, _ => simp [Alike] at h
  | none, _, _, h, _ => simp [Alike] at h
  | some (.row _ _ _), some (.row _ _ _), some (.box _ _), _, g => simp [Alike] at g
  | some (.row _ _ _), some (.row _ _ _), none, _, g => simp [Alike] at g
  | some (.box _ _), some (.box _ _), some (.row _ _ _), _, g => simp [Alike] at g
  | some (.box _ _), some (.box _ _), none, _, g => simp [Alike] at g

theorem Still.trans {G : Nat → Prop} {ρ ρ1 ρ2 : Places} {L L1 L2 : Blks} (h : Still G ρ L ρ1 L1) (g : Still G ρ1 L1 ρ2 L2) : Still G ρ L ρ2 L2 := fun id hid => by
  rcases g id hid with g | ⟨g1, g2⟩
  · exact .inl g
  · rcases h id hid with h | ⟨h1, h2⟩
    · rw [h] at g1; simp [Alike] at g1
    · exact .inr ⟨h1.trans g1, g2.trans h2⟩

section
variable {P : Program} {E : Env} {w0 : Start} {S G : Nat → Prop} {M : Mem} {ρ : Places} {L : Blks} {w : World} {X : Exit → Act → World → Prop} {o : Oper} {a : Act} {fr : List AV} {fs : List (List AV)} {susp : List (List Value)} {v : AV} {d : List (Nat × Option Blk)}

/-- A slice's elements, as they lie in memory. -/
def Src (M : Mem) (w : World) (t : Ty) (xs : List (Dat t)) (xv : Value) : Prop :=
  ∃ A c, xv = .slice A xs.length c ∧ ∀ (i : Nat) (x : Dat t), xs[i]? = some x → ∃ (ad : Addr) (us : List Value), A = some ad ∧ ad.spot = none ∧ RepS M t x us ∧ ∀ (j : Nat) (u : Value), us[j]? = some u → w.cell? ⟨ad.block, ad.off + (i * t.sz + j), none⟩ = some u

theorem src_own (hm : SimM E w0 S G M ρ L w) {id lo : Nat} {hi : Option Nat} {e : TypeId} {t : Ty} {xs : List (Dat t)} (hl : L id = some (.row e t xs)) {xv : Value} (hv : OwnV ρ L id lo hi xv) : Src M w t (view xs lo hi) xv := by
  have hb := hm.blk id
  unfold OwnV at hv
  unfold BlkOk at hb
  rw [hl] at hv hb
  dsimp only at hv hb
  obtain ⟨A, c, rfl, hin, hcase⟩ := hv
  refine ⟨A, c, by rw [view_length _ _ _ hin], fun i x hx => ?_⟩
  rcases hcase with ⟨_, h0⟩ | ⟨g, cap, hr, hA, _⟩
  · have h0 := vlen_end hin h0
    have : i < (view xs lo hi).length := (List.getElem?_eq_some_iff.1 hx).1
    rw [view_length _ _ _ hin] at this
    omega
  · rw [hr] at hb
    obtain ⟨_, cur, hg, _, _, _, hrow⟩ := hb
    obtain ⟨us, h1, h2⟩ := hrow (lo + i) x (view_get xs lo hi i x hx)
    refine ⟨_, us, hA, rfl, h1, fun j u hu => ?_⟩
    rw [cell_of_row w g _ cur e (0, 0) hg]
    rw [show lo * t.sz + (i * t.sz + j) = (lo + i) * t.sz + j by rw [Nat.add_mul]; omega]
    exact h2 j u hu

theorem rows_inv (hm : SimM E w0 S G M ρ L w) {t : Ty} {av : AV} {xv : Value} (hx : Rep M ρ L av xv) {k : List (Dat t) → Option Nat → Go.R.Qn} {r : AV × List (Nat × Option Blk)} (h : (rows t av k).run L done1 = some r) :
    ∃ xs id, (k xs id).run L done1 = some r ∧ Src M w t xs xv ∧
      (∀ i, id = some i → (av = .own i ∧ ∃ e, L i = some (.row e t xs)) ∨ (∃ lo hi e ys, av = .ownv i lo hi ∧ L i = some (.row e t ys) ∧ xs = view ys lo hi)) := by
  unfold rows at h
  split at h
  · simp only [Rep] at hx
    subst hx
    exact ⟨[], none, h, ⟨none, 0, rfl, by simp⟩, by simp⟩
  · simp only [Rep] at hx
    obtain ⟨A, rfl⟩ := hx
    exact ⟨[], none, h, ⟨A, 0, rfl, by simp⟩, by simp⟩
  · rename_i nn u xs
    split at h
    · rename_i hut
      subst hut
      simp only [castS_self] at h
      simp only [Rep, RepS, List.cons.injEq, and_true] at hx
      obtain ⟨⟨A, c, rfl, hlc, hel⟩, _⟩ := hx
      refine ⟨xs, none, h, ⟨A, c, rfl, fun i x hx => ?_⟩, by simp⟩
      obtain ⟨ad, cs, h1, h2, h3, h4⟩ := hel i x hx
      exact ⟨ad, cs, h1, h2, h3, fun j u hu => hm.mem.at (h4 j u hu)⟩
    · exact (run_fail h).elim
  · rename_i id
    replace h := run_ask_inv h
    split at h
    · rename_i e u xs hl
      split at h
      · rename_i hut
        subst hut
        simp only [castS_self] at h
        simp only [Rep] at hx
        refine ⟨xs, some id, h, by simpa [view] using src_own hm hl hx, fun i hi => ?_⟩
        cases hi
        exact .inl ⟨rfl, e, hl⟩
      · exact (run_fail h).elim
    · exact (run_fail h).elim
  · rename_i id lo hi
    replace h := run_ask_inv h
    split at h
    · rename_i e u xs hl
      split at h
      · rename_i hut
        subst hut
        simp only [castS_self] at h
        simp only [Rep] at hx
        refine ⟨view xs lo hi, some id, h, src_own hm hl hx, fun i hi' => ?_⟩
        cases hi'
        exact .inr ⟨lo, hi, e, xs, rfl, hl, rfl⟩
      · exact (run_fail h).elim
    · exact (run_fail h).elim
  · exact (run_fail h).elim

/-- The elements' cells, one behind the other. -/
theorem flat_rows {t : Ty} {b : Nat} : (xs : List (Dat t)) → (o0 : Nat) → (∀ (i : Nat) (x : Dat t), xs[i]? = some x → ∃ us, RepS M t x us ∧ ∀ (j : Nat) (u : Value), us[j]? = some u → w.cell? ⟨b, o0 + (i * t.sz + j), none⟩ = some u) →
    ∃ news : List Value, news.length = xs.length * t.sz ∧ (∀ j u, news[j]? = some u → w.cell? ⟨b, o0 + j, none⟩ = some u) ∧ (∀ u ∈ news, u.oneCell' = true) ∧
      ∀ (i : Nat) (x : Dat t), xs[i]? = some x → ∃ us, RepS M t x us ∧ ∀ (j : Nat) (u : Value), us[j]? = some u → news[i * t.sz + j]? = some u
  | [], _, _ => ⟨[], by simp, by simp, by simp, by simp⟩
  | x :: xs, o0, h => by
    obtain ⟨us, h1, h2⟩ := h 0 x (by simp)
    obtain ⟨news, n1, n2, n3, n4⟩ := flat_rows xs (o0 + t.sz) (fun i y hy => by
      obtain ⟨us, g1, g2⟩ := h (i + 1) y (by simpa using hy)
      refine ⟨us, g1, fun j u hu => ?_⟩
      have := g2 j u hu
      rw [show o0 + t.sz + (i * t.sz + j) = o0 + ((i + 1) * t.sz + j) by rw [Nat.succ_mul]; omega]
      exact this)
    have hl := h1.len
    refine ⟨us ++ news, by rw [List.length_append, n1, hl, List.length_cons, Nat.succ_mul]; omega, fun j u hu => ?_, fun u hu => ?_, fun i y hy => ?_⟩
    · rw [List.getElem?_append] at hu
      split at hu
      · have := h2 j u hu
        simpa using this
      · have := n2 _ u hu
        rw [hl] at this
        rw [show o0 + j = o0 + t.sz + (j - t.sz) by omega]
        exact this
    · rcases List.mem_append.1 hu with hu | hu
      · exact h1.one u hu
      · exact n3 u hu
    · cases i with
      | zero =>
        simp at hy
        subst hy
        refine ⟨us, h1, fun j u hu => ?_⟩
        have hj : j < us.length := (List.getElem?_eq_some_iff.1 hu).1
        rw [List.getElem?_append_left (by omega)]
        simpa using hu
      | succ i =>
        obtain ⟨us', g1, g2⟩ := n4 i y (by simpa using hy)
        refine ⟨us', g1, fun j u hu => ?_⟩
        rw [List.getElem?_append_right (by rw [hl, Nat.succ_mul]; omega)]
        rw [hl, show (i + 1) * t.sz + j - t.sz = i * t.sz + j by rw [Nat.succ_mul]; omega]
        exact g2 j u hu

theorem Src.flat {t : Ty} {xs : List (Dat t)} {xv : Value} (h : Src M w t xs xv) : ∃ A c, ∃ news : List Value, xv = .slice A xs.length c ∧ news.length = xs.length * t.sz ∧ (∀ u ∈ news, u.oneCell' = true) ∧
    (∀ (i : Nat) (x : Dat t), xs[i]? = some x → ∃ us, RepS M t x us ∧ ∀ (j : Nat) (u : Value), us[j]? = some u → news[i * t.sz + j]? = some u) ∧ ((∃ ad, A = some ad ∧ ∀ j u, news[j]? = some u → w.cell? (ad.add j) = some u) ∨ xs = []) := by
  obtain ⟨A, c, rfl, hel⟩ := h
  cases xs with
  | nil => exact ⟨A, c, [], rfl, by simp, by simp, by simp, .inr rfl⟩
  | cons x xs =>
    obtain ⟨ad, us, rfl, hs, _, _⟩ := hel 0 x (by simp)
    obtain ⟨news, n1, n2, n3, n4⟩ := flat_rows (M := M) (w := w) (b := ad.block) (x :: xs) ad.off (fun i y hy => by
      obtain ⟨ad', us', e, _, h1, h2⟩ := hel i y hy
      cases e
      exact ⟨us', h1, h2⟩)
    exact ⟨_, c, news, rfl, n1, n3, n4, .inl ⟨ad, rfl, fun j u hu => by rw [add_plain ad hs]; exact n2 j u hu⟩⟩

/-- A row of old cells, new cells and what follows. -/
theorem RowIn.join {t : Ty} {xs ys : List (Dat t)} {olds news : List Value} {rest : List Value} (ho : olds.length = xs.length * t.sz)
    (h1 : ∀ (i : Nat) (x : Dat t), xs[i]? = some x → ∃ us, RepS M t x us ∧ ∀ (j : Nat) (u : Value), us[j]? = some u → olds[i * t.sz + j]? = some u)
    (h2 : ∀ (i : Nat) (x : Dat t), ys[i]? = some x → ∃ us, RepS M t x us ∧ ∀ (j : Nat) (u : Value), us[j]? = some u → news[i * t.sz + j]? = some u) {cur : Array Value} (hc : cur.toList = olds ++ news ++ rest) : RowIn M t (xs ++ ys) cur := fun i x hx => by
  have hget : ∀ k, cur[k]? = (olds ++ news ++ rest)[k]? := fun k => by rw [← hc, Array.getElem?_toList]
  rw [List.getElem?_append] at hx
  split at hx
  · rename_i hi
    obtain ⟨us, g1, g2⟩ := h1 i x hx
    refine ⟨us, g1, fun j u hu => ?_⟩
    rw [hget, List.append_assoc, List.getElem?_append_left]
    · exact g2 j u hu
    · exact (List.getElem?_eq_some_iff.1 (g2 j u hu)).1
  · rename_i hi
    obtain ⟨us, g1, g2⟩ := h2 (i - xs.length) x hx
    refine ⟨us, g1, fun j u hu => ?_⟩
    have := g2 j u hu
    have hlt := (List.getElem?_eq_some_iff.1 this).1
    have e : i * t.sz + j = olds.length + ((i - xs.length) * t.sz + j) := by
      rw [ho, ← Nat.add_assoc, ← Nat.add_mul, show xs.length + (i - xs.length) = i by omega]
    rw [hget, e, List.append_assoc, List.getElem?_append_right (by omega), Nat.add_sub_cancel_left, List.getElem?_append_left hlt]
    exact this

/-! ### The row that is appended to -/

/-- What an append is given: n elements X at the beginning of a block, or none. -/
structure Base (E : Env) (w0 : Start) (S G : Nat → Prop) (M : Mem) (ρ : Places) (L0 L1 : Blks) (w : World) (e : TypeId) (t : Ty) (X : List (Dat t)) (v : Value) : Prop where
  sim : SimM E w0 S G M ρ L1 w
  still : Still G ρ L0 ρ L1
  form : (∃ A, v = .slice A 0 0 ∧ X = []) ∨ ∃ g cap cur, v = .slice (some ⟨g, 0, none⟩) X.length cap ∧ w.heap[g]? = some (.cells cur e (0, 0)) ∧ X.length ≤ cap ∧ cap ≤ maxLen ∧ cur.size = cap * t.sz ∧ RowIn M t X cur ∧
    (w0.heap.size ≤ g ∨ S g) ∧ (∀ o, M g o = none) ∧ ∀ id, L1 id ≠ none → ∀ g' c, ρ id = some (g', c) → g' ≠ g

theorem base_own (hm : SimM E w0 S G M ρ L w) {id : Nat} {hi : Option Nat} {e : TypeId} {t : Ty} {xs : List (Dat t)} (hl : L id = some (.row e t xs)) {xv : Value} (hv : OwnV ρ L id 0 hi xv) :
    Base E w0 S G M ρ L (upd L id none) w e t (view xs 0 hi) xv := by
  refine ⟨hm.kill id, still_kill G ρ L id, ?_⟩
  have hb := hm.blk id
  unfold OwnV at hv
  unfold BlkOk at hb
  rw [hl] at hv hb
  dsimp only at hv hb
  obtain ⟨A, c, rfl, hin, hcase⟩ := hv
  have hvl := view_length xs 0 hi hin
  rcases hcase with ⟨h0, h1⟩ | ⟨g, cap, hr, hA, hcap⟩
  · have h1 := vlen_end hin h1
    refine .inl ⟨A, ?_, List.eq_nil_of_length_eq_zero (by omega)⟩
    rw [h0, h1]
  · rw [hr] at hb
    obtain ⟨_, cur, hg, h1, h2, h3, h4⟩ := hb
    have hXn : vlen xs.length 0 hi ≤ xs.length := by
      cases hi with
      | none => simp [vlen]
      | some b => simp only [vlen, inView] at *; omega
    refine .inr ⟨g, cap, cur, ?_, hg, by omega, h2, h3, fun i x hx => ?_, ?_, ?_, fun id' hl' g' c' hr' => ?_⟩
    · rw [hA, hvl, ← hcap]; simp
    · have := view_get xs 0 hi i x hx
      rw [Nat.zero_add] at this
      exact h4 i x this
    · exact (hm.own id (by rw [hl]; simp) g cap hr).1
    · exact (hm.own id (by rw [hl]; simp) g cap hr).2
    · have hu := upd_none hl'
      intro eg
      subst eg
      exact hu.1 (hm.inj id' id hu.2 (by rw [hl]; simp) _ _ _ hr' hr)

theorem grow_two {n m : Nat} (b : Blk) : (fun i => G i ∨ i = n) = grow G [(n, some b), (m, none)] := by
  funext i
  simp [grow]

/-- What a piece of the model does, and what is told of it after. -/
def MemRes (P : Program) (E : Env) (w0 : Start) (S G : Nat → Prop) (M : Mem) (ρ : Places) (L : Blks) (w : World) (s : Go.Sem Value) (v : AV) (d : List (Nat × Option Blk)) : Prop :=
  ∃ v' w', s.run P w = .ok v' w' ∧ After E w0 S G M ρ L d v v' w'

theorem OpRes.of_mem {s : Go.Sem Value} (he : (execOp a.eval o).run P w = (s.run P w).andThen fun v w => .ok (.value v) w) (h : MemRes P E w0 S G M ρ L w s v d) : OpRes P E w0 S G M ρ L o a w X v d := by
  obtain ⟨v', w', hr, ha⟩ := h
  unfold OpRes Oper.wp
  rw [he, hr]
  exact ⟨v', rfl, ha⟩

theorem rep_own_empty {n : Nat} {e : TypeId} {t : Ty} {A : Option Addr} : Rep M (upd ρ n none) (upd L n (some (.row e t []))) (.own n) (.slice A 0 0) := by
  simp only [Rep, OwnV, upd_same]
  exact ⟨A, 0, rfl, by simp [inView], .inl ⟨rfl, by simp⟩⟩

/-- A new row for what is appended. -/
theorem append_grown {L1 : Blks} (hsim : SimM E w0 S G M ρ L1 w) (hstill : Still G ρ L ρ L1) {ty e tt : TypeId} {t : Ty} {bytes : Nat} (hty : tyElem P ty = some e) (he : elemIs P e t bytes = true) {X ys : List (Dat t)} {sv xv : Value}
    (hs : Src M w t ys xv) {base : Nat} (hn : ¬ G base) (hlim : (X.length + ys.length) * bytes ≤ 140737488355328) {d : List (Nat × Option Blk)}
    (hd : ∀ b, ov ((base, some b) :: d) L = upd L1 base (some b)) (hgd : ∀ b, (fun i => G i ∨ i = base) = grow G ((base, some b) :: d)) (hyp : 0 < ys.length)
    (B : Option Addr) (olds : List Value) (sCap : Nat) (hlt : sCap < X.length + ys.length) (hsv : sv = .slice B X.length sCap) (hol : olds.length = X.length * t.sz)
    (hor : ∀ (i : Nat) (x : Dat t), X[i]? = some x → ∃ us, RepS M t x us ∧ ∀ (j : Nat) (u : Value), us[j]? = some u → olds[i * t.sz + j]? = some u)
    (hfc : (Builtin.firstCells t.sz X.length (.slice B X.length sCap)).run P w.drew = .ok olds.toArray w.drew) : MemRes P E w0 S G M ρ L w (Builtin.append_ #[ty, ty] tt #[sv, xv]) (.own base) ((base, some (.row e t (X ++ ys))) :: d) := by
  obtain ⟨i, z, hi, hsz, hby, hpos, hb0, hz, hzl, hzs⟩ := elem_run he
  have hu := elem_ty hty
  obtain ⟨A, c, news, rfl, hnl, hn1, hnr, hcell⟩ := hs.flat
  have hneed : X.length + ys.length ≤ 140737488355328 := Nat.le_trans (Nat.le_mul_of_pos_right _ hb0) hlim
  have hcell' : ∃ ad, A = some ad ∧ ∀ j u, news[j]? = some u → w.cell? (ad.add j) = some u := by
    rcases hcell with h | h
    · exact h
    · subst h; simp at hyp
  clear hcell
  obtain ⟨ad, rfl, hcell⟩ := hcell'
  have hsrc : Go.Src P i.size ty (.slice (some ad) ys.length c) ys.length news w := Go.Src.ofSlice w hu ad ys.length c news (by rw [hsz]; exact hnl) hcell hn1
  have hr := run_append_grow_src (P := P) w ty ty tt e i z hu hi hz B X.length sCap olds (by rw [hsz]; exact hfc) _ _ news hsrc hlt (by omega) (growslice_fits hlt (by rw [hby]; exact hlim))
  have hge := grownCap_ge w (X.length + ys.length) sCap e
  have hle := grownCap_le_maxLen w (X.length + ys.length) sCap e (by simp only [maxLen]; omega)
  obtain ⟨g1, g2⟩ := hsim.drew.alloc hn (b := .row e t (X ++ ys)) (cur := (olds ++ news).toArray ++ Builtin.zeroCells z.cells (grownCap w (X.length + ys.length) sCap e - (X.length + ys.length))) (e := e) (cap := grownCap w (X.length + ys.length) sCap e)
    ⟨rfl, hpos, by rw [List.length_append]; exact hge, hle, by
      rw [Array.size_append, size_zeroCells, hzs, List.size_toArray, List.length_append, hol, hnl, ← Nat.add_mul, ← Nat.add_mul]
      congr 1
      omega, RowIn.join (rest := (Builtin.zeroCells z.cells (grownCap w (X.length + ys.length) sCap e - (X.length + ys.length))).toList) hol hor hnr (by simp)⟩
  rw [hsv]
  refine ⟨_, _, hr, ⟨M, _, Mem.le_refl _, ?_, by rw [hd, ← hgd]; exact g1, by rw [hd]; exact hstill.trans g2⟩, by rw [← hgd]; simp [Bd]⟩
  rw [hd]
  have := rep_row_own (M := M) (ρ := ρ) (L := L1) (n := base) (g := w.drew.heap.size) (cap := grownCap w (X.length + ys.length) sCap e) (e := e) (xs := X ++ ys)
  rw [List.length_append] at this
  exact this

theorem append_run (_hm : SimM E w0 S G M ρ L w) {L1 : Blks} {ty e tt : TypeId} {t : Ty} {bytes : Nat} (hty : tyElem P ty = some e) (he : elemIs P e t bytes = true) {X ys : List (Dat t)} {sv xv : Value}
    (hb : Base E w0 S G M ρ L L1 w e t X sv) (hs : Src M w t ys xv) {base : Nat} (hn : ¬ G base) (hlim : (X.length + ys.length) * bytes ≤ 140737488355328) {d : List (Nat × Option Blk)}
    (hd : ∀ b, ov ((base, some b) :: d) L = upd L1 base (some b)) (hgd : ∀ b, (fun i => G i ∨ i = base) = grow G ((base, some b) :: d)) :
    MemRes P E w0 S G M ρ L w (Builtin.append_ #[ty, ty] tt #[sv, xv]) (.own base) ((base, some (.row e t (X ++ ys))) :: d) := by
  obtain ⟨i, z, hi, hsz, hby, hpos, hb0, hz, hzl, hzs⟩ := elem_run he
  have hu := elem_ty hty
  have hsz' : tySz P e = some t.sz := by simp [tySz, hi, hsz]
  obtain ⟨A, c, news, rfl, hnl, hn1, hnr, hcell⟩ := hs.flat
  have hneed : X.length + ys.length ≤ 140737488355328 := Nat.le_trans (Nat.le_mul_of_pos_right _ hb0) hlim
  have bd : ∀ b, Bd (grow G ((base, some b) :: d)) (.own base) := fun b => by rw [← hgd b]; simp [Bd]
  have out : ∀ {ρ' : Places} {w' : World} {v' : Value}, SimM E w0 S (fun i => G i ∨ i = base) M ρ' (upd L1 base (some (.row e t (X ++ ys)))) w' → Still G ρ L1 ρ' (upd L1 base (some (.row e t (X ++ ys)))) →
      Rep M ρ' (upd L1 base (some (.row e t (X ++ ys)))) (.own base) v' → After E w0 S G M ρ L ((base, some (.row e t (X ++ ys))) :: d) (.own base) v' w' := by
    intro ρ' w' v' h1 h2 h3
    refine ⟨⟨M, ρ', Mem.le_refl _, ?_, ?_, ?_⟩, bd _⟩
    · rw [hd]; exact h3
    · rw [hd, ← hgd]; exact h1
    · rw [hd]; exact hb.still.trans h2
  -- nothing is appended
  rcases Nat.eq_zero_or_pos ys.length with hy0 | hyp
  · have hy : ys = [] := List.eq_nil_of_length_eq_zero hy0
    subst hy
    simp only [List.append_nil, List.length_nil] at *
    rcases hb.form with ⟨B, rfl, rfl⟩ | ⟨g, cap, cur, rfl, hg, h1, h2, h3, h4, h5, h6, h7⟩
    · obtain ⟨g1, g2⟩ := hb.sim.empty hn e t
      exact ⟨_, _, append_zero hty hsz' (Nat.le_refl _), out g1 g2 rep_own_empty⟩
    · obtain ⟨g1, g2⟩ := hb.sim.adopt (cur' := cur) hn hg h5 h6 h7 hpos h1 h2 h3 h4
      rw [setRow_self w g cur e (0, 0) hg] at g1
      exact ⟨_, _, append_zero hty hsz' h1, out g1 g2 rep_row_own⟩
  · -- something is
    have hcell' : ∃ ad, A = some ad ∧ ∀ j u, news[j]? = some u → w.cell? (ad.add j) = some u := by
      rcases hcell with h | h
      · exact h
      · subst h; simp at hyp
    clear hcell
    obtain ⟨ad, rfl, hcell⟩ := hcell'
    have hsrc : Go.Src P i.size ty (.slice (some ad) ys.length c) ys.length news w := Go.Src.ofSlice w hu ad ys.length c news (by rw [hsz]; exact hnl) hcell hn1
    -- a new row
    have grown : ∀ (B : Option Addr) (olds : List Value) (sCap : Nat), sCap < X.length + ys.length → sv = .slice B X.length sCap → olds.length = X.length * t.sz →
        (∀ (i : Nat) (x : Dat t), X[i]? = some x → ∃ us, RepS M t x us ∧ ∀ (j : Nat) (u : Value), us[j]? = some u → olds[i * t.sz + j]? = some u) →
        (Builtin.firstCells i.size X.length (.slice B X.length sCap)).run P w.drew = .ok olds.toArray w.drew → MemRes P E w0 S G M ρ L w (Builtin.append_ #[ty, ty] tt #[sv, .slice (some ad) ys.length c]) (.own base) ((base, some (.row e t (X ++ ys))) :: d) := by
      intro B olds sCap hlt hsv hol hor hfc
      exact append_grown hb.sim hb.still hty he hs hn hlim hd hgd hyp B olds sCap hlt hsv hol hor (by rw [← hsz]; exact hfc)
    rcases hb.form with ⟨B, hsv, hX⟩ | ⟨g, cap, cur, hsv, hg, h1, h2, h3, h4, h5, h6, h7⟩
    · subst hX
      refine grown B [] 0 (by simp; omega) hsv (by simp) (by simp) ?_
      cases B <;> simp [Builtin.firstCells, loadCells, loadCellsFrom]
    · have hol : (cur.toList.take (X.length * t.sz)).length = X.length * t.sz := by
        have hcl : cur.toList.length = cap * t.sz := by rw [← h3]; exact Array.length_toList
        rw [List.length_take, hcl]
        exact Nat.min_eq_left (Nat.mul_le_mul_right _ h1)
      have hor : ∀ (i : Nat) (x : Dat t), X[i]? = some x → ∃ us, RepS M t x us ∧ ∀ (j : Nat) (u : Value), us[j]? = some u → (cur.toList.take (X.length * t.sz))[i * t.sz + j]? = some u := by
        intro i x hx
        obtain ⟨us, k1, k2⟩ := h4 i x hx
        refine ⟨us, k1, fun j u hu => ?_⟩
        have hj : j < t.sz := by rw [← k1.len]; exact (List.getElem?_eq_some_iff.1 hu).1
        have hiX : i < X.length := (List.getElem?_eq_some_iff.1 hx).1
        have : (i + 1) * t.sz ≤ X.length * t.sz := Nat.mul_le_mul_right _ hiX
        rw [Nat.succ_mul] at this
        rw [List.getElem?_take, if_pos (by omega), Array.getElem?_toList]
        exact k2 j u hu
      by_cases hroom : X.length + ys.length ≤ cap
      · have hfit : X.length * i.size + news.length ≤ cur.size := by
          rw [hsz, hnl, h3, ← Nat.add_mul]
          exact Nat.mul_le_mul_right _ hroom
        have hr := run_append_room (P := P) w ty tt e i hu hi g X.length cap cur hg ad ys.length c news (by rw [hsz]; exact hnl) hcell hn1 hroom hfit
        rw [hsz] at hr hfit
        obtain ⟨s1, _, _⟩ := splice_cur (cur := cur) (o := X.length * t.sz) (us := news) hfit
        obtain ⟨g1, g2⟩ := hb.sim.adopt (t := t) (xs := X ++ ys) (cap := cap) (cur' := (cur.toList.take (X.length * t.sz) ++ news ++ cur.toList.drop (X.length * t.sz + news.length)).toArray) hn hg h5 h6 h7 hpos (by rw [List.length_append]; exact hroom) h2 (by rw [s1, h3])
          (RowIn.join (rest := cur.toList.drop (X.length * t.sz + news.length)) hol hor hnr (by simp))
        rw [hsv]
        refine ⟨_, _, hr, out g1 g2 ?_⟩
        have := rep_row_own (M := M) (ρ := ρ) (L := L1) (n := base) (g := g) (cap := cap) (e := e) (xs := X ++ ys)
        rw [List.length_append] at this
        exact this
      · refine grown (some ⟨g, 0, none⟩) (cur.toList.take (X.length * t.sz)) cap (by omega) hsv hol hor ?_
        refine run_firstCells_some (P := P) w.drew i.size X.length ⟨g, 0, none⟩ X.length cap _ (by rw [hol, hsz]) (fun j v hv => ?_)
        rw [add_plain _ rfl]
        simp only [Nat.zero_add]
        rw [List.getElem?_take] at hv
        split at hv
        · rw [cell_of_row w.drew g j cur e (0, 0) hg]
          simpa using hv
        · cases hv

theorem append_sound (hm : SimM E w0 S G M ρ L w) {ty e tt : TypeId} {t : Ty} {bytes : Nat} (hty : tyElem P ty = some e) (he : elemIs P e t bytes = true) {sa xa : AV} {sv xv : Value} (hs : Rep M ρ L sa sv) (hx : Rep M ρ L xa xv) {base : Nat} (hn : ¬ G base)
    (h : (appendQ e t bytes base sa xa).run L done1 = some (v, d)) : MemRes P E w0 S G M ρ L w (Builtin.append_ #[ty, ty] tt #[sv, xv]) v d := by
  unfold appendQ at h
  have nil : ∀ {A : Option Addr}, sv = .slice A 0 0 → (rows t xa fun ys _ => .guard (Nat.ble (ys.length * bytes) 140737488355328) (.done (.own base) [(base, some (.row e t ys))])).run L done1 = some (v, d) → MemRes P E w0 S G M ρ L w (Builtin.append_ #[ty, ty] tt #[sv, xv]) v d := by
    intro A hsv h
    obtain ⟨ys, id, h, hsrc, _⟩ := rows_inv hm hx h
    obtain ⟨hg, h⟩ := run_guard_inv h
    simp only [Qn.run, done1, Option.some.injEq, Prod.mk.injEq] at h
    obtain ⟨rfl, rfl⟩ := h
    have := append_run (tt := tt) hm hty he (X := []) (L1 := L) ⟨hm, Still.refl_of, .inl ⟨A, hsv, rfl⟩⟩ hsrc hn (by simpa using Nat.le_of_ble_eq_true hg) (d := []) (fun b => rfl) (fun b => by funext i; simp [grow])
    simpa using this
  split at h
  · simp only [Rep] at hs
    exact nil hs h
  · simp only [Rep] at hs
    obtain ⟨A, hs⟩ := hs
    exact nil hs h
  · rename_i u xs
    split at h
    · rename_i hut
      subst hut
      simp only [castS_self] at h
      obtain ⟨ys, id', h, hsrc, _⟩ := rows_inv hm hx h
      obtain ⟨hg, h⟩ := run_guard_inv h
      simp only [Bool.and_eq_true] at hg
      simp only [Qn.run, done1, Option.some.injEq, Prod.mk.injEq] at h
      obtain ⟨rfl, rfl⟩ := h
      have hyp : 0 < ys.length := Nat.le_of_ble_eq_true hg.1
      simp only [Rep, RepS, List.cons.injEq, and_true] at hs
      obtain ⟨⟨A, c, rfl, hlc, hel⟩, _, hex, _⟩ := hs
      obtain ⟨A', n, hex⟩ := hex trivial
      simp only [Value.slice.injEq] at hex
      obtain ⟨_, h1, h2⟩ := hex
      have hsx : Src M w u xs (.slice A xs.length c) := ⟨A, c, rfl, fun i x hx => by
        obtain ⟨ad, cs, k1, k2, k3, k4⟩ := hel i x hx
        exact ⟨ad, cs, k1, k2, k3, fun j u hu => hm.mem.at (k4 j u hu)⟩⟩
      obtain ⟨A2, c2, olds, heq, ol, o1, onr, ocell⟩ := hsx.flat
      simp only [Value.slice.injEq, true_and] at heq
      obtain ⟨rfl, rfl⟩ := heq
      refine append_grown hm Still.refl_of hty he hsrc hn (Nat.le_of_ble_eq_true hg.2) (fun b => rfl) (fun b => by funext i; simp [grow]) hyp A olds c (by omega) rfl ol onr ?_
      rcases ocell with ⟨ad, rfl, hc⟩ | rfl
      · exact run_firstCells_some (P := P) w.drew u.sz xs.length ad xs.length c olds ol (fun j v hv => by rw [show w.drew.cell? (ad.add j) = w.cell? (ad.add j) from rfl]; exact hc j v hv)
      · have : olds = [] := List.eq_nil_of_length_eq_zero (by rw [ol]; simp)
        subst this
        cases A <;> simp [Builtin.firstCells, loadCells, loadCellsFrom]
    · exact (run_fail h).elim
  · rename_i id
    replace h := run_ask_inv h
    split at h
    · rename_i e' u xs hl
      split at h
      · rename_i hut
        subst hut
        simp only [castS_self] at h
        obtain ⟨hee, h⟩ := run_cond_inv h
        obtain rfl := Nat.eq_of_beq_eq_true hee
        obtain ⟨ys, id', h, hsrc, _⟩ := rows_inv hm hx h
        obtain ⟨hg, h⟩ := run_guard_inv h
        simp only [Qn.run, done1, Option.some.injEq, Prod.mk.injEq] at h
        obtain ⟨rfl, rfl⟩ := h
        simp only [Rep] at hs
        have hb := base_own hm hl hs
        simp only [view, List.drop_zero] at hb
        exact append_run hm hty he hb hsrc hn (Nat.le_of_ble_eq_true hg) (fun b => rfl) (fun b => grow_two b)
      · exact (run_fail h).elim
    · exact (run_fail h).elim
  · rename_i id b
    replace h := run_ask_inv h
    split at h
    · rename_i e' u xs hl
      split at h
      · rename_i hut
        subst hut
        simp only [castS_self] at h
        obtain ⟨hee, h⟩ := run_cond_inv h
        obtain rfl := Nat.eq_of_beq_eq_true hee
        obtain ⟨ys, id', h, hsrc, _⟩ := rows_inv hm hx h
        obtain ⟨hg, h⟩ := run_guard_inv h
        simp only [Qn.run, done1, Option.some.injEq, Prod.mk.injEq] at h
        obtain ⟨rfl, rfl⟩ := h
        simp only [Rep] at hs
        have hb := base_own hm hl hs
        simp only [view, List.drop_zero] at hb
        have hlen : (xs.take b).length ≤ b := by rw [List.length_take]; exact Nat.min_le_left _ _
        refine append_run hm hty he hb hsrc hn (Nat.le_trans (Nat.mul_le_mul_right _ ?_) (Nat.le_of_ble_eq_true hg)) (fun b => rfl) (fun b => grow_two b)
        omega
      · exact (run_fail h).elim
    · exact (run_fail h).elim
  · exact (run_fail h).elim

end
end Go.R

/- Indices, fields, signs, choices, equality. -/
namespace Go.R
open Go

section
variable {P : Program} {E : Env} {w0 : Start} {S G : Nat → Prop} {M : Mem} {ρ : Places} {L : Blks} {w : World} {X : Exit → Act → World → Prop} {o : Oper} {a : Act} {fr : List AV} {fs : List (List AV)} {susp : List (List Value)} {v : AV} {d : List (Nat × Option Blk)}

theorem part_gen {ft : TypeId} {off sz : Nat} {agg : Bool} (hsz : tySz P ft = some sz) (hagg : tyAgg P ft = some agg) {cs : List AV} {us : Array Value} (hr : RepL M ρ L cs ((us.toList.drop off).take sz)) (hb : BdL G cs)
    (h : (oneQ agg sz cs).run L done1 = some (v, d)) : d = [] ∧ PureRes P M ρ L G w (part ft us off) v := by
  have hx := oneQ_inv h hr hb
  obtain ⟨rfl, hlen, hc, hbd⟩ := hx
  refine ⟨rfl, ?_⟩
  rcases hc with ⟨rfl, rfl, hrep⟩ | ⟨rfl, u, hu, hrep⟩
  · refine ⟨_, ?_, ⟨hrep, hbd⟩⟩
    simp only [part, Sem.run_bind, run_agg hagg, Result.andThen_ok, run_sz hsz, if_true, Sem.run_pure]
    congr 2
    apply Array.ext'
    simp [List.extract_eq_take_drop]
  · refine ⟨u, ?_, ⟨hrep, hbd⟩⟩
    have hg : us[off]? = some u := by
      have : ((us.toList.drop off).take sz)[0]? = some u := by rw [hu]; rfl
      rw [List.getElem?_take] at this
      split at this
      · simpa using this
      · cases this
    simp only [part, Sem.run_bind, run_agg hagg, Result.andThen_ok, Bool.false_eq_true, if_false, hg, Sem.run_pure]

theorem arr_ty {t e : TypeId} {n : Nat} (h : tyArr P t = some (n, e)) : P.underlying t = some (.array n e) := by
  unfold tyArr at h
  split at h
  · rename_i hu; simp at h; obtain ⟨rfl, rfl⟩ := h; exact hu
  · cases h

theorem str_ty {t : TypeId} (h : tyStr P t = true) : P.underlying t = some .string := by
  unfold tyStr at h
  split at h
  · assumption
  · cases h

theorem int_ty {t : TypeId} {k : IntKind} (h : tyInt P t = some k) : P.underlying t = some (.int k) := by
  unfold tyInt at h
  split at h
  · rename_i hu; cases h; exact hu
  · cases h

theorem field_ty {t : TypeId} {f o : Nat} {ft : TypeId} (h : tyField P t f = some (o, ft)) : ∃ fs fd, P.underlying t = some (.struct fs) ∧ fs[f]? = some fd ∧ fd.offset = o ∧ fd.type = ft := by
  unfold tyField at h
  split at h
  · rename_i fs hu
    cases hf : fs[f]? with
    | none => rw [hf] at h; cases h
    | some fd =>
      rw [hf] at h
      simp only [Option.map_some, Option.some.injEq, Prod.mk.injEq] at h
      exact ⟨fs, fd, hu, hf, h.1, h.2⟩
  · cases h

theorem gathers_rep {cs : List AV} {us : List Value} (r : RepL M ρ L cs us) {n sz i : Nat} (hl : cs.length = n * sz) (hi : i < n) :
    RepL M ρ L ((List.range sz).map fun j => gather (column cs n sz j) i) ((us.drop (i * sz)).take sz) ∧ BdL G ((List.range sz).map fun j => gather (column cs n sz j) i) := by
  have hul : us.length = n * sz := by rw [r.length, hl]
  have hin : (i + 1) * sz ≤ n * sz := Nat.mul_le_mul_right _ hi
  rw [Nat.succ_mul] at hin
  have one : ∀ j, j < sz → Rep M ρ L (gather (column cs n sz j) i) (us.getD (i * sz + j) undef) ∧ Bd G (gather (column cs n sz j) i) := fun j hj => by
    refine gather_rep (column_rep r hl hj) ?_
    rw [List.getElem?_map, List.getElem?_range hi]
    rfl
  constructor
  · have key : ∀ m, m ≤ sz → RepL M ρ L ((List.range' (sz - m) m).map fun j => gather (column cs n sz j) i) ((us.drop (i * sz + (sz - m))).take m) := by
      intro m
      induction m with
      | zero => intro _; simp [RepL]
      | succ m ih =>
        intro hm
        rw [List.range'_succ, show sz - (m + 1) + 1 = sz - m by omega]
        have hlt : i * sz + (sz - (m + 1)) < us.length := by omega
        rw [List.drop_eq_getElem_cons hlt, List.take_succ_cons, show i * sz + (sz - (m + 1)) + 1 = i * sz + (sz - m) by omega]
        simp only [List.map_cons, RepL]
        refine ⟨_, _, rfl, ?_, ih (by omega)⟩
        have := (one (sz - (m + 1)) (by omega)).1
        rw [List.getD, List.getElem?_eq_getElem hlt] at this
        exact this
    have := key sz (Nat.le_refl _)
    simpa [List.range_eq_range'] using this
  · refine BdL.of_get fun j b hb => ?_
    rw [List.getElem?_map] at hb
    cases hj : (List.range sz)[j]? with
    | none => rw [hj] at hb; cases hb
    | some q =>
      rw [hj] at hb
      simp only [Option.map_some, Option.some.injEq] at hb
      subst hb
      have hq := List.mem_range.1 (List.mem_of_getElem? hj)
      exact (one q hq).2

theorem index_sound {ty e : TypeId} {n sz : Nat} {agg : Bool} (hty : tyArr P ty = some (n, e)) (hsz : tySz P e = some sz) (hagg : tyAgg P e = some agg) {cs : List AV} {xv : Value} (hx : Rep M ρ L (.agg cs) xv) {k : IntKind} {i : Int}
    (h : (Qn.guard (inRange i n) (cond (Nat.beq cs.length (n * sz)) (oneQ agg sz ((List.range sz).map fun j => gather (column cs n sz j) i.toNat)) .fail)).run L done1 = some (v, d)) :
    d = [] ∧ PureRes P M ρ L G w (Instr.index ty xv (.int k i)) v := by
  obtain ⟨hr, h⟩ := run_guard_inv h
  obtain ⟨hl, h⟩ := run_cond_inv h
  have hr := range_inv hr
  have hl := Nat.eq_of_beq_eq_true hl
  simp only [Rep] at hx
  obtain ⟨us, rfl, hx⟩ := hx
  have hg := gathers_rep (G := G) hx hl (show i.toNat < n by omega)
  have := part_gen (w := w) (G := G) (off := i.toNat * sz) hsz hagg hg.1 hg.2 h
  obtain ⟨rfl, v', hrun, hv⟩ := this
  refine ⟨rfl, v', ?_, hv⟩
  simp only [Instr.index, asIntOf, Sem.run_bind, Sem.run_pure, Result.andThen_ok, run_underlying (arr_ty hty), Sem.run_ite, hr.1, hr.2, and_self, if_true, run_sz hsz, hrun]

theorem indexStr_sound {ty : TypeId} (hty : tyStr P ty = true) {s : ByteArray} {xv : Value} (hx : Rep M ρ L (.str s) xv) {k : IntKind} {i : Int}
    (h : (Qn.guard (inRange i s.size) (.pure (.int .u8 (bt s i)))).run L done1 = some (v, d)) : d = [] ∧ PureRes P M ρ L G w (Instr.index ty xv (.int k i)) v := by
  obtain ⟨hr, h⟩ := run_guard_inv h
  obtain ⟨rfl, rfl⟩ := run_pure_inv h
  have hr := range_inv hr
  have := rep_str hx
  subst this
  have hlt : i.toNat < s.size := by omega
  refine ⟨rfl, _, ?_, plain_int _ _⟩
  have hb : s[i.toNat]? = some s[i.toNat] := by simp [hlt]
  have hbt : bt s i = (s[i.toNat].toNat : Int) := by
    unfold bt
    have hd : i.toNat < s.data.toList.length := by simpa using hlt
    rw [List.getD, List.getElem?_eq_getElem hd]
    rfl
  simp only [Instr.index, asIntOf, Sem.run_bind, Sem.run_pure, Result.andThen_ok, run_underlying (str_ty hty), hr.1, if_true, hb, hbt]

theorem PtrV.shift {id i j : Nat} {pv : Value} (h : PtrV ρ L id i j pv) (n : Nat) : ∃ b o, pv = .pointer (some ⟨b, o, none⟩) ∧ PtrV ρ L id i (j + n) (.pointer (some ⟨b, o + n, none⟩)) := by
  unfold PtrV at h ⊢
  cases hl : L id with
  | none => rw [hl] at h; obtain ⟨b, o, rfl⟩ := h; exact ⟨b, o, rfl, b, o + n, rfl⟩
  | some bk =>
    rw [hl] at h
    cases bk with
    | row e t xs =>
      dsimp only at h ⊢
      obtain ⟨g, cap, hr, hi, rfl⟩ := h
      exact ⟨g, _, rfl, g, cap, hr, hi, by simp only [Nat.add_assoc]⟩
    | box e cs =>
      dsimp only at h ⊢
      obtain ⟨g, cap, hr, hi, rfl⟩ := h
      exact ⟨g, _, rfl, g, cap, hr, hi, rfl⟩

theorem addr_add (b o n : Nat) : (⟨b, o, none⟩ : Addr).add n = ⟨b, o + n, none⟩ := add_plain _ rfl n

theorem idxA_run {ty e : TypeId} {n sz : Nat} (hty : tyArr P ty = some (n, e)) (hsz : tySz P e = some sz) {ad : Addr} {k : IntKind} {i : Int} (h : 0 ≤ i ∧ i < (n : Int)) :
    (Instr.indexAt ty (.pointer (some ad)) (.int k i)).run P w = .ok (.pointer (some (ad.add (i.toNat * sz)))) w := by
  simp only [Instr.indexAt, asIntOf, Instr.sureAddr, Sem.run_bind, Sem.run_pure, Result.andThen_ok, run_underlying (arr_ty hty), Sem.run_ite, h.1, h.2, and_self, if_true, run_sz hsz]

theorem idxA_sound {ty e : TypeId} {n sz : Nat} (hty : tyArr P ty = some (n, e)) (hsz : tySz P e = some sz) {id r j : Nat} {pv : Value} (hp : Rep M ρ L (.ptr id r j) pv) (hb : Bd G (.ptr id r j)) {k : IntKind} {i : Int}
    (h : (Qn.guard (inRange i n) (.pure (.ptr id r (j + i.toNat * sz)))).run L done1 = some (v, d)) : d = [] ∧ PureRes P M ρ L G w (Instr.indexAt ty pv (.int k i)) v := by
  obtain ⟨hr, h⟩ := run_guard_inv h
  obtain ⟨rfl, rfl⟩ := run_pure_inv h
  simp only [Rep] at hp
  obtain ⟨b, q, rfl, hp2⟩ := hp.shift (i.toNat * sz)
  exact ⟨rfl, _, idxA_run hty hsz (range_inv hr), ⟨by rw [addr_add]; simpa only [Rep] using hp2, by simpa [Bd] using hb⟩⟩

theorem run_branch_inv {c : Bool} {p q : Go.R.Qn} {r : AV × List (Nat × Option Blk)} (h : (Qn.branch c p q).run L done1 = some r) : (c = true ∧ p.run L done1 = some r) ∨ (c = false ∧ q.run L done1 = some r) := by
  cases c with
  | true => exact .inl ⟨rfl, h⟩
  | false => exact .inr ⟨rfl, h⟩

theorem split_inv {n sz id r j : Nat} {i : Int} : (m : Nat) → m ≤ n → (split n sz id r j i m).run L done1 = some (v, d) → ∃ q : Nat, q < n ∧ i = (q : Int) ∧ v = .ptr id r (j + q * sz) ∧ d = []
  | 0, _, h => (run_fail h).elim
  | m + 1, hm, h => by
    unfold split at h
    rcases run_branch_inv h with ⟨hc, h⟩ | ⟨_, h⟩
    · obtain ⟨rfl, rfl⟩ := run_pure_inv h
      exact ⟨n - (m + 1), by omega, eq_of_beq hc, rfl, rfl⟩
    · exact split_inv m (by omega) h

theorem idxAs_sound {ty e : TypeId} {n sz : Nat} (hty : tyArr P ty = some (n, e)) (hsz : tySz P e = some sz) {id r j : Nat} {pv : Value} (hp : Rep M ρ L (.ptr id r j) pv) (hb : Bd G (.ptr id r j)) {k : IntKind} {i : Int}
    (h : (split n sz id r j i n).run L done1 = some (v, d)) : d = [] ∧ PureRes P M ρ L G w (Instr.indexAt ty pv (.int k i)) v := by
  obtain ⟨q, hq, rfl, rfl, rfl⟩ := split_inv n (Nat.le_refl _) h
  simp only [Rep] at hp
  obtain ⟨b, q', rfl, hp2⟩ := hp.shift (q * sz)
  refine ⟨rfl, _, idxA_run hty hsz ⟨by omega, by omega⟩, ⟨?_, by simpa [Bd] using hb⟩⟩
  rw [addr_add]
  simpa only [Rep, Int.toNat_natCast] using hp2

theorem splitI_inv {n sz : Nat} {agg : Bool} {cs : List AV} {i : Int} : (m : Nat) → m ≤ n → (splitI n sz agg cs i m).run L done1 = some (v, d) → ∃ q : Nat, q < n ∧ i = (q : Int) ∧ (oneQ agg sz ((cs.drop (q * sz)).take sz)).run L done1 = some (v, d)
  | 0, _, h => (run_fail h).elim
  | m + 1, hm, h => by
    unfold splitI at h
    rcases run_branch_inv h with ⟨hc, h⟩ | ⟨_, h⟩
    · exact ⟨n - (m + 1), by omega, eq_of_beq hc, h⟩
    · exact splitI_inv m (by omega) h

theorem indexS_sound {ty e : TypeId} {n sz : Nat} {agg : Bool} (hty : tyArr P ty = some (n, e)) (hsz : tySz P e = some sz) (hagg : tyAgg P e = some agg) {cs : List AV} {xv : Value} (hx : Rep M ρ L (.agg cs) xv) (hb : Bd G (.agg cs)) {k : IntKind} {i : Int}
    (h : (cond (Nat.beq cs.length (n * sz)) (splitI n sz agg cs i n) .fail).run L done1 = some (v, d)) : d = [] ∧ PureRes P M ρ L G w (Instr.index ty xv (.int k i)) v := by
  obtain ⟨_, h⟩ := run_cond_inv h
  obtain ⟨q, hq, rfl, h1⟩ := splitI_inv n (Nat.le_refl _) h
  simp only [Rep] at hx
  obtain ⟨us, rfl, hx⟩ := hx
  simp only [Bd] at hb
  obtain ⟨rfl, v', hrun, hv⟩ := part_sound (w := w) hsz hagg hx hb h1
  refine ⟨rfl, v', ?_, hv⟩
  have h0 : (0 : Int) ≤ (q : Int) := by omega
  have h1 : (q : Int) < (n : Int) := by omega
  simp only [Instr.index, asIntOf, Sem.run_bind, Sem.run_pure, Result.andThen_ok, run_underlying (arr_ty hty), Sem.run_ite, h0, h1, and_self, if_true, run_sz hsz, hrun, Int.toNat_natCast]

theorem splitR_inv {n sz : Nat} {cs : List AV} {i : Int} : (m : Nat) → m ≤ n → (splitR n sz cs i m).run L done1 = some (v, d) → ∃ q : Nat, q < n ∧ i = (q : Int) ∧ v = .rptr (cs.drop (q * sz)) ∧ d = []
  | 0, _, h => (run_fail h).elim
  | m + 1, hm, h => by
    unfold splitR at h
    rcases run_branch_inv h with ⟨hc, h⟩ | ⟨_, h⟩
    · obtain ⟨rfl, rfl⟩ := run_pure_inv h
      exact ⟨n - (m + 1), by omega, eq_of_beq hc, rfl, rfl⟩
    · exact splitR_inv m (by omega) h

theorem idxAr_sound {ty e : TypeId} {n sz : Nat} (hty : tyArr P ty = some (n, e)) (hsz : tySz P e = some sz) {cs : List AV} {pv : Value} (hp : Rep M ρ L (.rptr cs) pv) (hb : Bd G (.rptr cs)) {k : IntKind} {i : Int}
    (h : (splitR n sz cs i n).run L done1 = some (v, d)) : d = [] ∧ PureRes P M ρ L G w (Instr.indexAt ty pv (.int k i)) v := by
  obtain ⟨q, hq, rfl, rfl, rfl⟩ := splitR_inv n (Nat.le_refl _) h
  simp only [Rep] at hp
  obtain ⟨ad, us, rfl, hs, hr, hc⟩ := hp
  refine ⟨rfl, _, idxA_run hty hsz ⟨by omega, by omega⟩, ⟨?_, by simp only [Bd] at hb ⊢; exact hb.drop _⟩⟩
  rw [Int.toNat_natCast]
  simp only [Rep]
  refine ⟨_, us.drop (q * sz), rfl, by rw [add_plain ad hs], hr.drop _, fun j u hu' => ?_⟩
  rw [add_plain ad hs]
  rw [List.getElem?_drop] at hu'
  have := hc _ u hu'
  rw [← Nat.add_assoc] at this
  exact this

theorem fieldAddr_sound {s ft : TypeId} {f q : Nat} (hf : tyField P s f = some (q, ft)) {n : Nat} (hsz : tySz P ft = some (n + 1)) {av : AV} {pv : Value} (hp : Rep M ρ L av pv) (hb : Bd G av)
    (h : (match av with
      | .ptr id i j => Qn.pure (.ptr id i (j + q))
      | .rptr cs => .pure (.rptr (cs.drop q))
      | _ => .fail).run L done1 = some (v, d)) : d = [] ∧ PureRes P M ρ L G w (Instr.fieldAt s pv f) v := by
  obtain ⟨fs, fd, hu, hfd, rfl, rfl⟩ := field_ty hf
  have run : ∀ ad : Addr, (Instr.fieldAt s (.pointer (some ad)) f).run P w = .ok (.pointer (some (ad.add fd.offset))) w := fun ad => by
    simp only [Instr.fieldAt, Instr.sureAddr, fieldPlace, Sem.run_bind, Sem.run_pure, Result.andThen_ok, run_underlying hu, hfd, run_sz hsz, Nat.succ_ne_zero, if_false]
  split at h
  · rename_i id i j
    obtain ⟨rfl, rfl⟩ := run_pure_inv h
    simp only [Rep] at hp
    obtain ⟨b, q', rfl, hp2⟩ := hp.shift fd.offset
    exact ⟨rfl, _, run _, ⟨by rw [addr_add]; simpa only [Rep] using hp2, by simpa [Bd] using hb⟩⟩
  · rename_i cs
    obtain ⟨rfl, rfl⟩ := run_pure_inv h
    simp only [Rep] at hp
    obtain ⟨ad, us, rfl, hs, hr, hc⟩ := hp
    refine ⟨rfl, _, run _, ⟨?_, by simp only [Bd] at hb ⊢; exact hb.drop _⟩⟩
    simp only [Rep]
    refine ⟨_, us.drop fd.offset, rfl, by rw [add_plain ad hs], hr.drop _, fun j u hu' => ?_⟩
    rw [add_plain ad hs]
    rw [List.getElem?_drop] at hu'
    have := hc _ u hu'
    rw [← Nat.add_assoc] at this
    exact this
  · exact (run_fail h).elim

theorem field_sound {s ft : TypeId} {f q sz : Nat} {agg : Bool} (hf : tyField P s f = some (q, ft)) (hsz : tySz P ft = some sz) (hagg : tyAgg P ft = some agg) {cs : List AV} {xv : Value} (hx : Rep M ρ L (.agg cs) xv) (hb : Bd G (.agg cs))
    (h : (oneQ agg sz ((cs.drop q).take sz)).run L done1 = some (v, d)) : d = [] ∧ PureRes P M ρ L G w (Instr.field s xv f) v := by
  obtain ⟨fs, fd, hu, hfd, rfl, rfl⟩ := field_ty hf
  simp only [Rep] at hx
  obtain ⟨us, rfl, hr⟩ := hx
  simp only [Bd] at hb
  obtain ⟨rfl, v', hrun, hv⟩ := part_sound (w := w) hsz hagg hr hb h
  exact ⟨rfl, v', by simp only [Instr.field, asAgg, Sem.run_bind, Sem.run_pure, Result.andThen_ok, run_underlying hu, hfd, hrun], hv⟩

theorem extract_sound {vs : List AV} {xv : Value} (hx : Rep M ρ L (.tup vs) xv) (hb : Bd G (.tup vs)) {j : Nat} (h : (match vs[j]? with
        | some v => Qn.pure v
        | none => .fail).run L done1 = some (v, d)) : d = [] ∧ PureRes P M ρ L G w (Instr.extract xv j) v := by
  simp only [Rep] at hx
  obtain ⟨us, rfl, hr⟩ := hx
  simp only [Bd] at hb
  cases hj : vs[j]? with
  | none => rw [hj] at h; exact (run_fail h).elim
  | some y =>
    rw [hj] at h
    obtain ⟨rfl, rfl⟩ := run_pure_inv h
    obtain ⟨u, hu, hr'⟩ := hr.get hj
    rw [Array.getElem?_toList] at hu
    exact ⟨rfl, u, by simp only [Instr.extract, hu, Sem.run_pure], ⟨hr', hb.get hj⟩⟩

theorem neg_sound {k : IntKind} {n : Int} (h : (Qn.pure (.int k (k.wrap (0 - n)))).run L done1 = some (v, d)) : d = [] ∧ PureRes P M ρ L G w (Op.unary .neg (.int k n)) v := by
  obtain ⟨rfl, rfl⟩ := run_pure_inv h
  exact ⟨rfl, _, by simp only [Op.unary, Op.intArith, Sem.run_pure], plain_int _ _⟩

theorem negF_sound {n : Nat} (h : (Qn.pure (.flt (Op.negFloat .f64 n))).run L done1 = some (v, d)) : d = [] ∧ PureRes P M ρ L G w (Op.unary .neg (.float .f64 n)) v := by
  obtain ⟨rfl, rfl⟩ := run_pure_inv h
  exact ⟨rfl, _, by simp only [Op.unary, Sem.run_pure], plain_flt _⟩

theorem xor_sound {k : IntKind} {n : Int} (h : (ibin .xor k (if k.signed then -1 else k.max) n).run L done1 = some (v, d)) : d = [] ∧ PureRes P M ρ L G w (Op.unary .xor (.int k n)) v := by
  unfold ibin at h
  obtain ⟨rfl, rfl⟩ := run_pure_inv h
  exact ⟨rfl, _, by simp only [Op.unary, Op.intBits, Sem.run_pure], plain_int _ _⟩

theorem not_sound {b : Bool} (h : (Qn.pure (.bool (!b))).run L done1 = some (v, d)) : d = [] ∧ PureRes P M ρ L G w (Op.unary .not (.bool b)) v := by
  obtain ⟨rfl, rfl⟩ := run_pure_inv h
  exact ⟨rfl, _, by simp only [Op.unary, Sem.run_pure], plain_bool _⟩

theorem conv_sound {src dst : TypeId} {k k' : IntKind} {n : Int} (hs : (P.underlying src).isSome) (hd : tyInt P dst = some k) (h : (Qn.pure (.int k (k.wrap n))).run L done1 = some (v, d)) :
    d = [] ∧ PureRes P M ρ L G w (convert src dst (.int k' n)) v := by
  obtain ⟨rfl, rfl⟩ := run_pure_inv h
  cases hq : P.underlying src with
  | none => rw [hq] at hs; cases hs
  | some q => exact ⟨rfl, _, by simp only [convert, Sem.run_bind, run_underlying hq, run_underlying (int_ty hd), Result.andThen_ok, Conv.intToInt, Sem.run_pure], plain_int _ _⟩

theorem flt_ty {t : TypeId} (h : tyFlt P t = true) : P.underlying t = some (.float .f64) := by
  unfold tyFlt at h
  split at h
  · assumption
  · cases h

theorem convFI_sound {src dst : TypeId} {k : IntKind} {n : Nat} (hs : (P.underlying src).isSome) (hd : tyInt P dst = some k) (h : (Qn.bind (fltInt k n) fun m => .pure (.int k m)).run L done1 = some (v, d)) :
    d = [] ∧ PureRes P M ρ L G w (convert src dst (.float .f64 n)) v := by
  cases hm : fltInt k n with
  | none => rw [hm] at h; simp [Qn.run] at h
  | some m =>
    rw [hm] at h
    simp only [Qn.run, Option.bind_some] at h
    obtain ⟨rfl, rfl⟩ := run_pure_inv h
    unfold fltInt at hm
    split at hm
    · rename_i m' hm'
      split at hm
      · rename_i hr
        cases hm
        cases hq : P.underlying src with
        | none => rw [hq] at hs; cases hs
        | some q => exact ⟨rfl, _, by simp only [convert, Sem.run_bind, run_underlying hq, run_underlying (int_ty hd), Result.andThen_ok, Conv.floatToInt, hm', if_pos hr, Sem.run_pure], plain_int _ _⟩
      · cases hm
    · cases hm

theorem convIF_sound {src dst : TypeId} {k : IntKind} {n : Int} (hs : (P.underlying src).isSome) (hd : tyFlt P dst = true) (h : (Qn.pure (.flt (FloatKind.f64.nearest n))).run L done1 = some (v, d)) :
    d = [] ∧ PureRes P M ρ L G w (convert src dst (.int k n)) v := by
  obtain ⟨rfl, rfl⟩ := run_pure_inv h
  cases hq : P.underlying src with
  | none => rw [hq] at hs; cases hs
  | some q => exact ⟨rfl, _, by simp only [convert, Sem.run_bind, run_underlying hq, run_underlying (flt_ty hd), Result.andThen_ok, Conv.intToFloat, Sem.run_pure], plain_flt _⟩

theorem convFF_sound {src dst : TypeId} {n : Nat} (hs : (P.underlying src).isSome) (hd : tyFlt P dst = true) (h : (Qn.pure (.flt n)).run L done1 = some (v, d)) :
    d = [] ∧ PureRes P M ρ L G w (convert src dst (.float .f64 n)) v := by
  obtain ⟨rfl, rfl⟩ := run_pure_inv h
  cases hq : P.underlying src with
  | none => rw [hq] at hs; cases hs
  | some q => exact ⟨rfl, _, by simp only [convert, Sem.run_bind, run_underlying hq, run_underlying (flt_ty hd), Result.andThen_ok, Conv.floatToFloat, if_true, Sem.run_pure], plain_flt _⟩

theorem convStr_sound {src dst : TypeId} {s : ByteArray} (hs : (P.underlying src).isSome) (hd : tyStr P dst = true) (h : (Qn.pure (.str s)).run L done1 = some (v, d)) :
    d = [] ∧ PureRes P M ρ L G w (convert src dst (.string s)) v := by
  obtain ⟨rfl, rfl⟩ := run_pure_inv h
  cases hq : P.underlying src with
  | none => rw [hq] at hs; cases hs
  | some q => exact ⟨rfl, _, by simp only [convert, Sem.run_bind, run_underlying hq, run_underlying (str_ty hd), Result.andThen_ok, Sem.run_pure], plain_str _⟩

end
end Go.R

/- Choices, equality, literals. -/
namespace Go.R
open Go

section
variable {P : Program} {E : Env} {w0 : Start} {S G : Nat → Prop} {M : Mem} {ρ : Places} {L : Blks} {w : World} {X : Exit → Act → World → Prop} {o : Oper} {a : Act} {fr : List AV} {fs : List (List AV)} {susp : List (List Value)} {v : AV} {d : List (Nat × Option Blk)}

/-! ### Equality -/

theorem part_cells {ft : TypeId} {sz : Nat} {agg : Bool} (hsz : tySz P ft = some sz) (hagg : tyAgg P ft = some agg) {us : Array Value} {off : Nat} {vs : List Value} (hl : vs.length = sz) (h1 : agg = false → sz = 1) (hc : ∀ j u, vs[j]? = some u → us[off + j]? = some u) :
    (part ft us off).run P w = .ok (oneV agg vs) w := by
  cases agg with
  | true =>
    simp only [part, Sem.run_bind, run_agg hagg, Result.andThen_ok, run_sz hsz, if_true, Sem.run_pure, oneV]
    congr 2
    apply Array.ext_getElem?
    intro j
    rw [Array.getElem?_extract]
    have e2 : vs.toArray[j]? = vs[j]? := List.getElem?_toArray
    rw [e2]
    by_cases hj : j < sz
    · have := hc j vs[j] (List.getElem?_eq_getElem (by omega))
      rw [List.getElem?_eq_getElem (show j < vs.length by omega)]
      have hlt : off + j < us.size := (Array.getElem?_eq_some_iff.1 this).1
      rw [if_pos (by omega), this]
    · rw [List.getElem?_eq_none (show vs.length ≤ j by omega), if_neg (by omega)]
  | false =>
    have h1 := h1 rfl
    have : us[off]? = some (vs.getD 0 undef) := by
      have := hc 0 vs[0] (List.getElem?_eq_getElem (by omega))
      rw [List.getD, List.getElem?_eq_getElem (by omega)]
      exact this
    simp only [part, Sem.run_bind, run_agg hagg, Result.andThen_ok, Bool.false_eq_true, if_false, this, Sem.run_pure, oneV]

theorem fields_eq {ok : TypeId → Ty → Bool} {d : Nat}
    (H : ∀ (t : TypeId) (ty : Ty) (agg : Bool), ok t ty = true → tyAgg P t = some agg → (agg = false → ty.sz = 1) ∧ ∀ (x y : Dat ty) (vx vy : List Value) (w : World), RepS M ty x vx → RepS M ty y vy → (Op.equalIn d t (oneV agg vx) (oneV agg vy)).run P w = .ok (eqS ty x y) w) :
    (fs : List Field) → (ty : Ty) → (off : Nat) → fieldsOk P ok fs ty off = true → (x y : Dat ty) → (vx vy : List Value) → (xs ys : Array Value) → (w : World) → RepS M ty x vx → RepS M ty y vy →
      (∀ j u, vx[j]? = some u → xs[off + j]? = some u) → (∀ j u, vy[j]? = some u → ys[off + j]? = some u) → (Op.eqFields d xs ys fs).run P w = .ok (eqS ty x y) w
  | [], ty, off, h, x, y, vx, vy, xs, ys, w, hx, hy, cx, cy => by
    cases ty <;> simp [fieldsOk] at h
    simp [Op.eqFields, eqS]
  | [f], ty, off, h, x, y, vx, vy, xs, ys, w, hx, hy, cx, cy => by
    simp only [fieldsOk, Bool.and_eq_true, bne_iff_ne, beq_iff_eq, ne_eq] at h
    obtain ⟨⟨⟨⟨h1, h2⟩, h3⟩, h4⟩, h5⟩ := h
    obtain ⟨agg, ha⟩ := Option.isSome_iff_exists.1 h4
    obtain ⟨hone, heq⟩ := H f.type ty agg h5 ha
    subst h2
    simp only [Op.eqFields, ne_eq, h1, not_false_eq_true, if_true, Sem.run_bind, part_cells h3 ha hx.len hone cx, part_cells h3 ha hy.len hone cy, Result.andThen_ok, heq x y vx vy w hx hy, Sem.run_ite, Sem.run_pure]
    cases eqS ty x y <;> simp
  | f :: g :: r, .pair ta tb, off, h, x, y, vx, vy, xs, ys, w, hx, hy, cx, cy => by
    simp only [fieldsOk, Bool.and_eq_true, bne_iff_ne, beq_iff_eq, ne_eq] at h
    obtain ⟨⟨⟨⟨⟨h1, h2⟩, h3⟩, h4⟩, h5⟩, h6⟩ := h
    obtain ⟨agg, ha⟩ := Option.isSome_iff_exists.1 h4
    obtain ⟨hone, heq⟩ := H f.type ta agg h5 ha
    subst h2
    simp only [RepS] at hx hy
    obtain ⟨x1, x2, rfl, hx1, hx2⟩ := hx
    obtain ⟨y1, y2, rfl, hy1, hy2⟩ := hy
    have sub : ∀ {z1 z2 : List Value} {zs : Array Value} {q : Nat}, z1.length = ta.sz → (∀ j u, (z1 ++ z2)[j]? = some u → zs[q + j]? = some u) → (∀ j u, z1[j]? = some u → zs[q + j]? = some u) ∧ (∀ j u, z2[j]? = some u → zs[q + ta.sz + j]? = some u) := by
      intro z1 z2 zs q hl hc
      refine ⟨fun j u hj => hc j u ?_, fun j u hj => ?_⟩
      · rw [List.getElem?_append_left (List.getElem?_eq_some_iff.1 hj).1]; exact hj
      · have := hc (ta.sz + j) u (by rw [List.getElem?_append_right (by omega), hl, Nat.add_sub_cancel_left]; exact hj)
        rw [← Nat.add_assoc] at this
        exact this
    obtain ⟨cx1, cx2⟩ := sub hx1.len cx
    obtain ⟨cy1, cy2⟩ := sub hy1.len cy
    have ih := fields_eq H (g :: r) tb _ h6 x.2 y.2 x2 y2 xs ys w hx2 hy2 cx2 cy2
    rw [Op.eqFields]
    simp only [ne_eq, h1, not_false_eq_true, if_true, Sem.run_bind, part_cells h3 ha hx1.len hone cx1, part_cells h3 ha hy1.len hone cy1, Result.andThen_ok, heq x.1 y.1 x1 y1 w hx1 hy1, Sem.run_ite, Sem.run_pure, ih, eqS]
    cases eqS ta x.1 y.1 <;> simp
  | _ :: _ :: _, .int _, _, h, _, _, _, _, _, _, _, _, _, _, _ | _ :: _ :: _, .bool, _, h, _, _, _, _, _, _, _, _, _, _, _ | _ :: _ :: _, .str, _, h, _, _, _, _, _, _, _, _, _, _, _
  | _ :: _ :: _, .flt, _, h, _, _, _, _, _, _, _, _, _, _, _ | _ :: _ :: _, .err, _, h, _, _, _, _, _, _, _, _, _, _, _ | _ :: _ :: _, .nsl _, _, h, _, _, _, _, _, _, _, _, _, _, _ | _ :: _ :: _, .slice _, _, h, _, _, _, _, _, _, _, _, _, _, _ | _ :: _ :: _, .unit, _, h, _, _, _, _, _, _, _, _, _, _, _ => by simp [fieldsOk] at h

def aggD : TypeDesc → Bool
  | .struct _ | .array _ _ => true
  | _ => false

theorem tyAgg_of {t : TypeId} {dsc : TypeDesc} (h : P.underlying t = some dsc) {agg : Bool} (ha : tyAgg P t = some agg) : agg = aggD dsc := by
  unfold tyAgg at ha
  rw [h] at ha
  simp only [Option.map_some, Option.some.injEq] at ha
  exact ha.symm

theorem eqOk_run : (n : Nat) → (d : Nat) → n ≤ d → (t : TypeId) → (ty : Ty) → (agg : Bool) → eqOk P n t ty = true → tyAgg P t = some agg →
    (agg = false → ty.sz = 1) ∧ ∀ (x y : Dat ty) (vx vy : List Value) (w : World), RepS M ty x vx → RepS M ty y vy → (Op.equalIn d t (oneV agg vx) (oneV agg vy)).run P w = .ok (eqS ty x y) w
  | 0, _, _, _, _, _, h, _ => by simp [eqOk] at h
  | n + 1, d, hd, t, ty, agg, h, ha => by
    obtain ⟨d, rfl⟩ : ∃ d', d = d' + 1 := ⟨d - 1, by omega⟩
    unfold eqOk at h
    split at h
    · rename_i k hu
      have := tyAgg_of hu ha
      simp only [aggD] at this
      subst this
      have : ty = .int k := by simpa using h
      subst this
      refine ⟨fun _ => rfl, fun x y vx vy w hx hy => ?_⟩
      simp only [RepS] at hx hy
      subst hx hy
      simp only [oneV, List.getD_cons_zero]
      rw [run_equalIn_int w d t k k x y hu]
      rfl
    · rename_i hu
      have := tyAgg_of hu ha
      simp only [aggD] at this
      subst this
      have : ty = .bool := by simpa using h
      subst this
      refine ⟨fun _ => rfl, fun x y vx vy w hx hy => ?_⟩
      simp only [RepS] at hx hy
      subst hx hy
      simp only [oneV, List.getD_cons_zero]
      rw [run_equalIn_bool w d t x y hu]
      rfl
    · rename_i hu
      have := tyAgg_of hu ha
      simp only [aggD] at this
      subst this
      have : ty = .str := by simpa using h
      subst this
      refine ⟨fun _ => rfl, fun x y vx vy w hx hy => ?_⟩
      simp only [RepS] at hx hy
      subst hx hy
      simp only [oneV, List.getD_cons_zero]
      rw [run_equalIn_string w d t x y hu, ← beq_toListBytes]
      rfl
    · rename_i fs hu
      have := tyAgg_of hu ha
      simp only [aggD] at this
      subst this
      simp only [Bool.and_eq_true, Bool.not_eq_true'] at h
      refine ⟨fun e => (by cases e), fun x y vx vy w hx hy => ?_⟩
      have hfo : P.fieldsOf t = fs := by simp [Program.fieldsOf, hu]
      simp only [oneV]
      rw [run_equalIn_struct w d t _ _ (by rw [hfo]; exact hu) h.1, hfo]
      exact fields_eq (fun t ty agg => eqOk_run n d (by omega) t ty agg) fs.toList ty 0 h.2 x y vx vy _ _ w hx hy (by simp) (by simp)
    · cases h

theorem eqB_inv {op : BinOp} {b : Bool} (h : (eqB op b).run L done1 = some (v, d)) : d = [] ∧ ((op = .eql ∧ v = .bool b) ∨ (op = .neq ∧ v = .bool (!b))) := by
  unfold eqB at h
  split at h
  · obtain ⟨rfl, rfl⟩ := run_pure_inv h; exact ⟨rfl, .inl ⟨rfl, rfl⟩⟩
  · obtain ⟨rfl, rfl⟩ := run_pure_inv h; exact ⟨rfl, .inr ⟨rfl, rfl⟩⟩
  · exact (run_fail h).elim

theorem eqStruct_sound {op : BinOp} {t : TypeId} {ty : Ty} (hk : eqOk P 30 t ty = true) (hg : P.eqGuardType P.depth t = false) (ha : tyAgg P t = some true) {xs ys : List AV} {xv yv : Value} (hx : Rep M ρ L (.agg xs) xv) (hy : Rep M ρ L (.agg ys) yv) {ox oy : Operand}
    (h : (match dec ty xs with
      | some x => match dec ty ys with
        | some y => eqB op (eqS ty x y)
        | none => .fail
      | none => .fail).run L done1 = some (v, d)) : (eqGuard op t ox oy xv yv).run P w = .ok () w ∧ d = [] ∧ PureRes P M ρ L G w (binOp op t xv yv) v := by
  simp only [Rep] at hx hy
  obtain ⟨us, rfl, hx⟩ := hx
  obtain ⟨vs, rfl, hy⟩ := hy
  cases h1 : dec ty xs with
  | none => rw [h1] at h; exact (run_fail h).elim
  | some x =>
    rw [h1] at h
    cases h2 : dec ty ys with
    | none => rw [h2] at h; exact (run_fail h).elim
    | some y =>
      rw [h2] at h
      have e := (eqOk_run (M := M) 30 10000 (by omega) t ty true hk ha).2 x y us.toList vs.toList w (RepS.of_dec h1 hx) (RepS.of_dec h2 hy)
      simp only [oneV] at e
      refine ⟨run_eqGuard_agg w op t ox oy us vs hg, ?_⟩
      obtain ⟨rfl, ⟨rfl, rfl⟩ | ⟨rfl, rfl⟩⟩ := eqB_inv h
      · exact ⟨rfl, _, by rw [run_eql_struct, e]; rfl, plain_bool _⟩
      · exact ⟨rfl, _, by rw [run_neq_struct, e]; rfl, plain_bool _⟩

theorem eqBool_sound {op : BinOp} {t : TypeId} (hu : P.underlying t = some .bool) {x y : Bool} (h : (eqB op (x == y)).run L done1 = some (v, d)) : d = [] ∧ PureRes P M ρ L G w (binOp op t (.bool x) (.bool y)) v := by
  obtain ⟨rfl, ⟨rfl, rfl⟩ | ⟨rfl, rfl⟩⟩ := eqB_inv h
  · exact ⟨rfl, _, by simp only [binOp, Sem.run_bind, run_equal_bool w t x y hu, Result.andThen_ok, Sem.run_pure], plain_bool _⟩
  · exact ⟨rfl, _, by simp only [binOp, Sem.run_bind, run_equal_bool w t x y hu, Result.andThen_ok, Sem.run_pure], plain_bool _⟩

theorem eqNil_run {t e : TypeId} (hu : P.underlying t = some (.slice e)) (A : Option Addr) (n c : Nat) : (Op.equal t (.slice A n c) (.slice none 0 0)).run P w = .ok A.isNone w := by
  have key : ∀ k, (Op.equalIn (k + 1) t (.slice A n c) (.slice none 0 0)).run P w = .ok A.isNone w := fun k => by
    cases A <;> simp [Op.equalIn, run_underlying hu]
  exact key 9999

theorem eqPtr_run {t e : TypeId} (hu : P.underlying t = some (.pointer e)) (A : Option Addr) : (Op.equal t (.pointer A) (.pointer none)).run P w = .ok A.isNone w := by
  have key : ∀ k, (Op.equalIn (k + 1) t (.pointer A) (.pointer none)).run P w = .ok A.isNone w := fun k => by
    cases A <;> simp [Op.equalIn, run_underlying hu]
  exact key 9999

theorem eqIf_run {t : TypeId} {ms : Array (String × TypeId)} (hu : P.underlying t = some (.interface ms)) {x : Value} {b : Bool} (h : (b = false → x = .nilIface) ∧ (b = true → ∃ u p, x = .iface u p)) : (Op.equal t x .nilIface).run P w = .ok (!b) w := by
  have key : ∀ k, (Op.equalIn (k + 1) t x .nilIface).run P w = .ok (!b) w := fun k => by
    cases b with
    | false => rw [h.1 rfl]; simp [Op.equalIn, run_underlying hu]
    | true => obtain ⟨u, p, e⟩ := h.2 rfl; rw [e]; simp [Op.equalIn, run_underlying hu]
  exact key 9999

theorem if_fin {op : BinOp} {t : TypeId} {x : Value} {b : Bool} (he : (Op.equal t x .nilIface).run P w = .ok b w) (hn : x = .nilIface ∨ ∃ u p, x = .iface u p) (h : (eqB op b).run L done1 = some (v, d)) :
    d = [] ∧ PureRes P M ρ L G w (binOp op t x .nilIface) v := by
  obtain ⟨rfl, ⟨rfl, rfl⟩ | ⟨rfl, rfl⟩⟩ := eqB_inv h
  · refine ⟨rfl, _, ?_, plain_bool _⟩
    rcases hn with rfl | ⟨u, p, rfl⟩ <;> simp only [binOp, Sem.run_bind, he, Result.andThen_ok, Sem.run_pure]
  · refine ⟨rfl, _, ?_, plain_bool _⟩
    rcases hn with rfl | ⟨u, p, rfl⟩ <;> simp only [binOp, Sem.run_bind, he, Result.andThen_ok, Sem.run_pure]

theorem nil_fin {op : BinOp} {t : TypeId} {x y : Value} {b : Bool} (he : (Op.equal t x y).run P w = .ok b w) (hn : (∃ A n c B m k, x = .slice A n c ∧ y = .slice B m k) ∨ ∃ A B, x = .pointer A ∧ y = .pointer B) (h : (eqB op b).run L done1 = some (v, d)) :
    d = [] ∧ PureRes P M ρ L G w (binOp op t x y) v := by
  obtain ⟨rfl, ⟨rfl, rfl⟩ | ⟨rfl, rfl⟩⟩ := eqB_inv h
  · refine ⟨rfl, _, ?_, plain_bool _⟩
    rcases hn with ⟨A, n, c, B, m, k, rfl, rfl⟩ | ⟨A, B, rfl, rfl⟩ <;> simp only [binOp, Sem.run_bind, he, Result.andThen_ok, Sem.run_pure]
  · refine ⟨rfl, _, ?_, plain_bool _⟩
    rcases hn with ⟨A, n, c, B, m, k, rfl, rfl⟩ | ⟨A, B, rfl, rfl⟩ <;> simp only [binOp, Sem.run_bind, he, Result.andThen_ok, Sem.run_pure]

theorem nilQ_sound {op : BinOp} {t e : TypeId} (hu : P.underlying t = some (.slice e)) {x y : AV} {xv yv : Value} (hx : Rep M ρ L x xv) (hy : Rep M ρ L y yv) (h : (nilQ op x y).run L done1 = some (v, d)) :
    (∃ A n c, xv = .slice A n c ∧ yv = .slice none 0 0) ∧ d = [] ∧ PureRes P M ρ L G w (binOp op t xv yv) v := by
  unfold nilQ at h
  split at h
  · simp only [Rep] at hx hy
    subst hx hy
    exact ⟨⟨_, _, _, rfl, rfl⟩, nil_fin (eqNil_run hu _ _ _) (.inl ⟨_, _, _, _, _, _, rfl, rfl⟩) h⟩
  · simp only [Rep, RepS, List.cons.injEq, and_true] at hx
    simp only [Rep] at hy
    obtain ⟨⟨A, c, rfl, _⟩, hn⟩ := hx
    subst hy
    refine ⟨⟨_, _, _, rfl, rfl⟩, nil_fin (b := false) ?_ (.inl ⟨_, _, _, _, _, _, rfl, rfl⟩) h⟩
    rw [eqNil_run hu]
    cases A with
    | none => exact absurd rfl (hn.1 trivial _ _)
    | some A => rfl
  · rename_i u xs
    simp only [Rep, RepS, List.cons.injEq, and_true] at hx
    simp only [Rep] at hy
    obtain ⟨⟨A, c, rfl, _, hcells⟩, _, _, hn⟩ := hx
    subst hy
    refine ⟨⟨_, _, _, rfl, rfl⟩, nil_fin (b := List.isEmpty xs) ?_ (.inl ⟨_, _, _, _, _, _, rfl, rfl⟩) h⟩
    rw [eqNil_run hu]
    cases xs with
    | nil =>
      have := hn trivial rfl
      cases this
      rfl
    | cons y ys =>
      obtain ⟨ad, _, rfl, _⟩ := hcells 0 y rfl
      rfl
  · rename_i id
    replace h := run_ask_inv h
    split at h
    · rename_i e' t' xs hl
      obtain ⟨hg, h⟩ := run_guard_inv h
      simp only [Rep] at hx hy
      unfold OwnV at hx
      rw [hl] at hx
      dsimp only at hx
      subst hy
      obtain ⟨A, c, rfl, _, hcase⟩ := hx
      refine ⟨⟨_, _, _, rfl, rfl⟩, nil_fin (b := false) ?_ (.inl ⟨_, _, _, _, _, _, rfl, rfl⟩) h⟩
      rw [eqNil_run hu]
      rcases hcase with ⟨_, h0⟩ | ⟨g, cap, _, rfl, _⟩
      · cases xs with
        | nil => simp at hg
        | cons x xs => simp at h0
      · rfl
    · exact (run_fail h).elim
  · rename_i id
    replace h := run_ask_inv h
    split at h
    · rename_i e' t' xs hl
      simp only [Rep] at hx hy
      obtain ⟨hx, hnil⟩ := hx
      unfold OwnV at hx
      rw [hl] at hx
      dsimp only at hx
      subst hy
      cases xs with
      | nil =>
        obtain rfl := hnil _ _ hl
        exact ⟨⟨_, _, _, rfl, rfl⟩, nil_fin (b := true) (by rw [eqNil_run hu]; rfl) (.inl ⟨_, _, _, _, _, _, rfl, rfl⟩) h⟩
      | cons x xs =>
        obtain ⟨A, c, rfl, _, hcase⟩ := hx
        refine ⟨⟨_, _, _, rfl, rfl⟩, nil_fin (b := false) ?_ (.inl ⟨_, _, _, _, _, _, rfl, rfl⟩) h⟩
        rw [eqNil_run hu]
        rcases hcase with ⟨_, h0⟩ | ⟨g, cap, _, rfl, _⟩
        · simp at h0
        · rfl
    · exact (run_fail h).elim
  · exact (run_fail h).elim

theorem eqGuard_skip {op : BinOp} {t : TypeId} {ox oy : Operand} {x y : Value} (h1 : ∀ xs ys, ¬ (x = .agg xs ∧ y = .agg ys)) (h2 : x ≠ .nilIface) : (eqGuard op t ox oy x y).run P w = .ok () w := by
  unfold eqGuard
  cases hop : (!(match op with | .eql | .neq => true | _ => false)) with
  | true => simp
  | false =>
    simp only [Bool.false_eq_true, if_false]
    split
    · exact absurd rfl h2
    · rename_i xs ys; exact absurd ⟨rfl, rfl⟩ (h1 xs ys)
    · simp

/-! ### Literals -/

theorem fill_step {place : Nat → Option (Nat × Nat)} {cells : Array Value} {i off sz : Nat} {u : Value} {r : List (Nat × Value)} (hp : place i = some (off, sz)) (hu : u.cells.size = sz) (hfit : off + sz ≤ cells.size) :
    Instr.fill place cells ((i, u) :: r) = Instr.fill place (cells.toList.take off ++ u.cells.toList ++ cells.toList.drop (off + u.cells.toList.length)).toArray r := by
  rw [Instr.fill]
  simp only [hp, hu]
  rw [if_neg (by simp; omega)]
  congr 1
  have hul : u.cells.toList.length = sz := by simpa using hu
  obtain ⟨h1, h2⟩ := Go.Great.foldl_set off u.cells.toList 0 cells
  apply Array.ext_getElem?
  intro k
  rw [← Array.foldl_toList, Array.toList_zipIdx, h2 k]
  obtain ⟨s1, s2, s3⟩ := splice_cur (cur := cells) (o := off) (us := u.cells.toList) (by omega)
  simp only [Nat.add_zero]
  by_cases hk : off ≤ k ∧ k < off + u.cells.toList.length
  · rw [if_pos ⟨hk.1, hk.2, by omega⟩]
    have := s3 (k - off) (by omega)
    rw [show off + (k - off) = k by omega] at this
    exact this.symm
  · rw [if_neg (fun h => hk ⟨h.1, h.2.1⟩)]
    exact (s2 k (by omega)).symm

theorem fillA_sound {places : List (Nat × Nat)} {place : Nat → Option (Nat × Nat)} (hpl : ∀ i p, places[i]? = some p → place i = some p) {n : Nat} (hfit : ∀ p ∈ places, p.1 + p.2 ≤ n) :
    (ps : List (Nat × AV)) → (us : List (Nat × Value)) → (cs : List AV) → (cur : Array Value) → {out : List AV} → fillA places cs ps = some out → RepL M ρ L cs cur.toList → BdL G cs → cs.length = n →
      ps.map (·.1) = us.map (·.1) → RepL M ρ L (ps.map (·.2)) (us.map (·.2)) → BdL G (ps.map (·.2)) → ∃ cur' : Array Value, Instr.fill place cur us = some cur' ∧ RepL M ρ L out cur'.toList ∧ BdL G out
  | [], us, cs, cur, out, h, hr, hb, hn, h1, _, _ => by
    simp only [fillA, Option.some.injEq] at h
    subst h
    have : us = [] := by simpa using h1.symm
    subst this
    exact ⟨cur, rfl, hr, hb⟩
  | (i, v) :: ps, us, cs, cur, out, h, hr, hb, hn, h1, h2, h3 => by
    match us, h1 with
    | (i', u) :: us, h1 =>
      simp only [List.map_cons, List.cons.injEq] at h1
      obtain ⟨rfl, h1⟩ := h1
      simp only [List.map_cons, RepL, List.cons.injEq] at h2
      obtain ⟨u', r', ⟨rfl, rfl⟩, hu, h2⟩ := h2
      simp only [List.map_cons, BdL] at h3
      simp only [fillA] at h
      cases hp : places[i]? with
      | none => rw [hp] at h; cases h
      | some p =>
        obtain ⟨off, sz⟩ := p
        rw [hp] at h
        simp only at h
        cases hc : (Nat.beq v.cells.length sz && v.cells.all AV.oneCell) with
        | false => rw [hc] at h; cases h
        | true =>
          rw [hc] at h
          simp only [cond_true] at h
          simp only [Bool.and_eq_true] at hc
          have hsz := Nat.eq_of_beq_eq_true hc.1
          obtain ⟨hur, _⟩ := rep_cells hu hc.2
          have hul : u.cells.size = sz := by have := hur.length; rw [Array.length_toList] at this; omega
          have hcl : cur.size = n := by have := hr.length; rw [Array.length_toList] at this; omega
          have hf := hfit (off, sz) (List.mem_of_getElem? hp)
          simp only at hf
          rw [fill_step (hpl i _ hp) hul (by omega)]
          refine fillA_sound hpl hfit ps us _ _ h (by simpa using hr.splice hur off) ?_ ?_ h1 h2 h3.2
          · unfold splice
            exact ((hb.take off).append (BdL_cells h3.1)).append (hb.drop _)
          · unfold splice
            simp only [List.length_append, List.length_take, List.length_drop]
            omega

theorem run_build_of {t : TypeId} {parts : Array (Nat × Value)} {cells : Array Value} (h : P.built t parts.toList = some cells) : (Instr.build t parts).run P w = .ok (.agg cells) w := run_build w t parts cells h

end
end Go.R
