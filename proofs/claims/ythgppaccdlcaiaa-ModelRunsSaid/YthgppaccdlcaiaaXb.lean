/- The program logic: what is to be shown of code ('vc'), over abstract values and memory. -/
import Derived.Test.YthgppaccdlcaiaaXa
set_option linter.unusedVariables false
set_option linter.unusedSimpArgs false
set_option linter.unusedSectionVars false
namespace Go.X
open Go.RowKit

/-! ### types -/
inductive TD where
  | bool | int (k : IntKind) | string | pointer (e : Nat) | slice (e : Nat) | map (k e : Nat) | struct (fs : List (Nat × Nat)) | array (n e : Nat) | func | iface | other
  deriving DecidableEq

structure TI where
  size : Nat
  agg : Bool
  bytes : Nat
  zero : AV
  d : TD

def absL : Value → Lf
  | .int k n => .int k n
  | .bool b => .bool b
  | .string s => .str s
  | .pointer none => .nilp
  | .slice none 0 0 => .nils
  | .map none => .nilm
  | .nilFunc => .nilf
  | .nilIface => .nili
  | .func (.func f) ⟨[]⟩ ⟨[]⟩ => .clo f []
  | v => .tok v

def absV : Value → AV
  | .agg cs => if cs.toList.all (·.oneCell') then .agg (cs.toList.map absL) else .any
  | .tuple _ => .any
  | v => .l (absL v)

def tdOf : TypeDesc → TD
  | .bool => .bool
  | .int k => .int k
  | .string => .string
  | .pointer e => .pointer e
  | .slice e => .slice e
  | .map k e => .map k e
  | .struct fs => .struct (fs.toList.map fun f => (f.offset, f.type))
  | .array n e => .array n e
  | .func _ _ _ => .func
  | .interface _ => .iface
  | _ => .other

def tdAgg : TypeDesc → Bool
  | .struct _ | .array _ _ => true
  | _ => false

def tiOf (P : Program) (t : TypeId) : Option TI :=
  match P.info? t with
  | some i => match P.underlying t, i.zero with
    | some d, some z => some { size := i.size, agg := tdAgg d, bytes := i.bytes, zero := absV z, d := tdOf d }
    | _, _ => none
  | none => none

/-! ### combinators: what stands in a later place is not looked into before the first is known -/
def optK {α : Type} (o : Option α) (K : α → Prop) : Prop := match o with | some a => K a | none => False
theorem optK_some {α : Type} (a : α) (K : α → Prop) : optK (some a) K = K a := rfl
theorem optK_none {α : Type} (K : α → Prop) : optK none K = False := rfl
theorem optK_congr {α : Type} {o o' : Option α} {K : α → Prop} (h : o = o') : optK o K = optK o' K := by rw [h]

def condK (t : AV) (A B : Prop) : Prop := match t with | .l (.bool b) => (b = true → A) ∧ (b = false → B) | _ => False
theorem condK_true (A B : Prop) : condK (.l (.bool true)) A B = A := by simp [condK]
theorem condK_false (A B : Prop) : condK (.l (.bool false)) A B = B := by simp [condK]
theorem condK_congr {t t' : AV} {A B : Prop} (h : t = t') : condK t A B = condK t' A B := by rw [h]
theorem condK_intro {b : Bool} {A B : Prop} (h : b = true → A) (h' : b = false → B) : condK (.l (.bool b)) A B := ⟨h, h'⟩

/-! ### frames -/
abbrev Fr := Nat → AV
def upd (fr : Fr) (d : Nat) (v : AV) : Fr := fun i => if d = i then v else fr i
theorem upd_app (fr : Fr) (d : Nat) (v : AV) (i : Nat) : upd fr d v i = if d = i then v else fr i := rfl
def updO (fr : Fr) (d : Option Nat) (v : AV) : Fr := match d with | some d => upd fr d v | none => fr
theorem updO_some (fr : Fr) (d : Nat) (v : AV) : updO fr (some d) v = upd fr d v := rfl
theorem updO_none (fr : Fr) (v : AV) : updO fr none v = fr := rfl
def argFr (args : List AV) : Fr := fun i => args.getD i .any

def ev (fr : Fr) : Operand → AV
  | .tmp t => fr t
  | .const v => absV v
  | .global _ => .any
  | .func f => .l (.clo f [])
theorem ev_tmp (fr : Fr) (t : Nat) : ev fr (.tmp t) = fr t := rfl
theorem ev_const (fr : Fr) (v : Value) : ev fr (.const v) = absV v := rfl
theorem ev_func (fr : Fr) (f : Nat) : ev fr (.func f) = .l (.clo f []) := rfl
theorem absV_int (k : IntKind) (n : Int) : absV (.int k n) = .l (.int k n) := rfl
theorem absV_bool (b : Bool) : absV (.bool b) = .l (.bool b) := rfl
theorem absV_string (s : ByteArray) : absV (.string s) = .l (.str s) := rfl
theorem absV_nilp : absV (.pointer none) = .l .nilp := rfl
theorem absV_nils : absV (.slice none 0 0) = .l .nils := rfl
theorem absV_nilm : absV (.map none) = .l .nilm := rfl
theorem absV_nilf : absV .nilFunc = .l .nilf := rfl
theorem absV_nili : absV .nilIface = .l .nili := rfl
theorem absV_agg (cs : List Value) : absV (.agg cs.toArray) = if cs.all (·.oneCell') then .agg (cs.map absL) else .any := by simp [absV]

/-! ### values -/
def avCells : AV → Option (List Lf)
  | .l x => some [x]
  | .agg cs => some cs
  | _ => none
theorem avCells_l (x : Lf) : avCells (.l x) = some [x] := rfl
theorem avCells_agg (cs : List Lf) : avCells (.agg cs) = some cs := rfl

/-- A variable of a type, out of the cells from its place on. -/
def packV (agg : Bool) (size : Nat) (cs : List Lf) : Option AV :=
  if agg then (if size ≤ cs.length then some (.agg (cs.take size)) else none) else (cs.head?).map .l
theorem packV_l (s : Nat) (x : Lf) (cs : List Lf) : packV false s (x :: cs) = some (.l x) := rfl
theorem packV_agg (s : Nat) (cs : List Lf) : packV true s cs = if s ≤ cs.length then some (.agg (cs.take s)) else none := rfl

/-- The cells of row r of a live block, from cell c on. -/
def rowOf (M : Mem) (id r c : Nat) : Option (List Lf) :=
  match M id with
  | some (.cells _ rows _) => (rows[r]?).map (·.drop c)
  | _ => none

def loadA (P : Program) (M : Mem) (t : TypeId) (a : AV) : Option AV :=
  match tiOf P t, a with
  | some i, .l (.rp cells) => packV i.agg i.size cells
  | some i, .l (.ptr id r c) => (rowOf M id r c).bind (packV i.agg i.size)
  | _, _ => none

/-- The cells vs are written over those from c on. -/
def overw (row : List Lf) (c : Nat) (vs : List Lf) : List Lf := row.take c ++ vs ++ row.drop (c + vs.length)

def storeA (P : Program) (M : Mem) (t : TypeId) (a v : AV) : Option Mem :=
  match a, avCells v, tiOf P t with
  | .l (.ptr id r c), some vs, some i =>
    match M id with
    | some (.cells T rows keep) =>
      match rows[r]? with
      | some row => if vs.length = i.size ∧ c + vs.length ≤ row.length ∧ keep ≤ r then some (M.set id (.cells T (rows.set r (overw row c vs)) keep)) else none
      | none => none
    | _ => none
  | _, _, _ => none

def cmpA (op : BinOp) (x y : Int) : Option Bool :=
  match op with
  | .eql => some (decide (x = y))
  | .neq => some (decide (x ≠ y))
  | .lss => some (decide (x < y))
  | .leq => some (decide (x ≤ y))
  | .gtr => some (decide (x > y))
  | .geq => some (decide (x ≥ y))
  | _ => none

def shiftA (op : BinOp) (k : IntKind) (x y : Int) : Option Lf :=
  match op with
  | .shl => if y < 0 then none else some (.int k (k.wrap (x * 2 ^ (min y.toNat k.bits))))
  | .shr => if y < 0 then none else some (.int k (x.fdiv (2 ^ (min y.toNat k.bits))))
  | _ => none
def bitsA (op : BinOp) (k : IntKind) (x y : Int) : Int :=
  match op with
  | .and => k.wrap ((BitVec.ofInt k.bits x &&& BitVec.ofInt k.bits y).toNat : Nat)
  | .or => k.wrap ((BitVec.ofInt k.bits x ||| BitVec.ofInt k.bits y).toNat : Nat)
  | .xor => k.wrap ((BitVec.ofInt k.bits x ^^^ BitVec.ofInt k.bits y).toNat : Nat)
  | .andNot => k.wrap ((BitVec.ofInt k.bits x &&& ~~~ BitVec.ofInt k.bits y).toNat : Nat)
  | _ => 0
def arithA (op : BinOp) (k : IntKind) (x y : Int) : Option Lf :=
  match op with
  | .add => some (.int k (k.wrap (x + y)))
  | .sub => some (.int k (k.wrap (x - y)))
  | .mul => some (.int k (k.wrap (x * y)))
  | .quo => if y = 0 then none else some (.int k (k.wrap (x.tdiv y)))
  | .rem => if y = 0 then none else some (.int k (x.tmod y))
  | .and => some (.int k (bitsA .and k x y))
  | .or => some (.int k (bitsA .or k x y))
  | .xor => some (.int k (bitsA .xor k x y))
  | .andNot => some (.int k (bitsA .andNot k x y))
  | .shl => shiftA .shl k x y
  | .shr => shiftA .shr k x y
  | _ => (cmpA op x y).map .bool

/-- Equality of plain cells. -/
def eqL : Lf → Lf → Option Bool
  | .int k a, .int k' b => if k = k' then some (decide (a = b)) else none
  | .bool a, .bool b => some (a == b)
  | .str a, .str b => some (decide (a = b))
  | _, _ => none

def eqCells : List Lf → List Lf → Option Bool
  | [], [] => some true
  | x :: xs, y :: ys => match eqL x y, eqCells xs ys with
    | some a, some b => some (a && b)
    | _, _ => none
  | _, _ => none

end Go.X
