/- Texts joined: Xa Xb Xc Xd Xe Xf Xg Xh Xi Xj Xk Xl. -/
import Derived.Laws.AppendOwn
import Derived.Laws.MakeOwn
import Derived.Below
import Derived.Tactics
import Derived.Tactics2
import Derived.WalkKit
import Derived.Laws.StructEq
import Derived.Laws.Slices
import Derived.WalkSpells
import Derived.Deep.AppendSrc
import Derived.Laws.Tables
import Derived.WideLaws
import Derived.Laws.IdiomStrings
import Derived.Orders
set_option linter.unusedVariables false
set_option linter.unusedSimpArgs false
set_option linter.unusedSectionVars false
set_option maxRecDepth 100000
namespace Go.X
open Go.RowKit

/-- One cell's abstract value. 'sl', 'rp': what is never written any more, by value; 'ms', 'ptr', 'mp': of a block of the abstract memory. -/
inductive Lf where
  | int (k : IntKind) (n : Int)
  | bool (b : Bool)
  | str (s : ByteArray)
  | nilp
  | ptr (id row col : Nat)
  | rp (cells : List Lf)
  | nils
  | sl (rows : List (List Lf))
  | ms (id off len : Nat)
  | nilm
  | mp (id : Nat)
  | nilf
  | clo (f : FuncId) (caps : List Lf)
  | nili
  | tok (v : Value)
  deriving Inhabited

inductive AV where
  | l (x : Lf)
  | agg (cs : List Lf)
  | tup (vs : List AV)
  | any
  deriving Inhabited

/-- A live block of the abstract memory. -/
inductive Blk where
  | cells (T : TypeId) (rows : List (List Lf)) (keep : Nat)
  | map (es : List (Lf × Lf))

abbrev Mem := Nat → Option Blk
def Mem.set (M : Mem) (id : Nat) (b : Blk) : Mem := fun i => if id = i then some b else M i
def Mem.del (M : Mem) (id : Nat) : Mem := fun i => if id = i then none else M i
def Mem.le (M M' : Mem) : Prop := ∀ i b, M i = some b → M' i = some b

theorem Mem.set_app (M : Mem) (id : Nat) (b : Blk) (i : Nat) : (M.set id b) i = if id = i then some b else M i := rfl
theorem Mem.del_app (M : Mem) (id : Nat) (i : Nat) : (M.del id) i = if id = i then none else M i := rfl
theorem Mem.le_refl (M : Mem) : M.le M := fun _ _ h => h
theorem Mem.le_trans {A B C : Mem} (h : A.le B) (h' : B.le C) : A.le C := fun _ _ x => h' _ _ (h _ _ x)
theorem Mem.le_set {A M : Mem} {id : Nat} {b : Blk} (h : A.le M) (hn : A id = none) : A.le (M.set id b) := fun i x hx => by
  simp only [Mem.set_app]
  split
  · rename_i e; subst e; rw [hn] at hx; cases hx
  · exact h _ _ hx
/-- What stands behind the abstract values: which block an id is (and the cells of one of its rows, and its rows); which cells are never written any more; the world in which all began. -/
structure Gh where
  blk : Nat → Option (Nat × Nat × Nat)
  fz : Nat → Nat → Prop
  w0 : World
  P : Program
  res : Nat → Prop

/-- How many cells a type has. -/
def szOf (P : Program) (T : TypeId) : Nat := match P.info? T with | some i => i.size | none => 0

inductive Conc (g : Gh) (w : World) : Lf → Value → Prop
  | int (k n) : Conc g w (.int k n) (.int k n)
  | bool (b) : Conc g w (.bool b) (.bool b)
  | str (s) : Conc g w (.str s) (.string s)
  | nilp : Conc g w .nilp (.pointer none)
  | ptr {id r c b sz cr : Nat} (h : g.blk id = some (b, sz, cr)) : Conc g w (.ptr id r c) (.pointer (some ⟨b, r * sz + c, none⟩))
  | rp {cells : List Lf} {b o : Nat} (cs : Nat → Value) (h : ∀ i, i < cells.length → g.fz b (o + i) ∧ w.cell? ⟨b, o + i, none⟩ = some (cs i))
      (hc : ∀ (i : Nat) (x : Lf), cells[i]? = some x → Conc g w x (cs i)) : Conc g w (.rp cells) (.pointer (some ⟨b, o, none⟩))
  | nils {a : Option Addr} : Conc g w .nils (.slice a 0 0)
  | sl0 {a : Option Addr} {cap : Nat} : Conc g w (.sl []) (.slice a 0 cap)
  | sl {rows : List (List Lf)} {b o sz cap : Nat} (cs : Nat → Value) (hsz : ∀ r ∈ rows, r.length = sz) (hcap : rows.length ≤ cap)
      (h : ∀ i, i < rows.length * sz → g.fz b (o + i) ∧ w.cell? ⟨b, o + i, none⟩ = some (cs i))
      (hc : ∀ (i j : Nat) (r : List Lf) (x : Lf), rows[i]? = some r → r[j]? = some x → Conc g w x (cs (i * sz + j))) :
      Conc g w (.sl rows) (.slice (some ⟨b, o, none⟩) rows.length cap)
  | ms {id off len b sz cr cap : Nat} (h : g.blk id = some (b, sz, cr)) (h1 : len ≤ cap) (h2 : off + cap ≤ cr) : Conc g w (.ms id off len) (.slice (some ⟨b, off * sz, none⟩) len cap)
  | nilm : Conc g w .nilm (.map none)
  | mp {id b sz cr : Nat} (h : g.blk id = some (b, sz, cr)) : Conc g w (.mp id) (.map (some b))
  | nilf : Conc g w .nilf .nilFunc
  | clo {f : FuncId} {caps : List Lf} (cs : List Value) (hl : caps.length = cs.length) (hc : ∀ (i : Nat) (x : Lf) (v : Value), caps[i]? = some x → cs[i]? = some v → Conc g w x v) : Conc g w (.clo f caps) (.func (.func f) #[] cs.toArray)
  | nili : Conc g w .nili .nilIface
  | tok (v) (h : v.oneCell' = true) : Conc g w (.tok v) v

theorem Conc.one {g : Gh} {w : World} {x : Lf} {v : Value} (h : Conc g w x v) : v.oneCell' = true := by
  cases h <;> first | rfl | assumption

/-- From one state of the ghost and the world to a later one. -/
structure Ev (g : Gh) (w : World) (g' : Gh) (w' : World) : Prop where
  w0 : g'.w0 = g.w0
  P : g'.P = g.P
  blk : ∀ id x, g.blk id = some x → g'.blk id = some x
  fz : ∀ b o, g.fz b o → g'.fz b o
  cell : ∀ b o, g.fz b o → w'.cell? ⟨b, o, none⟩ = w.cell? ⟨b, o, none⟩
  res : g'.res = g.res
  rsv : ∀ id, g.res id → g.blk id = none → g'.blk id = none

theorem Ev.refl (g : Gh) (w : World) : Ev g w g w := ⟨rfl, rfl, fun _ _ h => h, fun _ _ h => h, fun _ _ _ => rfl, rfl, fun _ _ h => h⟩
theorem Ev.trans {g g' g'' : Gh} {w w' w'' : World} (h : Ev g w g' w') (h' : Ev g' w' g'' w'') : Ev g w g'' w'' :=
  ⟨h'.w0.trans h.w0, h'.P.trans h.P, fun _ _ x => h'.blk _ _ (h.blk _ _ x), fun _ _ x => h'.fz _ _ (h.fz _ _ x), fun b o x => (h'.cell b o (h.fz b o x)).trans (h.cell b o x), h'.res.trans h.res, fun id hr hb => h'.rsv id (by rw [h.res]; exact hr) (h.rsv id hr hb)⟩

theorem Conc.ev {g g' : Gh} {w w' : World} (e : Ev g w g' w') {x : Lf} {v : Value} (h : Conc g w x v) : Conc g' w' x v := by
  induction h with
  | int k n => exact .int k n
  | bool b => exact .bool b
  | str s => exact .str s
  | nilp => exact .nilp
  | ptr h => exact .ptr (e.blk _ _ h)
  | rp cs h _ ih => exact .rp cs (fun i hi => ⟨e.fz _ _ (h i hi).1, (e.cell _ _ (h i hi).1).trans (h i hi).2⟩) ih
  | nils => exact .nils
  | sl0 => exact .sl0
  | sl cs hsz hcap h _ ih => exact .sl cs hsz hcap (fun i hi => ⟨e.fz _ _ (h i hi).1, (e.cell _ _ (h i hi).1).trans (h i hi).2⟩) ih
  | ms h h1 h2 => exact .ms (e.blk _ _ h) h1 h2
  | nilm => exact .nilm
  | mp h => exact .mp (e.blk _ _ h)
  | nilf => exact .nilf
  | clo cs hl _ ih => exact .clo cs hl ih
  | nili => exact .nili
  | tok v h => exact .tok v h

/-- A list of cells. -/
def ConcL (g : Gh) (w : World) (xs : List Lf) (vs : List Value) : Prop := xs.length = vs.length ∧ ∀ (i : Nat) (x : Lf) (v : Value), xs[i]? = some x → vs[i]? = some v → Conc g w x v

theorem ConcL.ev {g g' : Gh} {w w' : World} (e : Ev g w g' w') {xs : List Lf} {vs : List Value} (h : ConcL g w xs vs) : ConcL g' w' xs vs :=
  ⟨h.1, fun i x v a b => (h.2 i x v a b).ev e⟩
theorem ConcL.nil (g : Gh) (w : World) : ConcL g w [] [] := ⟨rfl, fun i x v h => by simp at h⟩
theorem ConcL.cons {g : Gh} {w : World} {x : Lf} {v : Value} {xs : List Lf} {vs : List Value} (h : Conc g w x v) (hs : ConcL g w xs vs) : ConcL g w (x :: xs) (v :: vs) :=
  ⟨by simp [hs.1], fun i y u a b => by
    cases i with
    | zero => simp only [List.getElem?_cons_zero, Option.some.injEq] at a b; subst a; subst b; exact h
    | succ i => exact hs.2 i y u (by simpa using a) (by simpa using b)⟩
theorem ConcL.one {g : Gh} {w : World} {xs : List Lf} {vs : List Value} (h : ConcL g w xs vs) : ∀ v ∈ vs, v.oneCell' = true := by
  intro v hv
  obtain ⟨i, hi, rfl⟩ := List.getElem_of_mem hv
  have hx : i < xs.length := by rw [h.1]; exact hi
  exact (h.2 i xs[i] vs[i] (List.getElem?_eq_getElem hx) (List.getElem?_eq_getElem hi)).one
theorem ConcL.get {g : Gh} {w : World} {xs : List Lf} {vs : List Value} (h : ConcL g w xs vs) {i : Nat} {x : Lf} (hx : xs[i]? = some x) : ∃ v, vs[i]? = some v ∧ Conc g w x v := by
  have hi : i < vs.length := by
    rw [← h.1]
    exact (List.getElem?_eq_some_iff.1 hx).1
  exact ⟨vs[i], List.getElem?_eq_getElem hi, h.2 i x _ hx (List.getElem?_eq_getElem hi)⟩
theorem ConcL.append {g : Gh} {w : World} {xs ys : List Lf} {us vs : List Value} (h : ConcL g w xs us) (h' : ConcL g w ys vs) : ConcL g w (xs ++ ys) (us ++ vs) := by
  refine ⟨by simp [h.1, h'.1], fun i x v a b => ?_⟩
  by_cases hi : i < xs.length
  · have hi' : i < us.length := by rw [← h.1]; exact hi
    rw [List.getElem?_append_left hi] at a
    rw [List.getElem?_append_left hi'] at b
    exact h.2 i x v a b
  · have hi' : ¬ i < us.length := by rw [← h.1]; exact hi
    rw [List.getElem?_append_right (by omega)] at a
    rw [List.getElem?_append_right (by omega), ← h.1] at b
    exact h'.2 _ x v a b
theorem ConcL.take {g : Gh} {w : World} {xs : List Lf} {vs : List Value} (h : ConcL g w xs vs) (n : Nat) : ConcL g w (xs.take n) (vs.take n) :=
  ⟨by simp [h.1], fun i x v a b => by
    rw [List.getElem?_take] at a b
    split at a
    · rename_i hn
      rw [if_pos hn] at b
      exact h.2 i x v a b
    · cases a⟩
theorem ConcL.drop {g : Gh} {w : World} {xs : List Lf} {vs : List Value} (h : ConcL g w xs vs) (n : Nat) : ConcL g w (xs.drop n) (vs.drop n) :=
  ⟨by simp [h.1], fun i x v a b => by
    rw [List.getElem?_drop] at a b
    exact h.2 _ x v a b⟩

inductive ConcA (g : Gh) (w : World) : AV → Value → Prop
  | l {x : Lf} {v : Value} (h : Conc g w x v) : ConcA g w (.l x) v
  | agg {cs : List Lf} (vs : List Value) (h : ConcL g w cs vs) : ConcA g w (.agg cs) (.agg vs.toArray)
  | tup {xs : List AV} (vs : List Value) (hl : xs.length = vs.length) (h : ∀ (i : Nat) (x : AV) (v : Value), xs[i]? = some x → vs[i]? = some v → ConcA g w x v) : ConcA g w (.tup xs) (.tuple vs.toArray)
  | any (v) : ConcA g w .any v

theorem ConcA.ev {g g' : Gh} {w w' : World} (e : Ev g w g' w') {x : AV} {v : Value} (h : ConcA g w x v) : ConcA g' w' x v := by
  induction h with
  | l h => exact .l (h.ev e)
  | agg vs h => exact .agg vs (h.ev e)
  | tup vs hl _ ih => exact .tup vs hl ih
  | any v => exact .any v

/-- A live block, as it lies. -/
def RowsAt (g : Gh) (w : World) (rows : List (List Lf)) (sz : Nat) (cur : Array Value) : Prop :=
  (∀ r ∈ rows, r.length = sz) ∧ ∀ (i j : Nat) (r : List Lf) (x : Lf), rows[i]? = some r → r[j]? = some x → ∃ v, cur[i * sz + j]? = some v ∧ Conc g w x v

def BlkAt (g : Gh) (w : World) (id : Nat) : Blk → Prop
  | .cells T rows keep => ∃ b sz cr cur, g.blk id = some (b, sz, cr) ∧ g.w0.heap.size ≤ b ∧ w.heap[b]? = some (.cells cur T (0, 0)) ∧ cur.size = cr * sz ∧ rows.length ≤ cr ∧ RowsAt g w rows sz cur ∧ (∀ o, g.fz b o → o < keep * sz) ∧ cr ≤ maxLen ∧ sz = szOf g.P T
  | .map es => ∃ b sz cr ents clock, g.blk id = some (b, sz, cr) ∧ g.w0.heap.size ≤ b ∧ w.heap[b]? = some (.map ents clock) ∧ ents.size = es.length ∧
      ∀ (i : Nat) (p : Lf × Lf) (e : MapEntry), es[i]? = some p → ents[i]? = some e → Conc g w p.1 e.key ∧ Conc g w p.2 e.val

/-- What the listed package-level variables hold when all begins: the powers of ten; the errors of strconv (where the program has them). -/
def pow10L : List Int := (List.range 20).map fun i => (10 : Int) ^ i
def TabOK (P : Program) (w : World) : Prop :=
  (0 < P.globals.size → ∃ t fr, w.heap[0]? = some (.cells (pow10L.map fun z => Value.int .u64 z).toArray t fr)) ∧
  (3 < P.globals.size → (∃ tp q t fr, w.heap[1]? = some (.cells #[.iface tp q] t fr)) ∧ ∃ tp q t fr, w.heap[2]? = some (.cells #[.iface tp q] t fr))
theorem tab_none {P : Program} (h : P.globals.size = 0) (w : World) : TabOK P w := ⟨fun h' => absurd h' (by rw [h]; decide), fun h' => absurd h' (by rw [h]; decide)⟩

structure Rel (g : Gh) (M : Mem) (w : World) : Prop where
  blk : ∀ id b, M id = some b → BlkAt g w id b
  inj : ∀ i j bi bj, M i = some bi → M j = some bj → ∀ x y, g.blk i = some x → g.blk j = some y → x.1 = y.1 → i = j
  lt : ∀ id x, g.blk id = some x → x.1 < w.heap.size
  fz : ∀ b o, g.fz b o → ∃ v, w.cell? ⟨b, o, none⟩ = some v
  fin : ∃ n, ∀ id, n ≤ id → g.blk id = none ∧ M id = none ∧ ¬ g.res id
  below : Below g.w0.heap.size g.w0 w
  tab : TabOK g.P g.w0

theorem Rel.le {g : Gh} {M M' : Mem} {w : World} (h : Rel g M w) (hle : M'.le M) : Rel g M' w where
  blk id b hb := h.blk id b (hle _ _ hb)
  inj i j bi bj hi hj := h.inj i j bi bj (hle _ _ hi) (hle _ _ hj)
  lt := h.lt
  fz := h.fz
  fin := by
    obtain ⟨n, hn⟩ := h.fin
    refine ⟨n, fun id hid => ⟨(hn id hid).1, ?_, (hn id hid).2.2⟩⟩
    cases hM : M' id with
    | none => rfl
    | some b => have := hle _ _ hM; rw [(hn id hid).2.1] at this; cases this
  below := h.below
  tab := h.tab

end Go.X
set_option linter.unusedVariables false
set_option linter.unusedSimpArgs false
set_option linter.unusedSectionVars false
set_option maxRecDepth 100000
namespace Go.X
open Go.RowKit

/-! ### types -/
inductive TD where
  | bool | int (k : IntKind) | string | pointer (e : Nat) | slice (e : Nat) | map (k e : Nat) | struct (fs : List (Nat × Nat)) | array (n e : Nat) | func | iface | other
  deriving DecidableEq

structure TI where
  size : Nat
  agg : Bool
  bytes : Nat
  zero : AV
  d : TD

def absL : Value → Lf
  | .int k n => .int k n
  | .bool b => .bool b
  | .string s => .str s
  | .pointer none => .nilp
  | .slice none 0 0 => .nils
  | .map none => .nilm
  | .nilFunc => .nilf
  | .nilIface => .nili
  | .func (.func f) ⟨[]⟩ ⟨[]⟩ => .clo f []
  | v => .tok v

def absV : Value → AV
  | .agg cs => if cs.toList.all (·.oneCell') then .agg (cs.toList.map absL) else .any
  | .tuple _ => .any
  | v => .l (absL v)

def tdOf : TypeDesc → TD
  | .bool => .bool
  | .int k => .int k
  | .string => .string
  | .pointer e => .pointer e
  | .slice e => .slice e
  | .map k e => .map k e
  | .struct fs => .struct (fs.toList.map fun f => (f.offset, f.type))
  | .array n e => .array n e
  | .func _ _ _ => .func
  | .interface _ => .iface
  | _ => .other

def tdAgg : TypeDesc → Bool
  | .struct _ | .array _ _ => true
  | _ => false

def tiOf (P : Program) (t : TypeId) : Option TI :=
  match P.info? t with
  | some i => match P.underlying t, i.zero with
    | some d, some z => some { size := i.size, agg := tdAgg d, bytes := i.bytes, zero := absV z, d := tdOf d }
    | _, _ => none
  | none => none

/-! ### combinators: what stands in a later place is not looked into before the first is known -/
def optK {α : Type} (o : Option α) (K : α → Prop) : Prop := match o with | some a => K a | none => False
def condK (t : AV) (A B : Prop) : Prop := match t with | .l (.bool b) => (b = true → A) ∧ (b = false → B) | _ => False
theorem condK_true (A B : Prop) : condK (.l (.bool true)) A B = A := by simp [condK]
theorem condK_false (A B : Prop) : condK (.l (.bool false)) A B = B := by simp [condK]
/-! ### frames -/
abbrev Fr := Nat → AV
def upd (fr : Fr) (d : Nat) (v : AV) : Fr := fun i => if d = i then v else fr i
theorem upd_app (fr : Fr) (d : Nat) (v : AV) (i : Nat) : upd fr d v i = if d = i then v else fr i := rfl
def updO (fr : Fr) (d : Option Nat) (v : AV) : Fr := match d with | some d => upd fr d v | none => fr
theorem updO_some (fr : Fr) (d : Nat) (v : AV) : updO fr (some d) v = upd fr d v := rfl
theorem updO_none (fr : Fr) (v : AV) : updO fr none v = fr := rfl
def argFr (args : List AV) : Fr := fun i => args.getD i .any

def ev (fr : Fr) : Operand → AV
  | .tmp t => fr t
  | .const v => absV v
  | .global _ => .any
  | .func f => .l (.clo f [])
theorem ev_tmp (fr : Fr) (t : Nat) : ev fr (.tmp t) = fr t := rfl
theorem ev_const (fr : Fr) (v : Value) : ev fr (.const v) = absV v := rfl
theorem ev_func (fr : Fr) (f : Nat) : ev fr (.func f) = .l (.clo f []) := rfl
theorem absV_int (k : IntKind) (n : Int) : absV (.int k n) = .l (.int k n) := rfl
theorem absV_bool (b : Bool) : absV (.bool b) = .l (.bool b) := rfl
theorem absV_string (s : ByteArray) : absV (.string s) = .l (.str s) := rfl
theorem absV_nilp : absV (.pointer none) = .l .nilp := rfl
theorem absV_nils : absV (.slice none 0 0) = .l .nils := rfl
theorem absV_nilm : absV (.map none) = .l .nilm := rfl
theorem absV_nilf : absV .nilFunc = .l .nilf := rfl
theorem absV_nili : absV .nilIface = .l .nili := rfl
theorem absV_agg (cs : List Value) : absV (.agg cs.toArray) = if cs.all (·.oneCell') then .agg (cs.map absL) else .any := by simp [absV]

/-! ### values -/
def avCells : AV → Option (List Lf)
  | .l x => some [x]
  | .agg cs => some cs
  | _ => none
theorem avCells_l (x : Lf) : avCells (.l x) = some [x] := rfl
theorem avCells_agg (cs : List Lf) : avCells (.agg cs) = some cs := rfl

/-- A variable of a type, out of the cells from its place on. -/
def packV (agg : Bool) (size : Nat) (cs : List Lf) : Option AV :=
  if agg then (if size ≤ cs.length then some (.agg (cs.take size)) else none) else (cs.head?).map .l
theorem packV_l (s : Nat) (x : Lf) (cs : List Lf) : packV false s (x :: cs) = some (.l x) := rfl
theorem packV_agg (s : Nat) (cs : List Lf) : packV true s cs = if s ≤ cs.length then some (.agg (cs.take s)) else none := rfl

/-- The cells of row r of a live block, from cell c on. -/
def rowOf (M : Mem) (id r c : Nat) : Option (List Lf) :=
  match M id with
  | some (.cells _ rows _) => (rows[r]?).map (·.drop c)
  | _ => none

def loadA (P : Program) (M : Mem) (t : TypeId) (a : AV) : Option AV :=
  match tiOf P t, a with
  | some i, .l (.rp cells) => packV i.agg i.size cells
  | some i, .l (.ptr id r c) => (rowOf M id r c).bind (packV i.agg i.size)
  | _, _ => none

/-- The cells vs are written over those from c on. -/
def overw (row : List Lf) (c : Nat) (vs : List Lf) : List Lf := row.take c ++ vs ++ row.drop (c + vs.length)

def storeA (P : Program) (M : Mem) (t : TypeId) (a v : AV) : Option Mem :=
  match a, avCells v, tiOf P t with
  | .l (.ptr id r c), some vs, some i =>
    match M id with
    | some (.cells T rows keep) =>
      match rows[r]? with
      | some row => if vs.length = i.size ∧ c + vs.length ≤ row.length ∧ keep ≤ r then some (M.set id (.cells T (rows.set r (overw row c vs)) keep)) else none
      | none => none
    | _ => none
  | _, _, _ => none

def cmpA (op : BinOp) (x y : Int) : Option Bool :=
  match op with
  | .eql => some (decide (x = y))
  | .neq => some (decide (x ≠ y))
  | .lss => some (decide (x < y))
  | .leq => some (decide (x ≤ y))
  | .gtr => some (decide (x > y))
  | .geq => some (decide (x ≥ y))
  | _ => none

def shiftA (op : BinOp) (k : IntKind) (x y : Int) : Option Lf :=
  match op with
  | .shl => if y < 0 then none else some (.int k (k.wrap (x * 2 ^ (min y.toNat k.bits))))
  | .shr => if y < 0 then none else some (.int k (x.fdiv (2 ^ (min y.toNat k.bits))))
  | _ => none
def bitsA (op : BinOp) (k : IntKind) (x y : Int) : Int :=
  match op with
  | .and => k.wrap ((BitVec.ofInt k.bits x &&& BitVec.ofInt k.bits y).toNat : Nat)
  | .or => k.wrap ((BitVec.ofInt k.bits x ||| BitVec.ofInt k.bits y).toNat : Nat)
  | .xor => k.wrap ((BitVec.ofInt k.bits x ^^^ BitVec.ofInt k.bits y).toNat : Nat)
  | .andNot => k.wrap ((BitVec.ofInt k.bits x &&& ~~~ BitVec.ofInt k.bits y).toNat : Nat)
  | _ => 0
def arithA (op : BinOp) (k : IntKind) (x y : Int) : Option Lf :=
  match op with
  | .add => some (.int k (k.wrap (x + y)))
  | .sub => some (.int k (k.wrap (x - y)))
  | .mul => some (.int k (k.wrap (x * y)))
  | .quo => if y = 0 then none else some (.int k (k.wrap (x.tdiv y)))
  | .rem => if y = 0 then none else some (.int k (x.tmod y))
  | .and => some (.int k (bitsA .and k x y))
  | .or => some (.int k (bitsA .or k x y))
  | .xor => some (.int k (bitsA .xor k x y))
  | .andNot => some (.int k (bitsA .andNot k x y))
  | .shl => shiftA .shl k x y
  | .shr => shiftA .shr k x y
  | _ => (cmpA op x y).map .bool

/-- Equality of plain cells. -/
def eqL : Lf → Lf → Option Bool
  | .int k a, .int k' b => if k = k' then some (decide (a = b)) else none
  | .bool a, .bool b => some (a == b)
  | .str a, .str b => some (decide (a = b))
  | _, _ => none

def eqCells : List Lf → List Lf → Option Bool
  | [], [] => some true
  | x :: xs, y :: ys => match eqL x y, eqCells xs ys with
    | some a, some b => some (a && b)
    | _, _ => none
  | _, _ => none

end Go.X
set_option linter.unusedVariables false
set_option linter.unusedSimpArgs false
set_option linter.unusedSectionVars false
set_option maxRecDepth 100000
namespace Go.X
open Go.RowKit

theorem addr_add (b o n : Nat) : (⟨b, o, none⟩ : Addr).add n = ⟨b, o + n, none⟩ := by unfold Addr.add; split <;> simp_all

def CellsAt (g : Gh) (w : World) (b o : Nat) (xs : List Lf) : Prop :=
  ∃ vs : List Value, ConcL g w xs vs ∧ ∀ (j : Nat) (v : Value), vs[j]? = some v → w.cell? ⟨b, o + j, none⟩ = some v

theorem CellsAt.take {g : Gh} {w : World} {b o : Nat} {xs : List Lf} (h : CellsAt g w b o xs) (n : Nat) : CellsAt g w b o (xs.take n) := by
  obtain ⟨vs, h1, h2⟩ := h
  refine ⟨vs.take n, h1.take n, fun j v hj => h2 j v ?_⟩
  rw [List.getElem?_take] at hj
  split at hj
  · exact hj
  · cases hj
theorem CellsAt.drop {g : Gh} {w : World} {b o : Nat} {xs : List Lf} (h : CellsAt g w b o xs) (n : Nat) : CellsAt g w b (o + n) (xs.drop n) := by
  obtain ⟨vs, h1, h2⟩ := h
  refine ⟨vs.drop n, h1.drop n, fun j v hj => ?_⟩
  rw [List.getElem?_drop] at hj
  rw [Nat.add_assoc]
  exact h2 _ _ hj

theorem conc_rp {g : Gh} {w : World} {xs : List Lf} {v : Value} (h : Conc g w (.rp xs) v) : ∃ b o, v = .pointer (some ⟨b, o, none⟩) ∧ CellsAt g w b o xs := by
  cases h with
  | rp cs h hc =>
    rename_i b o
    refine ⟨b, o, rfl, (List.range xs.length).map cs, ⟨by simp, fun i x v hx hv => ?_⟩, fun j v hj => ?_⟩
    · have hi := (List.getElem?_eq_some_iff.1 hx).1
      rw [List.getElem?_map, List.getElem?_range hi] at hv
      simp only [Option.map_some, Option.some.injEq] at hv
      subst hv
      exact hc i x hx
    · have hi : j < xs.length := by
        have := (List.getElem?_eq_some_iff.1 hj).1
        simpa using this
      rw [List.getElem?_map, List.getElem?_range hi] at hj
      simp only [Option.map_some, Option.some.injEq] at hj
      subst hj
      exact (h j hi).2

theorem conc_sl {g : Gh} {w : World} {rows : List (List Lf)} {v : Value} (h : Conc g w (.sl rows) v) : ∃ a cap, v = .slice a rows.length cap ∧ rows.length ≤ cap := by
  cases h with
  | sl0 => exact ⟨_, _, rfl, Nat.zero_le _⟩
  | sl cs hsz hcap h hc => exact ⟨_, _, rfl, hcap⟩

theorem conc_sl_row {g : Gh} {w : World} {rows : List (List Lf)} {v : Value} (h : Conc g w (.sl rows) v) {i : Nat} {r : List Lf} (hr : rows[i]? = some r) :
    ∃ b o cap, v = .slice (some ⟨b, o, none⟩) rows.length cap ∧ Conc g w (.rp r) (.pointer (some ⟨b, o + i * r.length, none⟩)) ∧ ∀ r' ∈ rows, r'.length = r.length := by
  cases h with
  | sl0 => simp at hr
  | sl cs hsz hcap h hc =>
    rename_i b o sz cap
    have hi := (List.getElem?_eq_some_iff.1 hr).1
    have hrl : r.length = sz := hsz r (List.mem_of_getElem? hr)
    refine ⟨b, o, cap, rfl, ?_, fun r' h' => by rw [hrl]; exact hsz r' h'⟩
    refine .rp (fun k => cs (i * sz + k)) (fun k hk => ?_) (fun k x hx => hc i k r x hr hx)
    have hlt : i * sz + k < rows.length * sz := by
      have h1 : (i + 1) * sz ≤ rows.length * sz := Nat.mul_le_mul_right _ hi
      rw [Nat.add_mul, Nat.one_mul] at h1
      rw [hrl] at hk
      omega
    have := h (i * sz + k) hlt
    rw [hrl, Nat.add_assoc]
    exact this

/-! ### the heap -/
theorem cells_lt {g : Gh} {M : Mem} {w : World} (h : Rel g M w) {b o : Nat} (hf : g.fz b o) : b < w.heap.size := by
  obtain ⟨v, hv⟩ := h.fz b o hf
  exact World.block_lt_of_cell? w ⟨b, o, none⟩ hv

theorem BlkAt.lt {g : Gh} {w : World} {id : Nat} {blk : Blk} (h : BlkAt g w id blk) : ∃ x, g.blk id = some x ∧ x.1 < w.heap.size ∧ g.w0.heap.size ≤ x.1 := by
  cases blk with
  | cells T rows keep =>
    obtain ⟨b, sz, cr, cur, h1, h2, h3, _⟩ := h
    exact ⟨_, h1, (Array.getElem?_eq_some_iff.1 h3).1, h2⟩
  | map es =>
    obtain ⟨b, sz, cr, ents, clock, h1, h2, h3, _⟩ := h
    exact ⟨_, h1, (Array.getElem?_eq_some_iff.1 h3).1, h2⟩

theorem RowsAt.ev {g g' : Gh} {w w' : World} (e : Ev g w g' w') {rows : List (List Lf)} {sz : Nat} {cur : Array Value} (h : RowsAt g w rows sz cur) : RowsAt g' w' rows sz cur :=
  ⟨h.1, fun i j r x a b => let ⟨v, h1, h2⟩ := h.2 i j r x a b; ⟨v, h1, h2.ev e⟩⟩

/-- A live block that is not touched lives on. -/
theorem BlkAt.ev {g g' : Gh} {w w' : World} (e : Ev g w g' w') {id : Nat} {blk : Blk} (h : BlkAt g w id blk) (hh : ∀ x, g.blk id = some x → w'.heap[x.1]? = w.heap[x.1]?)
    (hf : ∀ x, g.blk id = some x → ∀ o, g'.fz x.1 o → g.fz x.1 o) : BlkAt g' w' id blk := by
  cases blk with
  | cells T rows keep =>
    obtain ⟨b, sz, cr, cur, h1, h2, h3, h4, h5, h6, h7, h8, h9⟩ := h
    exact ⟨b, sz, cr, cur, e.blk _ _ h1, by rw [e.w0]; exact h2, by rw [hh _ h1]; exact h3, h4, h5, h6.ev e, fun o ho => h7 o (hf _ h1 o ho), h8, by rw [e.P]; exact h9⟩
  | map es =>
    obtain ⟨b, sz, cr, ents, clock, h1, h2, h3, h4, h5⟩ := h
    exact ⟨b, sz, cr, ents, clock, e.blk _ _ h1, by rw [e.w0]; exact h2, by rw [hh _ h1]; exact h3, h4, fun i p en a b => ⟨(h5 i p en a b).1.ev e, (h5 i p en a b).2.ev e⟩⟩

/-- The world has only grown (or drawn); the ghost is the same. -/
theorem rel_same {g : Gh} {M : Mem} {w w' : World} (h : Rel g M w) (hb : Below w.heap.size w w') : Ev g w g w' ∧ Rel g M w' := by
  have e : Ev g w g w' := ⟨rfl, rfl, fun _ _ h => h, fun _ _ h => h, fun b o hf => World.cell?_of_block (hb.block b (cells_lt h hf)), rfl, fun _ _ h => h⟩
  refine ⟨e, ?_⟩
  exact {
    blk := fun id b hM => (h.blk id b hM).ev e (fun x hx => hb.block _ (h.lt _ _ hx)) (fun _ _ _ ho => ho)
    inj := h.inj
    lt := fun id x hx => Nat.lt_of_lt_of_le (h.lt id x hx) hb.size
    fz := fun b o hf => by
      obtain ⟨v, hv⟩ := h.fz b o hf
      exact ⟨v, (e.cell b o hf).trans hv⟩
    fin := h.fin
    below := h.below.trans (hb.mono h.below.size)
    tab := h.tab }

theorem rel_drew {g : Gh} {M : Mem} {w : World} (h : Rel g M w) : Ev g w g w.drew ∧ Rel g M w.drew := rel_same h ((Below.refl _ _).drew)

/-- A new id for a new block. -/
def Gh.put (g : Gh) (id : Nat) (x : Nat × Nat × Nat) : Gh := { g with blk := fun i => if id = i then some x else g.blk i }
theorem Gh.put_same (g : Gh) (id : Nat) (x : Nat × Nat × Nat) : (g.put id x).blk id = some x := by simp [Gh.put]
theorem Gh.put_other (g : Gh) (id i : Nat) (x : Nat × Nat × Nat) (h : id ≠ i) : (g.put id x).blk i = g.blk i := by simp [Gh.put, h]

theorem fin_set {g : Gh} {M : Mem} {w : World} (h : Rel g M w) (id : Nat) (x : Nat × Nat × Nat) (b : Blk) : ∃ n, ∀ i, n ≤ i → (g.put id x).blk i = none ∧ (M.set id b) i = none ∧ ¬ (g.put id x).res i := by
  obtain ⟨n, hn⟩ := h.fin
  refine ⟨max n (id + 1), fun i hi => ?_⟩
  have h1 : id ≠ i := by omega
  rw [Gh.put_other _ _ _ _ h1, Mem.set_app, if_neg h1]
  exact hn i (by omega)

/-- w' is w and one block more (and perhaps some draws). -/
structure Grow1 (w w' : World) (o : Obj) : Prop where
  os : w'.os = w.os
  tape : w'.tape = w.tape
  output : w'.output = w.output
  size : w'.heap.size = w.heap.size + 1
  old : ∀ k, k < w.heap.size → w'.heap[k]? = w.heap[k]?
  new : w'.heap[w.heap.size]? = some o

theorem Grow1.alloc (w : World) (o : Obj) : Grow1 w (w.alloc o) o :=
  ⟨rfl, rfl, rfl, by simp, fun k hk => Below.heap_alloc w o k hk, Go.heap_alloc_new w o⟩
theorem Grow1.drew_alloc (w : World) (o : Obj) : Grow1 w (w.drew.alloc o) o :=
  ⟨rfl, rfl, rfl, by simp, fun k hk => Below.heap_alloc w.drew o k hk, heap_alloc_new w.drew o⟩
theorem Grow1.below {w w' : World} {o : Obj} (h : Grow1 w w' o) : Below w.heap.size w w' :=
  ⟨h.os, h.tape, h.output, by rw [h.size]; omega, h.old⟩

theorem rel_new {g : Gh} {M : Mem} {w w' : World} (h : Rel g M w) {id : Nat} (hg : g.blk id = none) (hM : M id = none) (hr0 : ¬ g.res id) {o : Obj} (hw : Grow1 w w' o) (blk : Blk) (sz cr : Nat)
    (hblk : ∀ g' w', Ev g w g' w' → g'.blk id = some (w.heap.size, sz, cr) → g'.w0.heap.size ≤ w.heap.size → w'.heap[w.heap.size]? = some o → (∀ o', ¬ g'.fz w.heap.size o') → BlkAt g' w' id blk) :
    Ev g w (g.put id (w.heap.size, sz, cr)) w' ∧ Rel (g.put id (w.heap.size, sz, cr)) (M.set id blk) w' := by
  have e : Ev g w (g.put id (w.heap.size, sz, cr)) w' :=
    ⟨rfl, rfl, fun i x hx => by
      by_cases hi : id = i
      · subst hi; rw [hg] at hx; cases hx
      · rw [Gh.put_other _ _ _ _ hi]; exact hx, fun _ _ hf => hf, fun b o' hf => World.cell?_of_block (hw.old b (cells_lt h hf)), rfl, fun i hr hb => by
      have hi : id ≠ i := fun e => hr0 (e ▸ hr)
      rw [Gh.put_other _ _ _ _ hi]; exact hb⟩
  refine ⟨e, ?_⟩
  have hnf : ∀ o', ¬ g.fz w.heap.size o' := fun o' hf => by have := cells_lt h hf; omega
  exact {
    blk := fun i b hb => by
      rw [Mem.set_app] at hb
      by_cases hi : id = i
      · subst hi
        rw [if_pos rfl, Option.some.injEq] at hb
        subst hb
        exact hblk _ _ e (Gh.put_same _ _ _) (h.below.size) hw.new hnf
      · rw [if_neg hi] at hb
        exact (h.blk i b hb).ev e (fun x hx => hw.old _ (h.lt _ _ hx)) (fun _ _ _ ho => ho)
    inj := fun i j bi bj hi hj x y hx hy hxy => by
      rw [Mem.set_app] at hi hj
      by_cases h1 : id = i
      · by_cases h2 : id = j
        · rw [← h1, ← h2]
        · subst h1
          rw [if_neg h2] at hj
          rw [Gh.put_same, Option.some.injEq] at hx
          rw [Gh.put_other _ _ _ _ h2] at hy
          have := h.lt _ _ hy
          rw [← hxy, ← hx] at this
          omega
      · rw [if_neg h1] at hi
        rw [Gh.put_other _ _ _ _ h1] at hx
        by_cases h2 : id = j
        · subst h2
          rw [Gh.put_same, Option.some.injEq] at hy
          have := h.lt _ _ hx
          rw [hxy, ← hy] at this
          omega
        · rw [if_neg h2] at hj
          rw [Gh.put_other _ _ _ _ h2] at hy
          exact h.inj i j bi bj hi hj x y hx hy hxy
    lt := fun i x hx => by
      by_cases h1 : id = i
      · subst h1
        rw [Gh.put_same, Option.some.injEq] at hx
        subst hx
        rw [hw.size]
        exact Nat.lt_succ_self _
      · rw [Gh.put_other _ _ _ _ h1] at hx
        have := h.lt _ _ hx
        rw [hw.size]; omega
    fz := fun b o' hf => by
      obtain ⟨v, hv⟩ := h.fz b o' hf
      exact ⟨v, (e.cell b o' hf).trans hv⟩
    fin := fin_set h _ _ _
    below := h.below.trans (hw.below.mono h.below.size)
    tab := h.tab }

theorem rel_new_cells {g : Gh} {M : Mem} {w w' : World} (h : Rel g M w) {id : Nat} (hg : g.blk id = none) (hM : M id = none) (hr0 : ¬ g.res id) {cur : Array Value} {T : TypeId} (hw : Grow1 w w' (.cells cur T (0, 0)))
    (rows : List (List Lf)) (sz cr : Nat) (hcur : cur.size = cr * sz) (hcr : rows.length ≤ cr) (hm : cr ≤ maxLen) (hr : RowsAt g w rows sz cur) (hsz : sz = szOf g.P T) :
    Ev g w (g.put id (w.heap.size, sz, cr)) w' ∧ Rel (g.put id (w.heap.size, sz, cr)) (M.set id (.cells T rows 0)) w' :=
  rel_new h hg hM hr0 hw (.cells T rows 0) sz cr fun g' w' e h1 h2 h3 h4 => ⟨w.heap.size, sz, cr, cur, h1, h2, h3, hcur, hcr, hr.ev e, fun o ho => absurd ho (h4 o), hm, by rw [e.P]; exact hsz⟩

theorem rel_new_map {g : Gh} {M : Mem} {w w' : World} (h : Rel g M w) {id : Nat} (hg : g.blk id = none) (hM : M id = none) (hr0 : ¬ g.res id) (hw : Grow1 w w' (.map #[] 0)) :
    Ev g w (g.put id (w.heap.size, 0, 0)) w' ∧ Rel (g.put id (w.heap.size, 0, 0)) (M.set id (.map [])) w' :=
  rel_new h hg hM hr0 hw (.map []) 0 0 fun g' w' e h1 h2 h3 h4 => ⟨w.heap.size, 0, 0, #[], 0, h1, h2, h3, rfl, fun i p en a => by simp at a⟩

/-- A live block is written (its object is another one). -/
structure Wrote (w w' : World) (b : Nat) (o : Obj) : Prop where
  os : w'.os = w.os
  tape : w'.tape = w.tape
  output : w'.output = w.output
  size : w'.heap.size = w.heap.size
  old : ∀ k, k ≠ b → w'.heap[k]? = w.heap[k]?
  new : w'.heap[b]? = some o

theorem Wrote.setRow {w : World} {b : Nat} {cur cur' : Array Value} {T : TypeId} {fr : Nat × Nat} (hb : w.heap[b]? = some (.cells cur T fr)) : Wrote w (w.setRow b cur') b (.cells cur' T fr) :=
  ⟨rfl, rfl, rfl, by simp, fun k hk => setRow_other w b k cur' hk, setRow_heap w b cur cur' T fr hb⟩
theorem Wrote.setObj {w : World} {b : Nat} (hb : b < w.heap.size) (o : Obj) : Wrote w { w with heap := w.heap.setIfInBounds b o } b o :=
  ⟨rfl, rfl, rfl, by simp, fun k hk => by simp [Array.getElem?_setIfInBounds, Ne.symm hk], by simp [Array.getElem?_setIfInBounds, hb]⟩

theorem rel_wrote {g : Gh} {M : Mem} {w w' : World} (h : Rel g M w) {id : Nat} {old blk : Blk} (hM : M id = some old) {x : Nat × Nat × Nat} (hx : g.blk id = some x) {o : Obj} (hw : Wrote w w' x.1 o)
    (hf : ∀ o', g.fz x.1 o' → w'.cell? ⟨x.1, o', none⟩ = w.cell? ⟨x.1, o', none⟩)
    (hblk : ∀ g' w', Ev g w g' w' → g'.blk id = some x → g'.w0.heap.size ≤ x.1 → w'.heap[x.1]? = some o → (∀ o', g'.fz x.1 o' → g.fz x.1 o') → BlkAt g' w' id blk) :
    Ev g w g w' ∧ Rel g (M.set id blk) w' := by
  have hbase : g.w0.heap.size ≤ x.1 := by
    obtain ⟨y, hy, _, h2⟩ := (h.blk id old hM).lt
    rw [hx, Option.some.injEq] at hy
    subst hy
    exact h2
  have e : Ev g w g w' := ⟨rfl, rfl, fun _ _ h => h, fun _ _ h => h, fun b o' hfz => by
    by_cases hb : b = x.1
    · subst hb; exact hf o' hfz
    · exact World.cell?_of_block (hw.old b hb), rfl, fun _ _ h => h⟩
  refine ⟨e, ?_⟩
  exact {
    blk := fun i b hb => by
      rw [Mem.set_app] at hb
      by_cases hi : id = i
      · subst hi
        rw [if_pos rfl, Option.some.injEq] at hb
        subst hb
        exact hblk _ _ e hx hbase hw.new (fun _ ho => ho)
      · rw [if_neg hi] at hb
        exact (h.blk i b hb).ev e (fun y hy => hw.old _ (fun he => hi (h.inj id i old b hM hb x y hx hy he.symm))) (fun _ _ _ ho => ho)
    inj := fun i j bi bj hi hj => by
      rw [Mem.set_app] at hi hj
      have key : ∀ k bk, (if id = k then some blk else M k) = some bk → ∃ bk', M k = some bk' := fun k bk hk => by
        by_cases hi : id = k
        · subst hi; exact ⟨_, hM⟩
        · rw [if_neg hi] at hk; exact ⟨_, hk⟩
      obtain ⟨b1, h1⟩ := key i bi hi
      obtain ⟨b2, h2⟩ := key j bj hj
      exact h.inj i j b1 b2 h1 h2
    lt := fun i y hy => by rw [hw.size]; exact h.lt i y hy
    fz := fun b o' hfz => by
      obtain ⟨v, hv⟩ := h.fz b o' hfz
      exact ⟨v, (e.cell b o' hfz).trans hv⟩
    fin := by
      obtain ⟨n, hn⟩ := h.fin
      refine ⟨max n (id + 1), fun i hi => ?_⟩
      have h1 : id ≠ i := by omega
      rw [Mem.set_app, if_neg h1]
      exact hn i (by omega)
    below := h.below.trans ⟨hw.os, hw.tape, hw.output, by rw [hw.size]; exact Nat.le_refl _, fun k hk => hw.old k (by omega)⟩
    tab := h.tab }

theorem rel_wrote_cells {g : Gh} {M : Mem} {w w' : World} (h : Rel g M w) {id : Nat} {T : TypeId} {rows rows' : List (List Lf)} {keep : Nat} (hM : M id = some (.cells T rows keep)) {b sz cr : Nat}
    (hx : g.blk id = some (b, sz, cr)) {cur cur' : Array Value} (hcur : w.heap[b]? = some (.cells cur T (0, 0))) (hw : Wrote w w' b (.cells cur' T (0, 0)))
    (hs : cur'.size = cr * sz) (hl : rows'.length ≤ cr) (hm : cr ≤ maxLen) (hkeep : ∀ o, o < keep * sz → cur'[o]? = cur[o]?)
    (hr : RowsAt g w rows' sz cur') (hfz : ∀ o, g.fz b o → o < keep * sz) (hsz : sz = szOf g.P T) :
    Ev g w g w' ∧ Rel g (M.set id (.cells T rows' keep)) w' :=
  rel_wrote h hM hx hw (fun o' ho => by simp only [World.cell?, hw.new, hcur]; exact hkeep o' (hfz o' ho))
    fun g' w' e h1 h2 h3 h4 => ⟨b, sz, cr, cur', h1, h2, h3, hs, hl, hr.ev e, fun o ho => hfz o (h4 o ho), hm, by rw [e.P]; exact hsz⟩

/-- Rows of a live block are never written again. -/
def Gh.frz (g : Gh) (b n : Nat) : Gh := { g with fz := fun b' o => g.fz b' o ∨ (b' = b ∧ o < n) }

theorem rel_frz {g : Gh} {M : Mem} {w : World} (h : Rel g M w) {id : Nat} {T : TypeId} {rows : List (List Lf)} {keep : Nat} (hM : M id = some (.cells T rows keep)) {b sz cr : Nat} (hx : g.blk id = some (b, sz, cr)) :
    Ev g w (g.frz b (rows.length * sz)) w ∧ Rel (g.frz b (rows.length * sz)) (M.set id (.cells T rows (max keep rows.length))) w ∧
    ∀ off len cap, off + len ≤ rows.length → len ≤ cap → Conc (g.frz b (rows.length * sz)) w (.sl ((rows.drop off).take len)) (.slice (some ⟨b, off * sz, none⟩) len cap) := by
  obtain ⟨b', sz', cr', cur, h1, h2, h3, h4, h5, h6, h7, h8, h9⟩ := h.blk id _ hM
  rw [hx, Option.some.injEq, Prod.mk.injEq, Prod.mk.injEq] at h1
  obtain ⟨rfl, rfl, rfl⟩ := h1
  have hcell : ∀ o, o < rows.length * sz → ∃ v, w.cell? ⟨b, o, none⟩ = some v := fun o ho => by
    have hlt : o < cur.size := by
      rw [h4]
      exact Nat.lt_of_lt_of_le ho (Nat.mul_le_mul_right _ h5)
    exact ⟨cur[o], by simp [World.cell?, h3, hlt]⟩
  have e : Ev g w (g.frz b (rows.length * sz)) w := ⟨rfl, rfl, fun _ _ h => h, fun _ _ h => .inl h, fun _ _ _ => rfl, rfl, fun _ _ h => h⟩
  have hrel : Rel (g.frz b (rows.length * sz)) (M.set id (.cells T rows (max keep rows.length))) w := {
    blk := fun i blk hb => by
      rw [Mem.set_app] at hb
      by_cases hi : id = i
      · subst hi
        rw [if_pos rfl, Option.some.injEq] at hb
        subst hb
        refine ⟨b, sz, cr, cur, hx, h2, h3, h4, h5, h6.ev e, fun o ho => ?_, h8, h9⟩
        rcases ho with ho | ⟨_, ho⟩
        · exact Nat.lt_of_lt_of_le (h7 o ho) (Nat.mul_le_mul_right _ (Nat.le_max_left _ _))
        · exact Nat.lt_of_lt_of_le ho (Nat.mul_le_mul_right _ (Nat.le_max_right _ _))
      · rw [if_neg hi] at hb
        refine (h.blk i blk hb).ev e (fun _ _ => rfl) (fun y hy o ho => ?_)
        rcases ho with ho | ⟨he, _⟩
        · exact ho
        · exact absurd (h.inj id i _ blk hM hb _ y hx hy he.symm) hi
    inj := fun i j bi bj hi hj => by
      rw [Mem.set_app] at hi hj
      have key : ∀ k bk, (if id = k then some (Blk.cells T rows (max keep rows.length)) else M k) = some bk → ∃ bk', M k = some bk' := fun k bk hk => by
        by_cases hi : id = k
        · subst hi; exact ⟨_, hM⟩
        · rw [if_neg hi] at hk; exact ⟨_, hk⟩
      obtain ⟨b1, h1⟩ := key i bi hi
      obtain ⟨b2, h2⟩ := key j bj hj
      exact h.inj i j b1 b2 h1 h2
    lt := h.lt
    fz := fun b' o ho => by
      rcases ho with ho | ⟨rfl, ho⟩
      · exact h.fz b' o ho
      · exact hcell o ho
    fin := by
      obtain ⟨n, hn⟩ := h.fin
      refine ⟨max n (id + 1), fun i hi => ?_⟩
      have h1 : id ≠ i := by omega
      rw [Mem.set_app, if_neg h1]
      exact hn i (by omega)
    below := h.below
    tab := h.tab }
  refine ⟨e, hrel, fun off len cap hol hc => ?_⟩
  have hlen : ((rows.drop off).take len).length = len := by simp; omega
  have hmem : ∀ r ∈ (rows.drop off).take len, r.length = sz := fun r hr => h6.1 r (List.mem_of_mem_drop (List.mem_of_mem_take hr))
  have hbound : ∀ i, i < len * sz → off * sz + i < rows.length * sz := fun i hi => by
    have : (off + len) * sz ≤ rows.length * sz := Nat.mul_le_mul_right _ hol
    rw [Nat.add_mul] at this
    omega
  have hgoal := Conc.sl (g := g.frz b (rows.length * sz)) (w := w) (rows := (rows.drop off).take len) (b := b) (o := off * sz) (sz := sz) (cap := cap)
    (fun i => (w.cell? ⟨b, off * sz + i, none⟩).getD undef) hmem (by rw [hlen]; exact hc)
    (fun i hi => by
      rw [hlen] at hi
      obtain ⟨v, hv⟩ := hcell _ (hbound i hi)
      exact ⟨.inr ⟨rfl, hbound i hi⟩, by rw [hv]; rfl⟩)
    (fun i j r x hr hx' => by
      rw [List.getElem?_take] at hr
      split at hr
      · rename_i hil
        rw [List.getElem?_drop] at hr
        obtain ⟨v, hv, hcv⟩ := h6.2 (off + i) j r x hr hx'
        have hadd : off * sz + (i * sz + j) = (off + i) * sz + j := by rw [Nat.add_mul]; omega
        have hc' : w.cell? ⟨b, off * sz + (i * sz + j), none⟩ = some v := by
          rw [hadd]
          simp [World.cell?, h3, hv]
        simp only [hc', Option.getD_some]
        exact hcv.ev e
      · cases hr)
  rw [hlen] at hgoal
  exact hgoal

end Go.X
set_option linter.unusedVariables false
set_option linter.unusedSimpArgs false
set_option linter.unusedSectionVars false
set_option maxRecDepth 100000
namespace Go.X
open Go.RowKit

/-! ### abstraction of constants -/
theorem conc_absL (g : Gh) (w : World) (v : Value) (h : v.oneCell' = true) : Conc g w (absL v) v := by
  unfold absL
  split <;> first
    | exact .int _ _ | exact .bool _ | exact .str _ | exact .nilp | exact .nils | exact .nilm | exact .nilf | exact .nili
    | exact .clo [] rfl (fun i x v hx => by simp at hx)
    | exact .tok _ h

theorem conc_absV (g : Gh) (w : World) (v : Value) : ConcA g w (absV v) v := by
  unfold absV
  split
  · rename_i cs
    split
    · rename_i hall
      have h := List.all_eq_true.1 hall
      refine .agg cs.toList ⟨by simp, fun i x v hx hv => ?_⟩
      rw [List.getElem?_map] at hx
      rw [hv] at hx
      simp only [Option.map_some, Option.some.injEq] at hx
      subst hx
      exact conc_absL g w v (h v (List.mem_of_getElem? hv))
    · exact .any _
  · exact .any _
  · rename_i h1 h2
    refine .l (conc_absL g w v ?_)
    cases v <;> first | rfl | (exact absurd rfl (h1 _)) | (exact absurd rfl (h2 _))

/-! ### the type's row -/
theorem ti_spec {P : Program} {t : TypeId} {i : TI} (h : tiOf P t = some i) : ∃ inf d z, P.info? t = some inf ∧ P.underlying t = some d ∧ inf.zero = some z ∧
    i.size = inf.size ∧ i.bytes = inf.bytes ∧ i.agg = tdAgg d ∧ i.zero = absV z ∧ i.d = tdOf d := by
  unfold tiOf at h
  split at h
  · rename_i inf hinf
    split at h
    · rename_i d z hd hz
      simp only [Option.some.injEq] at h
      subst h
      exact ⟨inf, d, z, hinf, hd, hz, rfl, rfl, rfl, rfl, rfl⟩
    · cases h
  · cases h

theorem run_isAgg' {P : Program} {t : TypeId} {d : TypeDesc} (h : P.underlying t = some d) (w : World) : (isAgg t).run P w = .ok (tdAgg d) w := by
  unfold isAgg
  rw [Sem.run_bind, run_underlying h w]
  cases d <;> rfl

theorem run_sizeOf' {P : Program} {t : TypeId} {inf : TypeInfo} (h : P.info? t = some inf) (w : World) : (sizeOf t).run P w = .ok inf.size w := by
  simp [sizeOf, typeInfo, h]
theorem run_zeroValue' {P : Program} {t : TypeId} {inf : TypeInfo} {z : Value} (h : P.info? t = some inf) (hz : inf.zero = some z) (w : World) : (zeroValue t).run P w = .ok z w := by
  simp [zeroValue, typeInfo, h, hz]

/-! ### cells of a value -/
theorem avCells_conc {g : Gh} {w : World} {v : AV} {c : Value} {cs : List Lf} (h : ConcA g w v c) (hc : avCells v = some cs) : ConcL g w cs c.cells.toList := by
  cases h with
  | l h =>
    simp only [avCells, Option.some.injEq] at hc
    subst hc
    have h1 := h.one
    have : c.cells = #[c] := by cases c <;> first | rfl | simp [Value.oneCell'] at h1
    rw [this]
    exact ConcL.cons h (ConcL.nil g w)
  | agg vs h =>
    simp only [avCells, Option.some.injEq] at hc
    subst hc
    exact h
  | tup _ _ _ => simp [avCells] at hc
  | any _ => simp [avCells] at hc

/-! ### load -/
theorem run_load_at {P : Program} {g : Gh} {w : World} {t : TypeId} {i : TI} (hti : tiOf P t = some i) {b o : Nat} {xs : List Lf} (h : CellsAt g w b o xs) {v : AV} (hp : packV i.agg i.size xs = some v) :
    ∃ c, (loadVar t ⟨b, o, none⟩).run P w = .ok c w ∧ ConcA g w v c := by
  obtain ⟨inf, d, z, hinf, hd, hz, hs, hb, ha, hzz, hdd⟩ := ti_spec hti
  obtain ⟨vs, hv, hcell⟩ := h
  unfold packV at hp
  unfold loadVar
  simp only [Sem.run_bind, run_isAgg' hd, Result.andThen_ok, Sem.run_ite]
  rw [ha] at hp
  split at hp
  · rename_i hagg
    rw [if_pos hagg]
    split at hp
    · rename_i hle
      simp only [Option.some.injEq] at hp
      subst hp
      have hlen : (vs.take i.size).length = i.size := by rw [List.length_take, ← hv.1]; omega
      have hl := run_loadCells_list (P := P) w ⟨b, o, none⟩ (vs.take i.size) (fun j u hu => by
        rw [addr_add]
        rw [List.getElem?_take] at hu
        split at hu
        · exact hcell j u hu
        · cases hu)
      rw [hlen] at hl
      simp only [Sem.run_bind, run_sizeOf' hinf, Result.andThen_ok, ← hs, hl, Sem.run_pure]
      exact ⟨_, rfl, .agg _ (hv.take i.size)⟩
    · cases hp
  · rename_i hagg
    rw [if_neg hagg]
    cases xs with
    | nil => simp at hp
    | cons x xs =>
      simp only [List.head?_cons, Option.map_some, Option.some.injEq] at hp
      subst hp
      obtain ⟨c, hc, hcx⟩ := hv.get (i := 0) (x := x) rfl
      have := hcell 0 c hc
      simp only [Nat.add_zero] at this
      refine ⟨c, ?_, .l hcx⟩
      rw [run_load, this]

theorem cells_of_row {g : Gh} {M : Mem} {w : World} (h : Rel g M w) {id r c : Nat} {xs : List Lf} (hr : rowOf M id r c = some xs) {b sz cr : Nat} (hx : g.blk id = some (b, sz, cr)) : CellsAt g w b (r * sz + c) xs := by
  unfold rowOf at hr
  split at hr
  · rename_i T rows keep hM
    obtain ⟨b', sz', cr', cur, h1, h2, h3, h4, h5, h6, h7, h8, h9⟩ := h.blk id _ hM
    rw [hx, Option.some.injEq, Prod.mk.injEq, Prod.mk.injEq] at h1
    obtain ⟨rfl, rfl, rfl⟩ := h1
    cases hrow : rows[r]? with
    | none => rw [hrow] at hr; cases hr
    | some row =>
      rw [hrow] at hr
      simp only [Option.map_some, Option.some.injEq] at hr
      subst hr
      have hlen : row.length = sz := h6.1 row (List.mem_of_getElem? hrow)
      have hrr := (List.getElem?_eq_some_iff.1 hrow).1
      have hbound : (r + 1) * sz ≤ cur.size := by rw [h4]; exact Nat.mul_le_mul_right _ (by omega)
      rw [Nat.add_mul, Nat.one_mul] at hbound
      refine CellsAt.drop (xs := row) ⟨(cur.toList.drop (r * sz)).take sz, ⟨?_, fun j x v hx' hv => ?_⟩, fun j v hj => ?_⟩ c
      · simp only [List.length_take, List.length_drop, Array.length_toList]
        omega
      · rw [List.getElem?_take] at hv
        split at hv
        · rw [List.getElem?_drop] at hv
          obtain ⟨u, hu, hcu⟩ := h6.2 r j row x hrow hx'
          have : cur.toList[r * sz + j]? = cur[r * sz + j]? := by simp
          rw [this, hu, Option.some.injEq] at hv
          subst hv
          exact hcu
        · cases hv
      · rw [List.getElem?_take] at hj
        split at hj
        · rw [List.getElem?_drop] at hj
          simp only [World.cell?, h3]
          simpa using hj
        · cases hj
  · cases hr

theorem run_loadA {P : Program} {g : Gh} {M : Mem} {w : World} (h : Rel g M w) {t : TypeId} {a v : AV} {ca : Value} (hc : ConcA g w a ca) (hl : loadA P M t a = some v) :
    ∃ c, (Instr.loadAt t ca).run P w = .ok c w ∧ ConcA g w v c := by
  unfold loadA at hl
  split at hl
  · rename_i i cells hti
    cases hc with
    | l hc =>
      obtain ⟨b, o, rfl, hcells⟩ := conc_rp hc
      obtain ⟨c, h1, h2⟩ := run_load_at hti hcells hl
      exact ⟨c, by simpa [Instr.loadAt, Instr.sureAddr] using h1, h2⟩
  · rename_i i id r c hti
    cases hc with
    | l hc =>
      cases hc with
      | ptr hx =>
        cases hr : rowOf M id r c with
        | none => rw [hr] at hl; cases hl
        | some xs =>
          rw [hr] at hl
          obtain ⟨c', h1, h2⟩ := run_load_at hti (cells_of_row h hr hx) hl
          exact ⟨c', by simpa [Instr.loadAt, Instr.sureAddr] using h1, h2⟩
  · cases hl

/-! ### store -/
theorem seg_get {α : Type} (l vs : List α) (k : Nat) (hk : k + vs.length ≤ l.length) (j : Nat) :
    (l.take k ++ vs ++ l.drop (k + vs.length))[j]? = if k ≤ j ∧ j < k + vs.length then vs[j - k]? else l[j]? := by
  have h1 : (l.take k).length = k := by simp; omega
  by_cases hj : j < k
  · rw [if_neg (by omega), List.append_assoc, List.getElem?_append_left (by omega), List.getElem?_take, if_pos hj]
  · by_cases hj2 : j < k + vs.length
    · rw [if_pos ⟨by omega, hj2⟩, List.append_assoc, List.getElem?_append_right (by omega), h1, List.getElem?_append_left (by omega)]
    · rw [if_neg (by omega), List.getElem?_append_right (by simp; omega), List.getElem?_drop]
      congr 1
      simp
      omega

theorem mul_lt_rows {r i sz : Nat} (h : r ≠ i) {j k : Nat} (hj : j < sz) (hk : k < sz) : r * sz + j ≠ i * sz + k := by
  intro he
  rcases Nat.lt_or_gt_of_ne h with hl | hl
  · have : (r + 1) * sz ≤ i * sz := Nat.mul_le_mul_right _ hl
    rw [Nat.add_mul] at this
    omega
  · have : (i + 1) * sz ≤ r * sz := Nat.mul_le_mul_right _ hl
    rw [Nat.add_mul] at this
    omega

theorem run_storeA {P : Program} {g : Gh} {M M' : Mem} {w : World} (h : Rel g M w) {t : TypeId} {a v : AV} {ca cv : Value} (hca : ConcA g w a ca) (hcv : ConcA g w v cv) (hs : storeA P M t a v = some M') :
    ∃ w', (Instr.storeAt t ca cv).run P w = .ok () w' ∧ Ev g w g w' ∧ Rel g M' w' := by
  unfold storeA at hs
  split at hs
  · rename_i id r c vs i hvs hti
    split at hs
    · rename_i T rows keep hM
      split at hs
      · rename_i row hrow
        split at hs
        · rename_i hcond
          obtain ⟨hlen, hfit, hkeep⟩ := hcond
          simp only [Option.some.injEq] at hs
          subst hs
          obtain ⟨inf, d, z, hinf, hd, hz, hsz, hby, hag, hzz, hdd⟩ := ti_spec hti
          cases hca with
          | l hca =>
            cases hca with
            | ptr hx =>
              rename_i b sz cr
              obtain ⟨b', sz', cr', cur, h1, h2, h3, h4, h5, h6, h7, h8, h9⟩ := h.blk id _ hM
              rw [hx, Option.some.injEq, Prod.mk.injEq, Prod.mk.injEq] at h1
              obtain ⟨rfl, rfl, rfl⟩ := h1
              have hcl := avCells_conc hcv hvs
              have hrowlen : row.length = sz := h6.1 row (List.mem_of_getElem? hrow)
              have hrr := (List.getElem?_eq_some_iff.1 hrow).1
              have hbound : (r + 1) * sz ≤ cur.size := by rw [h4]; exact Nat.mul_le_mul_right _ (by omega)
              rw [Nat.add_mul, Nat.one_mul] at hbound
              have hvl : cv.cells.toList.length = vs.length := hcl.1.symm
              have hseg : (r * sz + c) + 0 + cv.cells.toList.length ≤ cur.size := by rw [hvl]; omega
              have hst := run_storeCells_at P b (r * sz + c) T cv.cells.toList 0 cur w h3 hseg hcl.one
              simp only [Nat.add_zero] at hst
              refine ⟨w.setRow b (List.take (r * sz + c) cur.toList ++ cv.cells.toList ++ List.drop (r * sz + c + cv.cells.toList.length) cur.toList).toArray, ?_, ?_⟩
              · have hne : ¬ cv.cells.size ≠ inf.size := by
                  have : cv.cells.size = cv.cells.toList.length := by simp
                  rw [this, hvl, hlen, hsz]
                  simp
                simp only [Instr.storeAt, Instr.sureAddr, storeVar, Sem.run_bind, Sem.run_pure, Result.andThen_ok, run_sizeOf' hinf, if_neg hne, hst]
              · have hw := Wrote.setRow (w := w) (cur' := (List.take (r * sz + c) cur.toList ++ cv.cells.toList ++ List.drop (r * sz + c + cv.cells.toList.length) cur.toList).toArray) h3
                have hget : ∀ j, (List.take (r * sz + c) cur.toList ++ cv.cells.toList ++ List.drop (r * sz + c + cv.cells.toList.length) cur.toList).toArray[j]? =
                    if r * sz + c ≤ j ∧ j < r * sz + c + vs.length then cv.cells.toList[j - (r * sz + c)]? else cur[j]? := fun j => by
                  have := seg_get cur.toList cv.cells.toList (r * sz + c) (by simpa using hseg) j
                  rw [hvl] at this
                  simpa [hvl] using this
                refine rel_wrote_cells h hM hx h3 hw ?_ (by simpa using h5) h8 (fun o ho => ?_) ⟨fun r' hr' => ?_, fun i' j r' x hi' hj => ?_⟩ h7 h9
                · rw [← h4]
                  have := hseg
                  simp only [List.size_toArray, List.length_append, List.length_take, List.length_drop, Array.length_toList] at this ⊢
                  omega
                · rw [hget, if_neg]
                  have : keep * sz ≤ r * sz := Nat.mul_le_mul_right _ hkeep
                  omega
                · rcases List.mem_or_eq_of_mem_set hr' with hr' | rfl
                  · exact h6.1 r' hr'
                  · unfold overw
                    simp only [List.length_append, List.length_take, List.length_drop]
                    omega
                · have hjs : j < sz := by
                    have hr'len : r'.length = sz := by
                      have hm := List.mem_of_getElem? hi'
                      rcases List.mem_or_eq_of_mem_set hm with hm | rfl
                      · exact h6.1 r' hm
                      · unfold overw
                        simp only [List.length_append, List.length_take, List.length_drop]
                        omega
                    rw [← hr'len]
                    exact (List.getElem?_eq_some_iff.1 hj).1
                  by_cases hri : r = i'
                  · subst hri
                    rw [List.getElem?_set_self hrr, Option.some.injEq] at hi'
                    subst hi'
                    unfold overw at hj
                    rw [seg_get row vs c hfit j] at hj
                    rw [hget]
                    by_cases hin : c ≤ j ∧ j < c + vs.length
                    · rw [if_pos hin] at hj
                      rw [if_pos (by omega), show r * sz + j - (r * sz + c) = j - c by omega]
                      exact hcl.get hj
                    · rw [if_neg hin] at hj
                      rw [if_neg (by omega)]
                      exact h6.2 r j row x hrow hj
                  · rw [List.getElem?_set_ne hri] at hi'
                    obtain ⟨u, hu, hcu⟩ := h6.2 i' j r' x hi' hj
                    refine ⟨u, ?_, hcu⟩
                    rw [hget, if_neg]
                    · exact hu
                    · intro hin
                      have := mul_lt_rows hri (j := i' * sz + j - r * sz) (k := j) (sz := sz) (by omega) hjs
                      omega
        · cases hs
      · cases hs
    · cases hs
  · cases hs

end Go.X
set_option linter.unusedVariables false
set_option linter.unusedSimpArgs false
set_option linter.unusedSectionVars false
set_option maxRecDepth 100000
namespace Go.X
open Go.RowKit

theorem conc_int {g : Gh} {w : World} {k : IntKind} {n : Int} {v : Value} (h : ConcA g w (.l (.int k n)) v) : v = .int k n := by
  cases h with | l h => cases h; rfl
theorem conc_bool {g : Gh} {w : World} {b : Bool} {v : Value} (h : ConcA g w (.l (.bool b)) v) : v = .bool b := by
  cases h with | l h => cases h; rfl
theorem conc_str {g : Gh} {w : World} {s : ByteArray} {v : Value} (h : ConcA g w (.l (.str s)) v) : v = .string s := by
  cases h with | l h => cases h; rfl

theorem conc_rp_drop {g : Gh} {w : World} {cells : List Lf} {b o : Nat} (h : Conc g w (.rp cells) (.pointer (some ⟨b, o, none⟩))) (n : Nat) : Conc g w (.rp (cells.drop n)) (.pointer (some ⟨b, o + n, none⟩)) := by
  cases h with
  | rp cs h hc =>
    refine .rp (fun i => cs (n + i)) (fun i hi => ?_) (fun i x hx => ?_)
    · rw [List.length_drop] at hi
      rw [Nat.add_assoc]
      exact h (n + i) (by omega)
    · rw [List.getElem?_drop] at hx
      exact hc _ _ hx

/-! ### field addresses -/
def fieldAddrA (P : Program) (s : TypeId) (a : AV) (f : Nat) : Option AV :=
  match tiOf P s, a with
  | some i, .l (.rp cells) => match i.d with
    | .struct fs => match fs[f]? with
      | some (off, ft) => match tiOf P ft with
        | some j => if j.size = 0 then none else some (.l (.rp (cells.drop off)))
        | none => none
      | none => none
    | _ => none
  | some i, .l (.ptr id r c) => match i.d with
    | .struct fs => match fs[f]? with
      | some (off, ft) => match tiOf P ft with
        | some j => if j.size = 0 then none else some (.l (.ptr id r (c + off)))
        | none => none
      | none => none
    | _ => none
  | _, _ => none

theorem tdOf_struct {d : TypeDesc} {fs : List (Nat × Nat)} (h : tdOf d = .struct fs) : ∃ fields, d = .struct fields ∧ fs = fields.toList.map fun f => (f.offset, f.type) := by
  cases d <;> simp [tdOf] at h
  exact ⟨_, rfl, h.symm⟩
theorem tdOf_slice {d : TypeDesc} {e : Nat} (h : tdOf d = .slice e) : d = .slice e := by
  cases d <;> simp [tdOf] at h
  rw [h]
theorem tdOf_pointer {d : TypeDesc} {e : Nat} (h : tdOf d = .pointer e) : d = .pointer e := by
  cases d <;> simp [tdOf] at h
  rw [h]
theorem tdOf_array {d : TypeDesc} {n e : Nat} (h : tdOf d = .array n e) : d = .array n e := by
  cases d <;> simp [tdOf] at h
  rw [h.1, h.2]
theorem tdOf_map {d : TypeDesc} {k e : Nat} (h : tdOf d = .map k e) : d = .map k e := by
  cases d <;> simp [tdOf] at h
  rw [h.1, h.2]
theorem tdOf_int {d : TypeDesc} {k : IntKind} (h : tdOf d = .int k) : d = .int k := by
  cases d <;> simp [tdOf] at h
  rw [h]
theorem tdOf_string {d : TypeDesc} (h : tdOf d = .string) : d = .string := by
  cases d <;> simp [tdOf] at h
  rfl
theorem tdOf_bool {d : TypeDesc} (h : tdOf d = .bool) : d = .bool := by
  cases d <;> simp [tdOf] at h
  rfl

theorem run_fieldAt' {P : Program} {s ft : TypeId} {fields : Array Field} (hd : P.underlying s = some (.struct fields)) {f off : Nat} (hf : (fields.toList.map fun f => (f.offset, f.type))[f]? = some (off, ft)) {j : TI} (hj : tiOf P ft = some j) (h0 : ¬ j.size = 0) (b o : Nat) (w : World) :
    (Instr.fieldAt s (.pointer (some ⟨b, o, none⟩)) f).run P w = .ok (.pointer (some ⟨b, o + off, none⟩)) w := by
  obtain ⟨inf, d, z, hinf, hd', hz, hs, _, _, _, _⟩ := ti_spec hj
  rw [List.getElem?_map] at hf
  cases hff : fields.toList[f]? with
  | none => rw [hff] at hf; cases hf
  | some fl =>
    rw [hff] at hf
    simp only [Option.map_some, Option.some.injEq, Prod.mk.injEq] at hf
    obtain ⟨rfl, rfl⟩ := hf
    have hfa : fields[f]? = some fl := by simpa using hff
    have hne : ¬ inf.size = 0 := by rw [← hs]; exact h0
    simp [Instr.fieldAt, run_underlying hd, hfa, Instr.sureAddr, fieldPlace, run_sizeOf' hinf, hne, addr_add]

theorem run_fieldAddrA {P : Program} {g : Gh} {w : World} {s : TypeId} {a v : AV} {ca : Value} {f : Nat} (hc : ConcA g w a ca) (h : fieldAddrA P s a f = some v) :
    ∃ c, (Instr.fieldAt s ca f).run P w = .ok c w ∧ ConcA g w v c := by
  unfold fieldAddrA at h
  split at h
  · rename_i i cells hti
    obtain ⟨inf, d, z, hinf, hd, hz, _, _, _, _, hdd⟩ := ti_spec hti
    split at h
    · rename_i fs hfs
      split at h
      · rename_i off ft hf
        split at h
        · rename_i j hj
          split at h
          · cases h
          · rename_i h0
            simp only [Option.some.injEq] at h
            subst h
            rw [hdd] at hfs
            obtain ⟨fields, rfl, rfl⟩ := tdOf_struct hfs
            cases hc with
            | l hc =>
              obtain ⟨b, o, rfl, _⟩ := conc_rp hc
              exact ⟨_, run_fieldAt' hd hf hj h0 b o w, .l (conc_rp_drop hc off)⟩
        · cases h
      · cases h
    · cases h
  · rename_i i id r c hti
    obtain ⟨inf, d, z, hinf, hd, hz, _, _, _, _, hdd⟩ := ti_spec hti
    split at h
    · rename_i fs hfs
      split at h
      · rename_i off ft hf
        split at h
        · rename_i j hj
          split at h
          · cases h
          · rename_i h0
            simp only [Option.some.injEq] at h
            subst h
            rw [hdd] at hfs
            obtain ⟨fields, rfl, rfl⟩ := tdOf_struct hfs
            cases hc with
            | l hc =>
              cases hc with
              | ptr hx =>
                rename_i b sz cr
                refine ⟨_, run_fieldAt' hd hf hj h0 b _ w, .l ?_⟩
                rw [Nat.add_assoc]
                exact .ptr hx
        · cases h
      · cases h
    · cases h
  · cases h

/-! ### an element's address -/
def indexAddrA (P : Program) (M : Mem) (t : TypeId) (a i : AV) : Option AV :=
  match tiOf P t, i with
  | some ti, .l (.int _ n) =>
    match ti.d with
    | .slice e => match tiOf P e, a with
      | some te, .l (.sl rows) => if 0 ≤ n ∧ n < rows.length then (match rows[n.toNat]? with | some r => if r.length = te.size then some (.l (.rp r)) else none | none => none) else none
      | some te, .l (.ms id off len) => if 0 ≤ n ∧ n < len then (match M id with
        | some (.cells T _ _) => if T = e then some (.l (.ptr id (off + n.toNat) 0)) else none
        | _ => none) else none
      | _, _ => none
    | .array len e => match tiOf P e, a with
      | some te, .l (.ptr id r c) => if 0 ≤ n ∧ n < len then some (.l (.ptr id r (c + n.toNat * te.size))) else none
      | some te, .l (.rp cells) => if 0 ≤ n ∧ n < len then some (.l (.rp (cells.drop (n.toNat * te.size)))) else none
      | _, _ => none
    | _ => none
  | _, _ => none

theorem run_indexAt_slice {P : Program} {t e : TypeId} {inf : TypeInfo} (hd : P.underlying t = some (.slice e)) (hi : P.info? e = some inf) (w : World) (k : IntKind) (n : Int) (b o len cap : Nat) (h0 : 0 ≤ n) (h1 : n < len) :
    (Instr.indexAt t (.slice (some ⟨b, o, none⟩) len cap) (.int k n)).run P w = .ok (.pointer (some ⟨b, o + n.toNat * inf.size, none⟩)) w := by
  simp [Instr.indexAt, asIntOf, run_underlying hd, run_sizeOf' hi, h0, h1, addr_add]

theorem run_indexAt_array {P : Program} {t e : TypeId} {len : Nat} {inf : TypeInfo} (hd : P.underlying t = some (.array len e)) (hi : P.info? e = some inf) (w : World) (k : IntKind) (n : Int) (b o : Nat) (h0 : 0 ≤ n) (h1 : n < len) :
    (Instr.indexAt t (.pointer (some ⟨b, o, none⟩)) (.int k n)).run P w = .ok (.pointer (some ⟨b, o + n.toNat * inf.size, none⟩)) w := by
  simp [Instr.indexAt, asIntOf, run_underlying hd, run_sizeOf' hi, h0, h1, addr_add, Instr.sureAddr]

theorem run_indexAddrA {P : Program} {g : Gh} {M : Mem} {w : World} (hP : g.P = P) (hR : Rel g M w) {t : TypeId} {a i v : AV} {ca ci : Value} (hca : ConcA g w a ca) (hci : ConcA g w i ci) (h : indexAddrA P M t a i = some v) :
    ∃ c, (Instr.indexAt t ca ci).run P w = .ok c w ∧ ConcA g w v c := by
  unfold indexAddrA at h
  split at h
  · rename_i ti k n hti
    have := conc_int hci
    subst this
    obtain ⟨inf, d, z, hinf, hd, hz, _, _, _, _, hdd⟩ := ti_spec hti
    split at h
    · rename_i e he
      rw [hdd] at he
      have := tdOf_slice he
      subst this
      split at h
      · rename_i te rows hte
        obtain ⟨infe, de, ze, hinfe, hde, hze, hse, _, _, _, hdde⟩ := ti_spec hte
        split at h
        · rename_i hb
          split at h
          · rename_i r hr
            split at h
            · rename_i hl
              simp only [Option.some.injEq] at h
              subst h
              cases hca with
              | l hca =>
                obtain ⟨b, o, cap, rfl, hrow, _⟩ := conc_sl_row hca hr
                refine ⟨_, run_indexAt_slice hd hinfe w k n b o _ cap hb.1 hb.2, .l ?_⟩
                rw [← hse, ← hl]
                exact hrow
            · cases h
          · cases h
        · cases h
      · rename_i te id off len hte
        obtain ⟨infe, de, ze, hinfe, hde, hze, hse, _, _, _, hdde⟩ := ti_spec hte
        split at h
        · rename_i hb
          split at h
          · rename_i T rows keep hM
            split at h
            · rename_i hT
              subst hT
              simp only [Option.some.injEq] at h
              subst h
              cases hca with
              | l hca =>
                cases hca with
                | ms hx h1 h2 =>
                  rename_i b sz cr cap
                  obtain ⟨b', sz', cr', cur, g1, g2, g3, g4, g5, g6, g7, g8, g9⟩ := hR.blk id _ hM
                  rw [hx, Option.some.injEq, Prod.mk.injEq, Prod.mk.injEq] at g1
                  obtain ⟨rfl, rfl, rfl⟩ := g1
                  have hrl : sz = infe.size := by rw [g9, hP]; simp [szOf, hinfe]
                  refine ⟨_, run_indexAt_slice hd hinfe w k n b (off * sz) _ cap hb.1 hb.2, .l ?_⟩
                  have := Conc.ptr (w := w) (r := off + n.toNat) (c := 0) hx
                  rw [Nat.add_zero, Nat.add_mul, hrl] at this
                  rw [hrl]
                  exact this
            · cases h
          · cases h
        · cases h
      · cases h
    · rename_i len e he
      rw [hdd] at he
      have := tdOf_array he
      subst this
      split at h
      · rename_i te id r c hte
        obtain ⟨infe, de, ze, hinfe, hde, hze, hse, _, _, _, hdde⟩ := ti_spec hte
        split at h
        · rename_i hb
          simp only [Option.some.injEq] at h
          subst h
          cases hca with
          | l hca =>
            cases hca with
            | ptr hx =>
              rename_i b sz cr
              refine ⟨_, run_indexAt_array hd hinfe w k n b _ hb.1 hb.2, .l ?_⟩
              rw [← hse, Nat.add_assoc]
              exact .ptr hx
        · cases h
      · rename_i te cells hte
        obtain ⟨infe, de, ze, hinfe, hde, hze, hse, _, _, _, hdde⟩ := ti_spec hte
        split at h
        · rename_i hb
          simp only [Option.some.injEq] at h
          subst h
          cases hca with
          | l hca =>
            obtain ⟨b, o, rfl, _⟩ := conc_rp hca
            refine ⟨_, run_indexAt_array hd hinfe w k n b o hb.1 hb.2, .l ?_⟩
            rw [← hse]
            exact conc_rp_drop hca _
        · cases h
      · cases h
    · cases h
  · cases h

/-! ### lengths -/
def lenA (P : Program) (M : Mem) (t : TypeId) (a : AV) : Option AV :=
  match tiOf P t with
  | some ti => match ti.d, a with
    | .slice _, .l (.sl rows) => some (.l (.int .i64 rows.length))
    | .slice _, .l .nils => some (.l (.int .i64 0))
    | .slice _, .l (.ms _ _ len) => some (.l (.int .i64 len))
    | .string, .l (.str s) => some (.l (.int .i64 s.size))
    | .array n _, _ => some (.l (.int .i64 n))
    | .map _ _, .l .nilm => some (.l (.int .i64 0))
    | .map _ _, .l (.mp id) => match M id with
      | some (.map es) => some (.l (.int .i64 es.length))
      | _ => none
    | _, _ => none
  | none => none

theorem run_lenA {P : Program} {g : Gh} {M : Mem} {w : World} (hR : Rel g M w) {t ty : TypeId} {a v : AV} {ca : Value} (hca : ConcA g w a ca) (h : lenA P M t a = some v) :
    ∃ c, (Builtin.len_ #[t] ty #[ca]).run P w = .ok c w ∧ ConcA g w v c := by
  unfold lenA at h
  split at h
  · rename_i ti hti
    obtain ⟨inf, d, z, hinf, hd, hz, _, _, _, _, hdd⟩ := ti_spec hti
    rw [hdd] at h
    split at h
    · rename_i e rows he
      have := tdOf_slice he
      subst this
      simp only [Option.some.injEq] at h
      subst h
      cases hca with
      | l hca =>
        obtain ⟨a, cap, rfl, _⟩ := conc_sl hca
        exact ⟨_, by simp [Builtin.len_, run_underlying hd, goInt], .l (.int _ _)⟩
    · rename_i e he
      have := tdOf_slice he
      subst this
      simp only [Option.some.injEq] at h
      subst h
      cases hca with
      | l hca =>
        cases hca
        exact ⟨_, by simp [Builtin.len_, run_underlying hd, goInt], .l (.int _ _)⟩
    · rename_i e id off len he
      have := tdOf_slice he
      subst this
      simp only [Option.some.injEq] at h
      subst h
      cases hca with
      | l hca =>
        cases hca
        exact ⟨_, by simp [Builtin.len_, run_underlying hd, goInt], .l (.int _ _)⟩
    · rename_i s he
      have := tdOf_string he
      subst this
      simp only [Option.some.injEq] at h
      subst h
      have := conc_str hca
      subst this
      exact ⟨_, by simp [Builtin.len_, run_underlying hd, goInt], .l (.int _ _)⟩
    · rename_i n e he
      have := tdOf_array he
      subst this
      simp only [Option.some.injEq] at h
      subst h
      exact ⟨_, by simp [Builtin.len_, run_underlying hd, goInt], .l (.int _ _)⟩
    · rename_i k e he
      have := tdOf_map he
      subst this
      simp only [Option.some.injEq] at h
      subst h
      cases hca with
      | l hca =>
        cases hca
        exact ⟨_, by simp [Builtin.len_, run_underlying hd, goInt], .l (.int _ _)⟩
    · rename_i k e id he
      have := tdOf_map he
      subst this
      split at h
      · rename_i es hM
        simp only [Option.some.injEq] at h
        subst h
        cases hca with
        | l hca =>
          cases hca with
          | mp hx =>
            rename_i b sz cr
            obtain ⟨b', sz', cr', ents, clock, g1, g2, g3, g4, g5⟩ := hR.blk id _ hM
            rw [hx, Option.some.injEq, Prod.mk.injEq, Prod.mk.injEq] at g1
            obtain ⟨rfl, rfl, rfl⟩ := g1
            have hg : (getObj b).run P w = .ok (.map ents clock) w := by simp [getObj, Sem.run, g3]
            refine ⟨.int .i64 ents.size, by simp [Builtin.len_, run_underlying hd, goInt, hg], ?_⟩
            rw [g4]
            exact .l (.int _ _)
      · cases h
    · cases h
  · cases h

/-! ### slices of slices -/
def boundA (d : Nat) : Option AV → Option Nat
  | none => some d
  | some (.l (.int _ n)) => if 0 ≤ n then some n.toNat else none
  | some _ => none

def sliceA (P : Program) (M : Mem) (t : TypeId) (x : AV) (lo hi mx : Option AV) : Option AV :=
  match tiOf P t with
  | some ti => match ti.d, x, mx with
    | .slice e, .l (.sl rows), none => match tiOf P e, boundA 0 lo, boundA rows.length hi with
      | some te, some l, some h => if l ≤ h ∧ h ≤ rows.length ∧ (∀ r ∈ rows, r.length = te.size) then some (.l (.sl ((rows.drop l).take (h - l)))) else none
      | _, _, _ => none
    | .slice e, .l .nils, none => match tiOf P e, boundA 0 lo, boundA 0 hi with
      | some te, some l, some h => if l = 0 ∧ h = 0 then some (.l .nils) else none
      | _, _, _ => none
    | .slice e, .l (.ms id off len), none => match tiOf P e, boundA 0 lo, boundA len hi with
      | some te, some l, some h => if l ≤ h ∧ h ≤ len then
          (if l = 0 then some (.l (.ms id off h)) else if l = h then some (.l (.sl [])) else match M id with
            | some (.cells T _ _) => if T = e then some (.l (.ms id (off + l) (h - l))) else none
            | _ => none) else none
      | _, _, _ => none
    | .string, .l (.str s), none => match boundA 0 lo, boundA s.size hi with
      | some l, some h => if l ≤ h ∧ h ≤ s.size then some (.l (.str (s.extract l h))) else none
      | _, _ => none
    | _, _, _ => none
  | none => none

theorem bound_spec {P : Program} {g : Gh} {w : World} {d n : Nat} {a : Option AV} {c : Option Value} (hn : a = none ↔ c = none) (hc : ∀ x v, a = some x → c = some v → ConcA g w x v) (h : boundA d a = some n) :
    (c = none ∧ n = d) ∨ ∃ k, c = some (.int k (n : Int)) := by
  unfold boundA at h
  split at h
  · simp only [Option.some.injEq] at h
    exact .inl ⟨hn.1 rfl, h.symm⟩
  · rename_i k i
    split at h
    · rename_i h0
      simp only [Option.some.injEq] at h
      cases hcc : c with
      | none => exact absurd (hn.2 hcc) (by simp)
      | some v =>
        have := conc_int (hc _ v rfl hcc)
        subst this
        refine .inr ⟨k, ?_⟩
        rw [← h, Int.toNat_of_nonneg h0]
    · cases h
  · cases h

theorem run_bounds {P : Program} {w : World} {isSlice : Bool} {len cap l h : Nat} {lo hi : Option Value} (hlo : (lo = none ∧ l = 0) ∨ ∃ k, lo = some (.int k (l : Int))) (hhi : (hi = none ∧ h = len) ∨ ∃ k, hi = some (.int k (h : Int)))
    (h1 : l ≤ h) (h2 : h ≤ cap) : (Instr.sliceBounds isSlice len cap lo hi none).run P w = .ok (l, h, cap) w := by
  have a1 : (0 : Int) ≤ (l : Int) := by omega
  have a2 : (l : Int) ≤ (h : Int) := by omega
  have a3 : (0 : Int) ≤ (h : Int) := by omega
  have a4 : (h : Int) ≤ (cap : Int) := by omega
  rcases hlo with ⟨rfl, rfl⟩ | ⟨k, rfl⟩ <;> rcases hhi with ⟨rfl, rfl⟩ | ⟨k', rfl⟩ <;>
    simp [Instr.sliceBounds, Instr.sliceBound, asIntOf, a1, a2, a3, a4, h1, h2]

theorem run_slice_of {P : Program} {w : World} {t e : TypeId} {inf : TypeInfo} (hd : P.underlying t = some (.slice e)) (hinf : P.info? e = some inf) {a : Option Addr} {len cap l h : Nat} {lo hi : Option Value}
    (hlo : (lo = none ∧ l = 0) ∨ ∃ k, lo = some (.int k (l : Int))) (hhi : (hi = none ∧ h = len) ∨ ∃ k, hi = some (.int k (h : Int))) (h1 : l ≤ h) (h2 : h ≤ cap) :
    (Instr.sliceAt t (.slice a len cap) lo hi none).run P w = .ok (.slice (if cap = l then a else a.map (·.add (l * inf.size))) (h - l) (cap - l)) w := by
  simp [Instr.sliceAt, Instr.slice, run_underlying hd, run_bounds hlo hhi h1 h2, run_sizeOf' hinf]

theorem conc_sl_slice {g : Gh} {w : World} {rows : List (List Lf)} {a : Option Addr} {len cap l h sz : Nat} (hc : Conc g w (.sl rows) (.slice a len cap)) (hs : ∀ r ∈ rows, r.length = sz) (h1 : l ≤ h) (h2 : h ≤ rows.length) :
    Conc g w (.sl ((rows.drop l).take (h - l))) (.slice (if cap = l then a else a.map (·.add (l * sz))) (h - l) (cap - l)) := by
  by_cases hlh : l = h
  · subst hlh
    simp only [Nat.sub_self, List.take_zero]
    exact .sl0
  · cases hc with
    | sl0 => simp at h2; omega
    | sl cs hsz hcap hcell hcc =>
      rename_i b o sz'
      have hne : ¬ cap = l := by omega
      rw [if_neg hne]
      have hex : ∃ r, r ∈ rows := ⟨rows[l]'(by omega), List.getElem_mem _⟩
      obtain ⟨r0, hr0⟩ := hex
      have : sz' = sz := (hsz r0 hr0).symm.trans (hs r0 hr0)
      subst this
      have hlen : ((rows.drop l).take (h - l)).length = h - l := by simp; omega
      have key := Conc.sl (g := g) (w := w) (rows := (rows.drop l).take (h - l)) (b := b) (o := o + l * sz') (sz := sz') (cap := cap - l) (fun k => cs (l * sz' + k))
        (fun r hr => hsz r (List.mem_of_mem_drop (List.mem_of_mem_take hr))) (by rw [hlen]; omega)
        (fun i hi => by
          rw [hlen] at hi
          have : (l + (h - l)) * sz' ≤ rows.length * sz' := Nat.mul_le_mul_right _ (by omega)
          rw [Nat.add_mul] at this
          rw [Nat.add_assoc]
          exact hcell _ (by omega))
        (fun i j r x hr hx => by
          rw [List.getElem?_take] at hr
          split at hr
          · rw [List.getElem?_drop] at hr
            have := hcc (l + i) j r x hr hx
            rw [Nat.add_mul, Nat.add_assoc] at this
            exact this
          · cases hr)
      rw [hlen] at key
      simp only [Option.map_some, addr_add]
      exact key

theorem run_sliceA {P : Program} {g : Gh} {M : Mem} {w : World} (hP : g.P = P) (hR : Rel g M w) {t : TypeId} {x v : AV} {cx : Value} {lo hi mx : Option AV} {clo chi cmx : Option Value} (hx : ConcA g w x cx)
    (nlo : lo = none ↔ clo = none) (hlo : ∀ x v, lo = some x → clo = some v → ConcA g w x v) (nhi : hi = none ↔ chi = none) (hhi : ∀ x v, hi = some x → chi = some v → ConcA g w x v) (nmx : mx = none ↔ cmx = none)
    (h : sliceA P M t x lo hi mx = some v) : ∃ c, (Instr.sliceAt t cx clo chi cmx).run P w = .ok c w ∧ ConcA g w v c := by
  unfold sliceA at h
  split at h
  · rename_i ti hti
    obtain ⟨inf, d, z, hinf, hd, hz, _, _, _, _, hdd⟩ := ti_spec hti
    rw [hdd] at h
    split at h
    · rename_i e rows he
      have := tdOf_slice he
      subst this
      have := nmx.1 rfl
      subst this
      split at h
      · rename_i te l hh hte hl hhb
        obtain ⟨infe, de, ze, hinfe, hde, hze, hse, _, _, _, hdde⟩ := ti_spec hte
        split at h
        · rename_i hb
          simp only [Option.some.injEq] at h
          subst h
          cases hx with
          | l hx =>
            obtain ⟨a, cap, rfl, hcap⟩ := conc_sl hx
            refine ⟨_, run_slice_of hd hinfe (bound_spec (P := P) nlo hlo hl) (bound_spec (P := P) nhi hhi hhb) hb.1 (by omega), .l ?_⟩
            exact conc_sl_slice hx (fun r hr => (hb.2.2 r hr).trans hse) hb.1 hb.2.1
        · cases h
      · cases h
    · rename_i e he
      have := tdOf_slice he
      subst this
      have := nmx.1 rfl
      subst this
      split at h
      · rename_i te l hh hte hl hhb
        obtain ⟨infe, de, ze, hinfe, hde, hze, hse, _, _, _, hdde⟩ := ti_spec hte
        split at h
        · rename_i hb
          simp only [Option.some.injEq] at h
          subst h
          obtain ⟨rfl, rfl⟩ := hb
          cases hx with
          | l hx =>
            cases hx with
            | nils => exact ⟨_, run_slice_of hd hinfe (bound_spec (P := P) nlo hlo hl) (bound_spec (P := P) nhi hhi hhb) (Nat.le_refl _) (Nat.le_refl _), .l .nils⟩
        · cases h
      · cases h
    · rename_i e id off len he
      have := tdOf_slice he
      subst this
      have := nmx.1 rfl
      subst this
      split at h
      · rename_i te l hh hte hl hhb
        obtain ⟨infe, de, ze, hinfe, hde, hze, hse, _, _, _, hdde⟩ := ti_spec hte
        split at h
        · rename_i hb
          cases hx with
          | l hx =>
            cases hx with
            | ms hx h1 h2 =>
              rename_i b sz cr cap
              have hrun := run_slice_of (P := P) (w := w) hd hinfe (a := some ⟨b, off * sz, none⟩) (len := len) (cap := cap) (bound_spec (P := P) nlo hlo hl) (bound_spec (P := P) nhi hhi hhb) hb.1 (by omega)
              refine ⟨_, hrun, ?_⟩
              split at h
              · rename_i hl0
                subst hl0
                simp only [Option.some.injEq] at h
                subst h
                simp only [Nat.zero_mul, Nat.sub_zero, Option.map_some, addr_add, Nat.add_zero, ite_self]
                exact .l (.ms hx (by omega) h2)
              · split at h
                · rename_i hlh
                  simp only [Option.some.injEq] at h
                  subst h
                  subst hlh
                  rw [Nat.sub_self]
                  exact .l .sl0
                · split at h
                  · rename_i T rows keep hM
                    split at h
                    · rename_i hT
                      subst hT
                      simp only [Option.some.injEq] at h
                      subst h
                      obtain ⟨b', sz', cr', cur, g1, g2, g3, g4, g5, g6, g7, g8, g9⟩ := hR.blk id _ hM
                      rw [hx, Option.some.injEq, Prod.mk.injEq, Prod.mk.injEq] at g1
                      obtain ⟨rfl, rfl, rfl⟩ := g1
                      have hsz : sz = infe.size := by rw [g9, hP]; simp [szOf, hinfe]
                      rw [if_neg (by omega)]
                      simp only [Option.map_some, addr_add]
                      rw [← hsz, ← Nat.add_mul]
                      exact .l (.ms hx (by omega) (by omega))
                    · cases h
                  · cases h
        · cases h
      · cases h
    · rename_i s he
      have := tdOf_string he
      subst this
      have := nmx.1 rfl
      subst this
      split at h
      · rename_i l hh hl hhb
        split at h
        · rename_i hb
          simp only [Option.some.injEq] at h
          subst h
          have := conc_str hx
          subst this
          refine ⟨.string (s.extract l hh), ?_, .l (.str _)⟩
          simp [Instr.sliceAt, Instr.slice, run_underlying hd, run_bounds (P := P) (w := w) (isSlice := false) (len := s.size) (cap := s.size) (bound_spec (P := P) nlo hlo hl) (bound_spec (P := P) nhi hhi hhb) hb.1 hb.2]
        · cases h
      · cases h
    · cases h
  · cases h

end Go.X
set_option linter.unusedVariables false
set_option linter.unusedSimpArgs false
set_option linter.unusedSectionVars false
set_option maxRecDepth 100000
namespace Go.X
open Go.RowKit

/-- A new id is given: none of the live ones stands at it or above. -/
def newK (M : Mem) (K : Nat → Prop) : Prop := ∀ id, (∀ j, id ≤ j → M j = none) → K id
theorem newK_pick {g : Gh} {M : Mem} {w : World} (hR : Rel g M w) {K : Nat → Prop} (h : newK M K) : ∃ id, g.blk id = none ∧ M id = none ∧ ¬ g.res id ∧ K id := by
  obtain ⟨n, hn⟩ := hR.fin
  exact ⟨n, (hn n (Nat.le_refl _)).1, (hn n (Nat.le_refl _)).2.1, (hn n (Nat.le_refl _)).2.2, h n fun j hj => (hn j hj).2.1⟩

/-! ### one row: a box -/
theorem rowsAt_one {g : Gh} {w : World} {cs : List Lf} {vs : List Value} (h : ConcL g w cs vs) : RowsAt g w [cs] cs.length vs.toArray := by
  refine ⟨fun r hr => by simp at hr; rw [hr], fun i j r x hr hx => ?_⟩
  cases i with
  | zero =>
    simp only [List.getElem?_cons_zero, Option.some.injEq] at hr
    subst hr
    obtain ⟨v, hv, hc⟩ := h.get hx
    exact ⟨v, by simpa using hv, hc⟩
  | succ i => simp at hr

theorem rel_box {g : Gh} {M : Mem} {w : World} (hR : Rel g M w) {id : Nat} (hg : g.blk id = none) (hM : M id = none) (hr0 : ¬ g.res id) (T : TypeId) {cs : List Lf} {vs : List Value} (h : ConcL g w cs vs) (hsz : cs.length = szOf g.P T) :
    Ev g w (g.put id (w.heap.size, cs.length, 1)) (w.alloc (.cells vs.toArray T (0, 0))) ∧ Rel (g.put id (w.heap.size, cs.length, 1)) (M.set id (.cells T [cs] 0)) (w.alloc (.cells vs.toArray T (0, 0))) ∧
    Conc (g.put id (w.heap.size, cs.length, 1)) (w.alloc (.cells vs.toArray T (0, 0))) (.ptr id 0 0) (.pointer (some ⟨w.heap.size, 0, none⟩)) := by
  obtain ⟨e, r⟩ := rel_new_cells hR hg hM hr0 (Grow1.alloc w (.cells vs.toArray T (0, 0))) [cs] cs.length 1 (by simp [h.1]) (by simp) (by simp [maxLen]) (rowsAt_one h) hsz
  refine ⟨e, r, ?_⟩
  have := Conc.ptr (w := w.alloc (.cells vs.toArray T (0, 0))) (r := 0) (c := 0) (Gh.put_same g id (w.heap.size, cs.length, 1))
  simpa using this

theorem run_alloc' {P : Program} {T : TypeId} {i : TI} (hti : tiOf P T = some i) {cs : List Lf} (hz : avCells i.zero = some cs) (g : Gh) (w : World) :
    ∃ vs : List Value, ConcL g w cs vs ∧ (Instr.alloc T true (.tuple #[])).run P w = .ok (.pointer (some ⟨w.heap.size, 0, none⟩)) (w.alloc (.cells vs.toArray T (0, 0))) := by
  obtain ⟨inf, d, z, hinf, hd, hzz, hs, _, _, hza, _⟩ := ti_spec hti
  have hc := conc_absV g w z
  rw [← hza] at hc
  refine ⟨z.cells.toList, avCells_conc hc hz, ?_⟩
  simp [Instr.alloc, run_zeroValue' hinf hzz, newVar, newRow]

theorem run_box' {P : Program} (T : TypeId) (g : Gh) (w : World) (v : Value) :
    (Instr.box T v).run P w = .ok (.pointer (some ⟨w.heap.size, 0, none⟩)) (w.alloc (.cells v.cells.toList.toArray T (0, 0))) := by
  simp [Instr.box, newVar, newRow]

/-! ### the source of an append -/
def srcRows (P : Program) (M : Mem) (t tx e : TypeId) (te : TI) (x : AV) : Option (List (List Lf)) :=
  if t = tx then
    match x with
    | .l (.sl rows) => if ∀ r ∈ rows, r.length = te.size then some rows else none
    | .l .nils => some []
    | .l (.ms id off len) => match M id with
      | some (.cells T rows _) => if T = e ∧ off + len ≤ rows.length then some ((rows.drop off).take len) else none
      | _ => none
    | _ => none
  else match tiOf P tx, x with
    | some tj, .l (.str s) => match tj.d with
      | .string => if te.size = 1 then some (s.data.toList.map fun b => [.int .u8 b.toNat]) else none
      | _ => none
    | _, _ => none

theorem flat_get {α : Type} {rows : List (List α)} {sz : Nat} (h : ∀ r ∈ rows, r.length = sz) : ∀ (i j : Nat) (r : List α), rows[i]? = some r → j < sz → rows.flatten[i * sz + j]? = r[j]? := by
  induction rows with
  | nil => intro i j r hr; simp at hr
  | cons r0 rows ih =>
    intro i j r hr hj
    have h0 : r0.length = sz := h r0 (by simp)
    cases i with
    | zero =>
      simp only [List.getElem?_cons_zero, Option.some.injEq] at hr
      subst hr
      rw [List.flatten_cons, List.getElem?_append_left (by omega)]
      simp
    | succ i =>
      have := ih (fun r hr => h r (by simp [hr])) i j r (by simpa using hr) hj
      rw [List.flatten_cons, List.getElem?_append_right (by rw [h0, Nat.add_mul, Nat.one_mul]; omega), h0, Nat.add_mul, Nat.one_mul]
      rw [show i * sz + sz + j - sz = i * sz + j by omega]
      exact this
theorem flat_len {α : Type} {rows : List (List α)} {sz : Nat} (h : ∀ r ∈ rows, r.length = sz) : rows.flatten.length = rows.length * sz := by
  induction rows with
  | nil => simp
  | cons r0 rows ih => simp [ih (fun r hr => h r (by simp [hr])), h r0 (by simp), Nat.add_mul]; omega

theorem rowsAt_flat {g : Gh} {w : World} {rows : List (List Lf)} {sz : Nat} (hs : ∀ r ∈ rows, r.length = sz) {vs rest : List Value} (h : ConcL g w rows.flatten vs) : RowsAt g w rows sz (vs ++ rest).toArray := by
  refine ⟨hs, fun i j r x hr hx => ?_⟩
  have hj : j < sz := by rw [← hs r (List.mem_of_getElem? hr)]; exact (List.getElem?_eq_some_iff.1 hx).1
  have := flat_get hs i j r hr hj
  rw [hx] at this
  obtain ⟨v, hv, hc⟩ := h.get this
  refine ⟨v, ?_, hc⟩
  have hlt := (List.getElem?_eq_some_iff.1 hv).1
  simp only [List.getElem?_toArray]
  rw [List.getElem?_append_left hlt]
  exact hv

/-- The cells of a slice that can be read. -/
theorem conc_sl_cells {g : Gh} {w : World} {rows : List (List Lf)} {b o len cap sz : Nat} (hc : Conc g w (.sl rows) (.slice (some ⟨b, o, none⟩) len cap)) (hs : ∀ r ∈ rows, r.length = sz) : CellsAt g w b o rows.flatten := by
  cases hc with
  | sl0 => exact ⟨[], ⟨rfl, fun i x v hx => by simp at hx⟩, fun j v hj => by simp at hj⟩
  | sl cs hsz hcap h hcc =>
    rename_i sz'
    by_cases hne : rows = []
    · subst hne
      exact ⟨[], ⟨rfl, fun i x v hx => by simp at hx⟩, fun j v hj => by simp at hj⟩
    · have hsz' : sz' = sz := by
        obtain ⟨r, hr⟩ := List.exists_mem_of_ne_nil rows hne
        exact (hsz r hr).symm.trans (hs r hr)
      subst hsz'
      have hfl := flat_len hs
      refine ⟨(List.range rows.flatten.length).map cs, ⟨by simp, fun k x v hx hv => ?_⟩, fun j v hj => ?_⟩
      · have hk := (List.getElem?_eq_some_iff.1 hx).1
        rw [List.getElem?_map, List.getElem?_range hk] at hv
        simp only [Option.map_some, Option.some.injEq] at hv
        subst hv
        rw [hfl] at hk
        have hpos : 0 < sz' := by
          rcases Nat.eq_zero_or_pos sz' with h0 | h0
          · subst h0; simp at hk
          · exact h0
        have hdm : k / sz' * sz' + k % sz' = k := by rw [Nat.mul_comm]; exact Nat.div_add_mod k sz'
        have hi : k / sz' < rows.length := (Nat.div_lt_iff_lt_mul hpos).2 hk
        have hj := Nat.mod_lt k hpos
        have hrow : rows[k / sz']? = some rows[k / sz'] := List.getElem?_eq_getElem hi
        have := flat_get hs (k / sz') (k % sz') _ hrow hj
        rw [hdm, hx] at this
        have hres := hcc (k / sz') (k % sz') _ x hrow this.symm
        rw [hdm] at hres
        exact hres
      · have hk : j < rows.flatten.length := by
          have := (List.getElem?_eq_some_iff.1 hj).1
          simpa using this
        rw [List.getElem?_map, List.getElem?_range hk] at hj
        simp only [Option.map_some, Option.some.injEq] at hj
        subst hj
        rw [hfl] at hk
        exact (h j hk).2

theorem cells_of_ms {g : Gh} {M : Mem} {w : World} (hR : Rel g M w) {id off len T keep : Nat} {rows : List (List Lf)} (hM : M id = some (.cells T rows keep)) (hl : off + len ≤ rows.length)
    {b cr : Nat} {sz' : Nat} (hx : g.blk id = some (b, sz', cr)) : CellsAt g w b (off * sz') ((rows.drop off).take len).flatten := by
  obtain ⟨b', sz'', cr', cur, g1, g2, g3, g4, g5, g6, g7, g8, g9⟩ := hR.blk id _ hM
  rw [hx, Option.some.injEq, Prod.mk.injEq, Prod.mk.injEq] at g1
  obtain ⟨rfl, rfl, rfl⟩ := g1
  have hs' : ∀ r ∈ (rows.drop off).take len, r.length = sz' := fun r hr => g6.1 r (List.mem_of_mem_drop (List.mem_of_mem_take hr))
  have hfl := flat_len hs'
  have hlen : ((rows.drop off).take len).length = len := by simp; omega
  rw [hlen] at hfl
  have hb : (off + len) * sz' ≤ cur.size := by rw [g4]; exact Nat.mul_le_mul_right _ (by omega)
  rw [Nat.add_mul] at hb
  refine ⟨(cur.toList.drop (off * sz')).take (len * sz'), ⟨by simp [hfl]; omega, fun k x v hx hv => ?_⟩, fun j v hj => ?_⟩
  · have hk := (List.getElem?_eq_some_iff.1 hx).1
    rw [hfl] at hk
    rw [List.getElem?_take, if_pos hk, List.getElem?_drop] at hv
    have hpos : 0 < sz' := by
      rcases Nat.eq_zero_or_pos sz' with h0 | h0
      · subst h0; simp at hk
      · exact h0
    have hdm : k / sz' * sz' + k % sz' = k := by rw [Nat.mul_comm]; exact Nat.div_add_mod k sz'
    have hi : k / sz' < len := (Nat.div_lt_iff_lt_mul hpos).2 hk
    have hj := Nat.mod_lt k hpos
    have hrow : ((rows.drop off).take len)[k / sz']? = some ((rows.drop off).take len)[k / sz'] := List.getElem?_eq_getElem (by omega)
    have hfg := flat_get hs' (k / sz') (k % sz') _ hrow hj
    rw [hdm, hx] at hfg
    have hrow' : rows[off + k / sz']? = some ((rows.drop off).take len)[k / sz'] := by
      rw [← hrow, List.getElem?_take, if_pos hi, List.getElem?_drop]
    obtain ⟨u, hu, hcu⟩ := g6.2 _ _ _ x hrow' hfg.symm
    have hadd : (off + k / sz') * sz' + k % sz' = off * sz' + k := by rw [Nat.add_mul]; omega
    rw [hadd] at hu
    have : cur.toList[off * sz' + k]? = cur[off * sz' + k]? := by simp
    rw [this, hu, Option.some.injEq] at hv
    subst hv
    exact hcu
  · rw [List.getElem?_take] at hj
    split at hj
    · rw [List.getElem?_drop] at hj
      simp only [World.cell?, g3]
      simpa using hj
    · cases hj

theorem src_spec {P : Program} {g : Gh} {M : Mem} {w : World} (hP : g.P = P) (hR : Rel g M w) {t tx e : TypeId} {te : TI} (ht : P.underlying t = some (.slice e)) (hte : tiOf P e = some te) {inf : TypeInfo} (hi : P.info? e = some inf) {x : AV} {cx : Value} (hx : ConcA g w x cx) {rows : List (List Lf)}
    (h : srcRows P M t tx e te x = some rows) : ∃ news : List Value, Src P inf.size tx cx rows.length news w ∧ ConcL g w rows.flatten news ∧ ∀ r ∈ rows, r.length = inf.size := by
  obtain ⟨inf', d, z, hinf, hd, hz, hs, _, _, hza, _⟩ := ti_spec hte
  rw [hi, Option.some.injEq] at hinf
  subst hinf
  unfold srcRows at h
  split at h
  · rename_i heq
    subst heq
    have hempty : ∀ (a : Option Addr) (cap : Nat), Src P inf.size t (.slice a 0 cap) 0 [] w := fun a cap => by
      cases a with
      | none => exact Src.ofNil w ht cap
      | some a => exact Src.ofSlice w ht a 0 cap [] (by simp) (fun j u hu => by simp at hu) (fun u hu => by simp at hu)
    split at h
    · split at h
      · rename_i hr
        simp only [Option.some.injEq] at h
        subst h
        rename_i rows'
        cases hx with
        | l hx =>
          by_cases hne : rows' = []
          · subst hne
            obtain ⟨a, cap, rfl, _⟩ := conc_sl hx
            exact ⟨[], hempty a cap, ConcL.nil g w, fun r hr => by simp at hr⟩
          · obtain ⟨r0, hr0⟩ := List.exists_mem_of_ne_nil rows' hne
            obtain ⟨k, hk, hk'⟩ := List.getElem_of_mem hr0
            obtain ⟨b, o, cap, rfl, _, _⟩ := conc_sl_row hx (List.getElem?_eq_getElem hk)
            have hrs : ∀ r ∈ rows', r.length = inf.size := fun r hr' => (hr r hr').trans hs
            obtain ⟨vs, hv, hcell⟩ := conc_sl_cells hx hrs
            refine ⟨vs, Src.ofSlice w ht ⟨b, o, none⟩ _ cap vs (by rw [← hv.1, flat_len hrs]) (fun j u hu => by rw [addr_add]; exact hcell j u hu) hv.one, hv, hrs⟩
      · cases h
    · simp only [Option.some.injEq] at h
      subst h
      cases hx with
      | l hx =>
        cases hx with
        | nils => exact ⟨[], hempty _ 0, ConcL.nil g w, fun r hr => by simp at hr⟩
    · rename_i id off len
      split at h
      · rename_i T rows' keep hM
        split at h
        · rename_i hc
          simp only [Option.some.injEq] at h
          subst h
          cases hx with
          | l hx =>
            cases hx with
            | ms hxb h1 h2 =>
              rename_i b sz cr cap
              obtain ⟨rfl, hc⟩ := hc
              obtain ⟨b', sz', cr', cur, g1, g2, g3, g4, g5, g6, g7, g8, g9⟩ := hR.blk id _ hM
              have hrs : ∀ r ∈ rows', r.length = inf.size := fun r hr' => by rw [g6.1 r hr', g9, hP]; simp [szOf, hi]
              have hrs' : ∀ r ∈ (rows'.drop off).take len, r.length = inf.size := fun r hr => hrs r (List.mem_of_mem_drop (List.mem_of_mem_take hr))
              obtain ⟨vs, hv, hcell⟩ := cells_of_ms hR hM hc hxb
              have hlen : ((rows'.drop off).take len).length = len := by simp; omega
              refine ⟨vs, ?_, hv, hrs'⟩
              rw [hlen]
              exact Src.ofSlice w ht ⟨b, off * sz, none⟩ len cap vs (by rw [← hv.1, flat_len hrs', hlen]) (fun j u hu => by rw [addr_add]; exact hcell j u hu) hv.one
        · cases h
      · cases h
    · cases h
  · split at h
    · rename_i tj s htj
      split at h
      · rename_i hstr
        split at h
        · rename_i hone
          simp only [Option.some.injEq] at h
          subst h
          obtain ⟨infj, dj, zj, hinfj, hdj, hzj, _, _, _, _, hddj⟩ := ti_spec htj
          rw [hddj] at hstr
          have := tdOf_string hstr
          subst this
          have := conc_str hx
          subst this
          have h1 : inf.size = 1 := by rw [← hs]; exact hone
          refine ⟨byteCells s, ?_, ⟨?_, fun k x v hk hv => ?_⟩, fun r hr => ?_⟩
          · rw [h1, List.length_map, Array.length_toList]
            exact Src.ofString w hdj s
          · simp only [byteCells, List.length_map]
            rw [flat_len (sz := 1) (fun r hr => by obtain ⟨_, _, rfl⟩ := List.mem_map.1 hr; rfl)]
            simp
          · have hk1 : ∀ (l : List UInt8) (k : Nat) (x : Lf) (v : Value), (l.map fun b => [Lf.int .u8 b.toNat]).flatten[k]? = some x → (l.map fun b => Value.int .u8 b.toNat)[k]? = some v → Conc g w x v := by
              intro l
              induction l with
              | nil => intro k x v hk; simp at hk
              | cons b l ih =>
                intro k x v hk hv
                cases k with
                | zero => simp at hk hv; subst hk; subst hv; exact .int _ _
                | succ k => exact ih k x v (by simpa using hk) (by simpa using hv)
            exact hk1 s.data.toList k x v hk hv
          · obtain ⟨_, _, rfl⟩ := List.mem_map.1 hr
            simp [h1]
        · cases h
      · cases h
    · cases h

end Go.X
set_option linter.unusedVariables false
set_option linter.unusedSimpArgs false
set_option linter.unusedSectionVars false
set_option maxRecDepth 100000
namespace Go.X
open Go.RowKit

/-! ### append -/
/-- The zero value of a type has as many cells as the type (looked up in the table). -/
def zeroFits (P : Program) (t : TypeId) : Bool :=
  match P.info? t with
  | some i => match i.zero with
    | some z => z.cells.size == i.size
    | none => false
  | none => false
theorem zeroFits_spec {P : Program} {t : TypeId} (h : zeroFits P t = true) {inf : TypeInfo} {z : Value} (hi : P.info? t = some inf) (hz : inf.zero = some z) : z.cells.size = inf.size := by
  unfold zeroFits at h
  rw [hi] at h
  simp only [hz] at h
  simpa using h

def appendG (N : (Nat → Prop) → Prop) (P : Program) (M : Mem) (t tx : TypeId) (s x : AV) (K : AV → Mem → Prop) : Prop :=
  match tiOf P t with
  | some ti => match ti.d with
    | .slice e => match tiOf P e with
      | some te => zeroFits P e = true ∧ optK (srcRows P M t tx e te x) fun src =>
        match s with
        | .l .nils => 0 < te.size ∧ (src = [] → K (.l .nils) M) ∧ (src ≠ [] → src.length * te.bytes ≤ 140737488355328 ∧ src.length ≤ 140737488355328 ∧ N fun id' => K (.l (.ms id' 0 src.length)) (M.set id' (.cells e src 0)))
        | .l (.ms id 0 len) => match M id with
          | some (.cells T rows keep) => 0 < te.size ∧ T = e ∧ len ≤ rows.length ∧ keep ≤ len ∧ (len + src.length) * te.bytes ≤ 140737488355328 ∧ (len + src.length) ≤ 140737488355328 ∧
            N fun id' => K (.l (.ms id' 0 (len + src.length))) ((M.del id).set id' (.cells e (rows.take len ++ src) keep))
          | _ => False
        | _ => False
      | none => False
    | _ => False
  | none => False
theorem zeroCells_size (z : Array Value) (n : Nat) : (Builtin.zeroCells z n).size = n * z.size := by simp [Builtin.zeroCells]

theorem rel_del {g : Gh} {M : Mem} {w : World} (h : Rel g M w) (id : Nat) : Rel g (M.del id) w := h.le fun i b hb => by
  rw [Mem.del_app] at hb
  split at hb
  · cases hb
  · exact hb

/-- A live block gets another name (the old one is dead). -/
theorem rel_rename {g : Gh} {M : Mem} {w : World} (h : Rel g M w) {id id' : Nat} (hg : g.blk id' = none) (hM : M id' = none) (hr0 : ¬ g.res id') {x : Nat × Nat × Nat} (hx : g.blk id = some x) {blk : Blk} (hb : M id = some blk) :
    Ev g w (g.put id' x) w ∧ Rel (g.put id' x) ((M.del id).set id' blk) w := by
  have hne : id ≠ id' := fun e => by subst e; rw [hg] at hx; cases hx
  have e : Ev g w (g.put id' x) w := ⟨rfl, rfl, fun i y hy => by
    by_cases hi : id' = i
    · subst hi; rw [hg] at hy; cases hy
    · rw [Gh.put_other _ _ _ _ hi]; exact hy, fun _ _ hf => hf, fun _ _ _ => rfl, rfl, fun i hr hb' => by
    have hi : id' ≠ i := fun e => hr0 (e ▸ hr)
    rw [Gh.put_other _ _ _ _ hi]; exact hb'⟩
  refine ⟨e, ?_⟩
  exact {
    blk := fun i b hb' => by
      rw [Mem.set_app] at hb'
      by_cases hi : id' = i
      · subst hi
        rw [if_pos rfl, Option.some.injEq] at hb'
        subst hb'
        have hold := h.blk id blk hb
        cases blk with
        | cells T rows keep =>
          obtain ⟨b, sz, cr, cur, h1, h2, h3, h4, h5, h6, h7, h8, h9⟩ := hold
          rw [hx, Option.some.injEq] at h1
          exact ⟨b, sz, cr, cur, by rw [Gh.put_same, h1], h2, h3, h4, h5, h6.ev e, h7, h8, h9⟩
        | map es =>
          obtain ⟨b, sz, cr, ents, clock, h1, h2, h3, h4, h5⟩ := hold
          rw [hx, Option.some.injEq] at h1
          exact ⟨b, sz, cr, ents, clock, by rw [Gh.put_same, h1], h2, h3, h4, fun i p en a b => ⟨(h5 i p en a b).1.ev e, (h5 i p en a b).2.ev e⟩⟩
      · rw [if_neg hi, Mem.del_app] at hb'
        split at hb'
        · cases hb'
        · exact (h.blk i b hb').ev e (fun _ _ => rfl) (fun _ _ _ ho => ho)
    inj := fun i j bi bj hi hj y z hy hz hyz => by
      rw [Mem.set_app] at hi hj
      have look : ∀ k bk y, (if id' = k then some blk else (M.del id) k) = some bk → (g.put id' x).blk k = some y → (id' = k ∧ y = x) ∨ (id' ≠ k ∧ id ≠ k ∧ M k = some bk ∧ g.blk k = some y) := fun k bk y hk hy => by
        by_cases h1 : id' = k
        · subst h1
          rw [Gh.put_same, Option.some.injEq] at hy
          exact .inl ⟨rfl, hy.symm⟩
        · rw [if_neg h1, Mem.del_app] at hk
          rw [Gh.put_other _ _ _ _ h1] at hy
          split at hk
          · cases hk
          · rename_i h2
            exact .inr ⟨h1, h2, hk, hy⟩
      rcases look i bi y hi hy with ⟨rfl, rfl⟩ | ⟨h1, h2, h3, h4⟩ <;> rcases look j bj z hj hz with ⟨rfl, rfl⟩ | ⟨k1, k2, k3, k4⟩
      · rfl
      · exact absurd (h.inj id j _ _ hb k3 _ _ hx k4 hyz) k2
      · exact absurd (h.inj id i _ _ hb h3 _ _ hx h4 hyz.symm) h2
      · exact h.inj i j _ _ h3 k3 _ _ h4 k4 hyz
    lt := fun i y hy => by
      by_cases hi : id' = i
      · subst hi; rw [Gh.put_same, Option.some.injEq] at hy; subst hy; exact h.lt _ _ hx
      · rw [Gh.put_other _ _ _ _ hi] at hy; exact h.lt _ _ hy
    fz := h.fz
    fin := fin_set (rel_del h id) id' x blk
    below := h.below
    tab := h.tab }

theorem run_append_room' {P : Program} {w : World} (t tx ty e : TypeId) (i : TypeInfo) (ht : P.underlying t = some (.slice e)) (hi : P.info? e = some i) (b sLen sCap : Nat) (x : Value) (n : Nat) (news : List Value) (hs : Src P i.size tx x n news w)
    {cur : Array Value} {T : TypeId} (hb : w.heap[b]? = some (.cells cur T (0, 0))) (hroom : sLen + n ≤ sCap) (hfit : sLen * i.size + news.length ≤ cur.size) :
    (Builtin.append_ #[t, tx] ty #[.slice (some ⟨b, 0, none⟩) sLen sCap, x]).run P w =
      .ok (.slice (some ⟨b, 0, none⟩) (sLen + n) sCap) (w.setRow b (cur.toList.take (sLen * i.size) ++ news ++ cur.toList.drop (sLen * i.size + news.length)).toArray) := by
  have hst := run_storeCells_at P b (sLen * i.size) T news 0 cur w hb (by simpa using hfit) hs.one
  simp only [Nat.add_zero] at hst
  rcases hs.kind with ⟨e', hk⟩ | hk <;> simp [Builtin.append_, run_underlying ht, run_underlying hk, sizeOf, typeInfo, hi, hs.len, hroom, hs.cells, addr_add, hst]

/-- What a call of a builtin, or another operation, comes to. -/
def Comes1 (P : Program) (s : Sem Value) (g : Gh) (w : World) (K : AV → Mem → Prop) : Prop :=
  ∃ c w' g' v M', s.run P w = .ok c w' ∧ K v M' ∧ Ev g w g' w' ∧ ConcA g' w' v c ∧ Rel g' M' w'

theorem zsize {P : Program} {e : TypeId} {inf : TypeInfo} {z : Value} (hi : P.info? e = some inf) (hz : inf.zero = some z) (hs : z.cells.size = inf.size) (n : Nat) : (Builtin.zeroCells z.cells n).size = n * inf.size := by
  rw [zeroCells_size, hs]

theorem run_appendG {P : Program} {g : Gh} {M : Mem} {w : World} (hP : g.P = P) (hR : Rel g M w) {t tx ty : TypeId} {s x : AV} {cs cx : Value} (hs : ConcA g w s cs) (hx : ConcA g w x cx) {K : AV → Mem → Prop} {N : (Nat → Prop) → Prop} (hN : ∀ F : Nat → Prop, N F → ∃ id, g.blk id = none ∧ M id = none ∧ ¬ g.res id ∧ F id)
    (h : appendG N P M t tx s x K) : Comes1 P (Builtin.append_ #[t, tx] ty #[cs, cx]) g w K := by
  unfold appendG at h
  split at h
  · rename_i ti hti
    obtain ⟨inft, d, zt, hinft, hd, hzt, _, _, _, _, hdd⟩ := ti_spec hti
    split at h
    · rename_i e he
      rw [hdd] at he
      have := tdOf_slice he
      subst this
      split at h
      · rename_i te hte
        obtain ⟨inf, de, z, hinf, hde, hz, hsz, hby, _, hza, _⟩ := ti_spec hte
        obtain ⟨hzf', h⟩ := h
        have hzs := zeroFits_spec hzf' hinf hz
        unfold optK at h
        split at h
        · rename_i src hsrc
          obtain ⟨news, hS, hnews, hrs⟩ := src_spec hP hR hd hte hinf hx hsrc
          split at h
          · -- nil
            obtain ⟨hpos, h0, h1⟩ := h
            cases hs with
            | l hs =>
              cases hs with
              | nils =>
                rename_i a
                by_cases hne : src = []
                · subst hne
                  have hn0 : news = [] := List.eq_nil_of_length_eq_zero (by simpa using hS.newsLen)
                  subst hn0
                  refine ⟨_, w, g, _, M, ?_, h0 rfl, Ev.refl g w, .l (.nils (a := a)), hR⟩
                  have hS0 : Src P inf.size tx cx 0 [] w := by simpa using hS
                  rcases hS0.kind with ⟨e', hk⟩ | hk <;> cases a <;> simp [Builtin.append_, run_underlying hd, run_underlying hk, sizeOf, typeInfo, hinf, hS0.len, hS0.cells, storeCells]
                · obtain ⟨hb, hm, hK⟩ := h1 hne
                  obtain ⟨id', hg, hM, hr0, hK'⟩ := hN _ hK
                  have hlen : 0 < src.length := List.length_pos_iff.2 hne
                  have hbb : src.length * inf.bytes ≤ 140737488355328 := by rw [← hby]; exact hb
                  have hrun := run_append_grow_src (P := P) w t tx ty e inf z hd hinf hz a 0 0 [] (by cases a <;> simp [Builtin.firstCells, loadCells, loadCellsFrom]) cx src.length news hS (by omega) (by omega)
                    (growslice_fits (by omega) (by rw [Nat.zero_add]; exact hbb))
                  simp only [Nat.zero_add, List.nil_append] at hrun
                  have hcap := grownCap_ge w src.length 0 e
                  have hfl := flat_len hrs
                  obtain ⟨ev, rel⟩ := rel_new_cells hR hg hM hr0 (Grow1.drew_alloc w (.cells (news.toArray ++ Builtin.zeroCells z.cells (grownCap w src.length 0 e - src.length)) e (0, 0))) src inf.size (grownCap w src.length 0 e)
                    (by rw [Array.size_append, zsize hinf hz hzs, List.size_toArray, hS.newsLen, ← Nat.add_mul]; congr 1; omega) hcap (grownCap_le_maxLen w _ _ _ (by simp only [maxLen]; omega))
                    (by
                      have := rowsAt_flat hrs (rest := (Builtin.zeroCells z.cells (grownCap w src.length 0 e - src.length)).toList) hnews
                      have heq : (news ++ (Builtin.zeroCells z.cells (grownCap w src.length 0 e - src.length)).toList).toArray = news.toArray ++ Builtin.zeroCells z.cells (grownCap w src.length 0 e - src.length) := by
                        apply Array.ext'; simp
                      rw [heq] at this
                      exact this)
                    (by rw [hP]; simp [szOf, hinf])
                  refine ⟨_, _, _, _, _, hrun, hK', ev, .l ?_, rel⟩
                  have := Conc.ms (w := w.drew.alloc (.cells (news.toArray ++ Builtin.zeroCells z.cells (grownCap w src.length 0 e - src.length)) e (0, 0))) (off := 0) (len := src.length) (cap := grownCap w src.length 0 e) (Gh.put_same g id' (w.heap.size, inf.size, grownCap w src.length 0 e)) hcap (by omega)
                  simpa using this
          · -- own
            rename_i id len
            split at h
            · rename_i T rows keep hM
              obtain ⟨hpos, rfl, hlen, hkeep, hb, hm, hK⟩ := h
              obtain ⟨id', hg, hM', hr0, hK'⟩ := hN _ hK
              cases hs with
              | l hs =>
                cases hs with
                | ms hxb h1 h2 =>
                  rename_i b sz cr cap
                  obtain ⟨b', sz', cr', cur, g1, g2, g3, g4, g5, g6, g7, g8, g9⟩ := hR.blk id _ hM
                  have hszT : szOf g.P T = inf.size := by rw [hP]; simp [szOf, hinf]
                  rw [hxb, Option.some.injEq, Prod.mk.injEq, Prod.mk.injEq] at g1
                  obtain ⟨rfl, rfl, rfl⟩ := g1
                  have hbb : (len + src.length) * inf.bytes ≤ 140737488355328 := by rw [← hby]; exact hb
                  rw [hszT] at g9
                  subst g9
                  have hrs0 : ∀ r ∈ rows, r.length = inf.size := g6.1
                  have hrs1 : ∀ r ∈ rows.take len ++ src, r.length = inf.size := fun r hr => by
                    rcases List.mem_append.1 hr with hr | hr
                    · exact hrs0 r (List.mem_of_mem_take hr)
                    · exact hrs r hr
                  have hll : (rows.take len ++ src).length = len + src.length := by simp; omega
                  simp only [Nat.zero_mul] at *
                  by_cases hroom : len + src.length ≤ cap
                  · have hfit : len * inf.size + news.length ≤ cur.size := by rw [hS.newsLen, g4, ← Nat.add_mul]; exact Nat.mul_le_mul_right _ (by omega)
                    have hrun := run_append_room' (P := P) (w := w) t tx ty T inf hd hinf b len cap cx src.length news hS g3 hroom hfit
                    have hget : ∀ j, (cur.toList.take (len * inf.size) ++ news ++ cur.toList.drop (len * inf.size + news.length)).toArray[j]? = if len * inf.size ≤ j ∧ j < len * inf.size + news.length then news[j - len * inf.size]? else cur[j]? := fun j => by
                      have := seg_get cur.toList news (len * inf.size) (by simpa using hfit) j
                      simpa using this
                    obtain ⟨ev1, rel1⟩ := rel_wrote_cells hR hM hxb g3 (Wrote.setRow (cur' := (cur.toList.take (len * inf.size) ++ news ++ cur.toList.drop (len * inf.size + news.length)).toArray) g3)
                      (by rw [← g4]; simp only [List.size_toArray, List.length_append, List.length_take, List.length_drop, Array.length_toList]; omega) (rows' := rows.take len ++ src) (by rw [hll]; omega) g8
                      (fun o ho => by
                        rw [hget, if_neg]
                        have : keep * inf.size ≤ len * inf.size := Nat.mul_le_mul_right _ hkeep
                        omega)
                      ⟨hrs1, fun i j r x hr hx => by
                        have hj : j < inf.size := by rw [← hrs1 r (List.mem_of_getElem? hr)]; exact (List.getElem?_eq_some_iff.1 hx).1
                        rw [hget]
                        by_cases hi : i < len
                        · rw [List.getElem?_append_left (by simp; omega), List.getElem?_take, if_pos hi] at hr
                          obtain ⟨u, hu, hcu⟩ := g6.2 i j r x hr hx
                          have : (i + 1) * inf.size ≤ len * inf.size := Nat.mul_le_mul_right _ hi
                          rw [Nat.add_mul] at this
                          rw [if_neg (by omega)]
                          exact ⟨u, hu, hcu⟩
                        · have htl : (rows.take len).length = len := by simp; omega
                          rw [List.getElem?_append_right (by omega), htl] at hr
                          have hk := (List.getElem?_eq_some_iff.1 hr).1
                          have hfg := flat_get hrs (i - len) j r hr hj
                          rw [hx] at hfg
                          obtain ⟨u, hu, hcu⟩ := hnews.get hfg
                          have hi' : (len + (i - len)) * inf.size = len * inf.size + (i - len) * inf.size := Nat.add_mul _ _ _
                          rw [show len + (i - len) = i by omega] at hi'
                          have hult := (List.getElem?_eq_some_iff.1 hu).1
                          rw [if_pos (by omega), show i * inf.size + j - len * inf.size = (i - len) * inf.size + j by omega]
                          exact ⟨u, hu, hcu⟩⟩ g7 hszT.symm
                    have hid : (M.set id (.cells T (rows.take len ++ src) keep)) id' = none := by
                      rw [Mem.set_app, if_neg]
                      · exact hM'
                      · intro he; subst he; rw [hM'] at hM; cases hM
                    have hidd : (M.set id (.cells T (rows.take len ++ src) keep)) id = some (.cells T (rows.take len ++ src) keep) := by rw [Mem.set_app, if_pos rfl]
                    obtain ⟨ev2, rel2⟩ := rel_rename rel1 hg hid hr0 hxb hidd
                    have hmem : ((M.set id (.cells T (rows.take len ++ src) keep)).del id).set id' (.cells T (rows.take len ++ src) keep) = (M.del id).set id' (.cells T (rows.take len ++ src) keep) := by
                      funext k
                      simp only [Mem.set_app, Mem.del_app]
                      split
                      · rfl
                      · split <;> rfl
                    rw [hmem] at rel2
                    refine ⟨_, _, _, _, _, hrun, hK', ev1.trans ev2, .l ?_, rel2⟩
                    have := Conc.ms (w := w.setRow b (cur.toList.take (len * inf.size) ++ news ++ cur.toList.drop (len * inf.size + news.length)).toArray) (off := 0) (len := len + src.length) (cap := cap) (Gh.put_same g id' (b, inf.size, cr)) hroom h2
                    simpa using this
                  · have hM2 : (M.del id) id' = none := by
                      rw [Mem.del_app]; split
                      · rfl
                      · exact hM'
                    obtain ⟨vs, hv, hcell⟩ := cells_of_ms hR hM (off := 0) (len := len) (by omega) hxb
                    simp only [Nat.zero_mul, List.drop_zero] at hv hcell
                    have hvl : vs.length = len * inf.size := by
                      rw [← hv.1, flat_len (fun r hr => hrs0 r (List.mem_of_mem_take hr)), List.length_take, Nat.min_eq_left hlen]
                    have hrun := run_append_grow_src (P := P) w t tx ty T inf z hd hinf hz (some ⟨b, 0, none⟩) len cap vs
                      (run_firstCells_some w.drew inf.size len ⟨b, 0, none⟩ len cap vs hvl (fun j u hu => by rw [addr_add]; exact hcell j u hu)) cx src.length news hS (by omega) (by omega) (growslice_fits (by omega) hbb)
                    have hcap := grownCap_ge w (len + src.length) cap T
                    have hcl : ConcL g w (rows.take len ++ src).flatten (vs ++ news) := by rw [List.flatten_append]; exact hv.append hnews
                    obtain ⟨ev, rel⟩ := rel_new_cells (rel_del hR id) hg hM2 hr0 (Grow1.drew_alloc w (.cells ((vs ++ news).toArray ++ Builtin.zeroCells z.cells (grownCap w (len + src.length) cap T - (len + src.length))) T (0, 0))) (rows.take len ++ src) inf.size (grownCap w (len + src.length) cap T)
                      (by rw [Array.size_append, zsize hinf hz hzs, List.size_toArray, List.length_append, hvl, hS.newsLen, ← Nat.add_mul, ← Nat.add_mul]; congr 1; omega) (by rw [hll]; exact hcap) (grownCap_le_maxLen w _ _ _ (by simp only [maxLen]; omega))
                      (by
                        have := rowsAt_flat hrs1 (rest := (Builtin.zeroCells z.cells (grownCap w (len + src.length) cap T - (len + src.length))).toList) hcl
                        have heq : ((vs ++ news) ++ (Builtin.zeroCells z.cells (grownCap w (len + src.length) cap T - (len + src.length))).toList).toArray = (vs ++ news).toArray ++ Builtin.zeroCells z.cells (grownCap w (len + src.length) cap T - (len + src.length)) := by
                          apply Array.ext'; simp
                        rw [heq] at this
                        exact this) hszT.symm
                    obtain ⟨ev, rel⟩ : Ev g w (g.put id' (w.heap.size, inf.size, grownCap w (len + src.length) cap T)) (w.drew.alloc (.cells ((vs ++ news).toArray ++ Builtin.zeroCells z.cells (grownCap w (len + src.length) cap T - (len + src.length))) T (0, 0))) ∧
                        Rel (g.put id' (w.heap.size, inf.size, grownCap w (len + src.length) cap T)) ((M.del id).set id' (.cells T (rows.take len ++ src) keep)) (w.drew.alloc (.cells ((vs ++ news).toArray ++ Builtin.zeroCells z.cells (grownCap w (len + src.length) cap T - (len + src.length))) T (0, 0))) := by
                      refine ⟨ev, ?_⟩
                      exact {
                        blk := fun i bk hbk => by
                          rw [Mem.set_app] at hbk
                          by_cases hi : id' = i
                          · subst hi
                            rw [if_pos rfl, Option.some.injEq] at hbk
                            subst hbk
                            have := rel.blk id' (.cells T (rows.take len ++ src) 0) (by rw [Mem.set_app, if_pos rfl])
                            obtain ⟨b1, sz1, cr1, cur1, k1, k2, k3, k4, k5, k6, k7, k8, k9⟩ := this
                            exact ⟨b1, sz1, cr1, cur1, k1, k2, k3, k4, k5, k6, fun o ho => by have := k7 o ho; omega, k8, k9⟩
                          · rw [if_neg hi] at hbk
                            exact rel.blk i bk (by rw [Mem.set_app, if_neg hi]; exact hbk)
                        inj := fun i j bi bj hi hj => by
                          have key : ∀ k bk, (((M.del id).set id' (.cells T (rows.take len ++ src) keep)) k = some bk) → ∃ bk', ((M.del id).set id' (.cells T (rows.take len ++ src) 0)) k = some bk' := fun k bk hk => by
                            rw [Mem.set_app] at hk ⊢
                            by_cases hi : id' = k
                            · exact ⟨_, by rw [if_pos hi]⟩
                            · rw [if_neg hi] at hk
                              exact ⟨bk, by rw [if_neg hi]; exact hk⟩
                          obtain ⟨b1, h1⟩ := key i bi hi
                          obtain ⟨b2, h2⟩ := key j bj hj
                          exact rel.inj i j b1 b2 h1 h2
                        lt := rel.lt
                        fz := rel.fz
                        fin := by
                          obtain ⟨n, hn⟩ := rel.fin
                          refine ⟨n, fun i hi => ⟨(hn i hi).1, ?_, (hn i hi).2.2⟩⟩
                          have := (hn i hi).2.1
                          rw [Mem.set_app] at this ⊢
                          by_cases hii : id' = i
                          · rw [if_pos hii] at this; cases this
                          · rw [if_neg hii] at this ⊢; exact this
                        below := rel.below
                        tab := rel.tab }
                    refine ⟨_, _, _, _, _, hrun, hK', ev, .l ?_, rel⟩
                    have := Conc.ms (w := w.drew.alloc (.cells ((vs ++ news).toArray ++ Builtin.zeroCells z.cells (grownCap w (len + src.length) cap T - (len + src.length))) T (0, 0))) (off := 0) (len := len + src.length) (cap := grownCap w (len + src.length) cap T) (Gh.put_same g id' (w.heap.size, inf.size, grownCap w (len + src.length) cap T)) hcap (by omega)
                    simpa using this
            · exact h.elim
          · exact h.elim
        · exact h.elim
      · exact h.elim
    · exact h.elim
  · exact h.elim
end Go.X
set_option linter.unusedVariables false
set_option linter.unusedSimpArgs false
set_option linter.unusedSectionVars false
set_option maxRecDepth 100000
namespace Go.X
open Go.RowKit

/-! ### struct and slice literals -/
def fillA (place : Nat → Option (Nat × Nat)) (cells : List Lf) : List (Nat × AV) → Option (List Lf)
  | [] => some cells
  | (i, v) :: rest =>
    match place i, avCells v with
    | some (off, size), some vs => if vs.length = size ∧ off + vs.length ≤ cells.length then fillA place (overw cells off vs) rest else none
    | _, _ => none

theorem fillA_nil (place : Nat → Option (Nat × Nat)) (cells : List Lf) : fillA place cells [] = some cells := rfl
theorem fillA_cons (place : Nat → Option (Nat × Nat)) (cells : List Lf) (i : Nat) (v : AV) (rest : List (Nat × AV)) : fillA place cells ((i, v) :: rest) =
    match place i, avCells v with
    | some (off, size), some vs => if vs.length = size ∧ off + vs.length ≤ cells.length then fillA place (overw cells off vs) rest else none
    | _, _ => none := rfl

theorem foldl_set (vs : List Value) : ∀ (k off : Nat) (cs : Array Value), off + k + vs.length ≤ cs.size →
    ((vs.zipIdx k).foldl (fun cs (x : Value × Nat) => cs.setIfInBounds (off + x.2) x.1) cs).toList = cs.toList.take (off + k) ++ vs ++ cs.toList.drop (off + k + vs.length) := by
  induction vs with
  | nil => intro k off cs h; simp
  | cons v vs ih =>
    intro k off cs h
    simp only [List.zipIdx_cons, List.foldl_cons]
    rw [ih (k + 1) off _ (by simp at h ⊢; omega)]
    simp only [List.length_cons] at h
    rw [Array.toList_setIfInBounds]
    apply List.ext_getElem?
    intro j
    have h1 : off + k < cs.toList.length := by simp; omega
    have e1 := seg_get (cs.toList.set (off + k) v) vs (off + k + 1) (by simp; omega) j
    have e2 := seg_get cs.toList (v :: vs) (off + k) (by simp; omega) j
    simp only [List.length_cons] at e2 ⊢
    rw [show off + (k + 1) = off + k + 1 by omega, e1, e2]
    by_cases hj : j = off + k
    · subst hj
      rw [if_neg (by omega), if_pos (by omega), List.getElem?_set_self h1]
      simp
    · by_cases hj2 : off + k + 1 ≤ j ∧ j < off + k + 1 + vs.length
      · rw [if_pos hj2, if_pos (by omega), show j - (off + k) = (j - (off + k + 1)) + 1 by omega]
        simp
      · rw [if_neg hj2, if_neg (by omega), List.getElem?_set_ne (Ne.symm hj)]

theorem overw_length {xs vs : List Lf} {off : Nat} (h : off + vs.length ≤ xs.length) : (overw xs off vs).length = xs.length := by
  unfold overw; simp; omega

theorem concL_overw {g : Gh} {w : World} {xs vs : List Lf} {us ws : List Value} {off : Nat} (h : ConcL g w xs us) (h' : ConcL g w vs ws) (hb : off + vs.length ≤ xs.length) : ConcL g w (overw xs off vs) (us.take off ++ ws ++ us.drop (off + ws.length)) := by
  unfold overw
  have : vs.length = ws.length := h'.1
  rw [← this]
  exact ((h.take off).append h').append (h.drop (off + vs.length))

theorem fill_spec {g : Gh} {w : World} {place : Nat → Option (Nat × Nat)} : ∀ (parts : List (Nat × AV)) (cparts : List (Nat × Value)) (cells out : List Lf) (ccells : Array Value),
    parts.length = cparts.length → (∀ (k : Nat) (p : Nat × AV) (q : Nat × Value), parts[k]? = some p → cparts[k]? = some q → p.1 = q.1 ∧ ConcA g w p.2 q.2) → ConcL g w cells ccells.toList → fillA place cells parts = some out →
    ∃ cout : Array Value, Instr.fill place ccells cparts = some cout ∧ ConcL g w out cout.toList
  | [], [], cells, out, ccells, _, _, hc, h => by
    simp only [fillA, Option.some.injEq] at h
    subst h
    exact ⟨ccells, rfl, hc⟩
  | [], _ :: _, _, _, _, hl, _, _, _ => by simp at hl
  | _ :: _, [], _, _, _, hl, _, _, _ => by simp at hl
  | (i, v) :: parts, (i', v') :: cparts, cells, out, ccells, hl, hp, hc, h => by
    obtain ⟨hii, hv⟩ := hp 0 (i, v) (i', v') rfl rfl
    simp only at hii hv
    subst hii
    rw [fillA_cons] at h
    split at h
    · rename_i off size vs hpl hvs
      split at h
      · rename_i hb
        have hcl := avCells_conc hv hvs
        have hvl : v'.cells.toList.length = vs.length := hcl.1.symm
        have hvs' : v'.cells.size = vs.length := by rw [← hvl]; simp
        have hsz : cells.length = ccells.size := by rw [hc.1]; simp
        have hcond : ¬ (v'.cells.size ≠ size ∨ off + v'.cells.size > ccells.size) := by
          rw [hvs', ← hsz]; omega
        have hnew := concL_overw hc hcl hb.2
        have hfold := foldl_set v'.cells.toList 0 off ccells (by rw [hvl]; omega)
        simp only [Nat.add_zero] at hfold
        obtain ⟨cout, h1, h2⟩ := fill_spec parts cparts (overw cells off vs) out (v'.cells.toList.zipIdx.foldl (fun cs (x : Value × Nat) => cs.setIfInBounds (off + x.2) x.1) ccells) (by simpa using hl)
          (fun k p q a b => hp (k + 1) p q (by simpa using a) (by simpa using b)) (by rw [hfold]; exact hnew) h
        refine ⟨cout, ?_, h2⟩
        simp only [Instr.fill, hpl]
        rw [if_neg (by simpa using hcond)]
        rw [← h1]
        congr 1
        rw [← Array.foldl_toList]
        simp
      · cases h
    · cases h

def placesOf (P : Program) : List (Nat × Nat) → Option (List (Nat × Nat))
  | [] => some []
  | (off, t) :: rest => match tiOf P t, placesOf P rest with
    | some i, some r => some ((off, i.size) :: r)
    | _, _ => none

def buildA (P : Program) (t : TypeId) (parts : List (Nat × AV)) : Option AV :=
  match tiOf P t with
  | some ti => match avCells ti.zero, ti.d with
    | some z, .struct fs => match placesOf P fs with
      | some pl => (fillA (fun i => pl[i]?) z parts).map .agg
      | none => none
    | some z, .array _ e => match tiOf P e with
      | some te => (fillA (fun i => some (i * te.size, te.size)) z parts).map .agg
      | none => none
    | _, _ => none
  | none => none

theorem places_spec {P : Program} : ∀ (fields : List Field) (pl : List (Nat × Nat)), placesOf P (fields.map fun f => (f.offset, f.type)) = some pl → fields.mapM (fun f => (P.info? f.type).map fun i => (f.offset, i.size)) = some pl
  | [], pl, h => by simp [placesOf] at h; simp [h]
  | f :: fs, pl, h => by
    simp only [List.map_cons, placesOf] at h
    split at h
    · rename_i i r hti hr
      simp only [Option.some.injEq] at h
      subst h
      obtain ⟨inf, _, _, hinf, _, _, hs, _⟩ := ti_spec hti
      have ih := places_spec fs r hr
      simp [List.mapM_cons, hinf, ih, hs]
    · cases h

theorem run_buildA {P : Program} {g : Gh} {w : World} {t : TypeId} {parts : List (Nat × AV)} {cparts : Array (Nat × Value)} {v : AV} (hl : parts.length = cparts.toList.length)
    (hp : ∀ (k : Nat) (p : Nat × AV) (q : Nat × Value), parts[k]? = some p → cparts.toList[k]? = some q → p.1 = q.1 ∧ ConcA g w p.2 q.2) (h : buildA P t parts = some v) :
    ∃ c, (Instr.build t cparts).run P w = .ok c w ∧ ConcA g w v c := by
  unfold buildA at h
  split at h
  · rename_i ti hti
    obtain ⟨inf, d, z, hinf, hd, hz, hs, _, _, hza, hdd⟩ := ti_spec hti
    have hcz := conc_absV g w z
    rw [← hza] at hcz
    rw [hdd] at h
    split at h
    · rename_i zc fs hzc hfs
      obtain ⟨fields, rfl, rfl⟩ := tdOf_struct hfs
      split at h
      · rename_i pl hpl
        cases hf : fillA (fun i => pl[i]?) zc parts with
        | none => rw [hf] at h; cases h
        | some out =>
          rw [hf] at h
          simp only [Option.map_some, Option.some.injEq] at h
          subst h
          obtain ⟨cout, h1, h2⟩ := fill_spec parts cparts.toList zc out z.cells hl hp (avCells_conc hcz hzc) hf
          have hpm := places_spec fields.toList pl hpl
          have hbuilt : P.built t cparts.toList = some cout := by
            unfold Program.built
            simp only [hinf, hd, hz, hpm]
            rw [← h1]
            congr 1
            funext i
            simp
          refine ⟨.agg cout, run_build w t cparts cout hbuilt, ?_⟩
          have := ConcA.agg cout.toList h2
          simpa using this
      · cases h
    · rename_i zc n e hzc hfs
      have := tdOf_array hfs
      subst this
      split at h
      · rename_i te hte
        obtain ⟨infe, de, ze, hinfe, hde, hze, hse, _, _, _, _⟩ := ti_spec hte
        cases hf : fillA (fun i => some (i * te.size, te.size)) zc parts with
        | none => rw [hf] at h; cases h
        | some out =>
          rw [hf] at h
          simp only [Option.map_some, Option.some.injEq] at h
          subst h
          obtain ⟨cout, h1, h2⟩ := fill_spec parts cparts.toList zc out z.cells hl hp (avCells_conc hcz hzc) hf
          have hbuilt : P.built t cparts.toList = some cout := by
            unfold Program.built
            simp only [hinf, hd, hz, hinfe]
            rw [← h1, hse]
          refine ⟨.agg cout, run_build w t cparts cout hbuilt, ?_⟩
          have := ConcA.agg cout.toList h2
          simpa using this
      · cases h
    · cases h
  · cases h

/-- Rows out of the flat cells. -/
def chunk (sz : Nat) : Nat → List Lf → List (List Lf)
  | 0, _ => []
  | n + 1, xs => xs.take sz :: chunk sz n (xs.drop sz)
theorem chunk_zero (sz : Nat) (xs : List Lf) : chunk sz 0 xs = [] := rfl
theorem chunk_succ (sz n : Nat) (xs : List Lf) : chunk sz (n + 1) xs = xs.take sz :: chunk sz n (xs.drop sz) := rfl
theorem chunk_flat (sz : Nat) : ∀ (n : Nat) (xs : List Lf), xs.length = n * sz → (chunk sz n xs).flatten = xs ∧ (chunk sz n xs).length = n ∧ ∀ r ∈ chunk sz n xs, r.length = sz
  | 0, xs, h => by
    have : xs = [] := List.eq_nil_of_length_eq_zero (by simpa using h)
    subst this
    exact ⟨rfl, rfl, fun r hr => by simp [chunk] at hr⟩
  | n + 1, xs, h => by
    rw [Nat.add_mul, Nat.one_mul] at h
    obtain ⟨h1, h2, h3⟩ := chunk_flat sz n (xs.drop sz) (by simp; omega)
    refine ⟨by simp [chunk, h1], by simp [chunk, h2], fun r hr => ?_⟩
    simp only [chunk, List.mem_cons] at hr
    rcases hr with rfl | hr
    · simp; omega
    · exact h3 r hr

def buildSliceA (P : Program) (t : TypeId) (len : Nat) (parts : List (Nat × AV)) : Option (Nat × List (List Lf)) :=
  match tiOf P t with
  | some ti => match ti.d with
    | .slice e => match tiOf P e with
      | some te => match avCells te.zero with
        | some z => if 0 < te.size ∧ len * te.size ≤ 16777216 ∧ z.length = te.size then (fillA (fun i => some (i * te.size, te.size)) ((List.replicate len z).flatten) parts).map fun out => (e, chunk te.size len out) else none
        | none => none
      | none => none
    | _ => none
  | none => none

theorem fill_length {place : Nat → Option (Nat × Nat)} : ∀ (parts : List (Nat × AV)) (cells out : List Lf), fillA place cells parts = some out → out.length = cells.length
  | [], cells, out, h => by simp [fillA] at h; rw [h]
  | (i, v) :: parts, cells, out, h => by
    rw [fillA_cons] at h
    split at h
    · split at h
      · rename_i hb
        rw [fill_length parts _ out h, overw_length hb.2]
      · cases h
    · cases h

theorem rep_cells {g : Gh} {w : World} {z : List Lf} {zc : Array Value} (h : ConcL g w z zc.toList) (hpos : 0 < z.length) (n : Nat) : ConcL g w (List.replicate n z).flatten ((Array.range (n * z.length)).map (zc[· % zc.size]!)).toList := by
  have hsz : zc.size = z.length := by rw [h.1]; simp
  have hlen : (List.replicate n z).flatten.length = n * z.length := by rw [flat_len (sz := z.length) (fun r hr => by rw [List.eq_of_mem_replicate hr])]; simp
  refine ⟨by rw [hlen]; simp, fun k x v hx hv => ?_⟩
  have hk := (List.getElem?_eq_some_iff.1 hx).1
  rw [hlen] at hk
  have hj := Nat.mod_lt k hpos
  have hi : k / z.length < n := (Nat.div_lt_iff_lt_mul hpos).2 hk
  have hdm : k / z.length * z.length + k % z.length = k := by rw [Nat.mul_comm]; exact Nat.div_add_mod k z.length
  have hf := flat_get (rows := List.replicate n z) (sz := z.length) (fun r hr => by rw [List.eq_of_mem_replicate hr]) (k / z.length) (k % z.length) z (by rw [List.getElem?_replicate, if_pos hi]) hj
  rw [hdm, hx] at hf
  obtain ⟨u, hu, hcu⟩ := h.get hf.symm
  have hv' : v = zc[k % zc.size]! := by
    simp only [Array.toList_map, List.getElem?_map, Array.toList_range, List.getElem?_range hk, Option.map_some, Option.some.injEq] at hv
    exact hv.symm
  rw [hv', hsz]
  have : zc[k % z.length]? = some u := by simpa using hu
  rw [getElem!_def, this]
  exact hcu

theorem run_buildSliceA {P : Program} {g : Gh} {M : Mem} {w : World} (hP : g.P = P) (hR : Rel g M w) {t : TypeId} {len e : Nat} {parts : List (Nat × AV)} {cparts : Array (Nat × Value)} {rows : List (List Lf)} (hl : parts.length = cparts.toList.length)
    (hp : ∀ (k : Nat) (p : Nat × AV) (q : Nat × Value), parts[k]? = some p → cparts.toList[k]? = some q → p.1 = q.1 ∧ ConcA g w p.2 q.2) (h : buildSliceA P t len parts = some (e, rows)) {id : Nat} (hg : g.blk id = none) (hM : M id = none) (hr0 : ¬ g.res id) :
    ∃ c w' g', (Instr.buildSlice t len cparts).run P w = .ok c w' ∧ Ev g w g' w' ∧ Conc g' w' (.ms id 0 len) c ∧ Rel g' (M.set id (.cells e rows 0)) w' := by
  unfold buildSliceA at h
  split at h
  · rename_i ti hti
    obtain ⟨inf, d, z, hinf, hd, hz, hs, _, _, hza, hdd⟩ := ti_spec hti
    rw [hdd] at h
    split at h
    · rename_i e' he
      have := tdOf_slice he
      subst this
      split at h
      · rename_i te hte
        obtain ⟨infe, de, ze, hinfe, hde, hze, hse, _, _, hzea, _⟩ := ti_spec hte
        split at h
        · rename_i zc hzc
          split at h
          · rename_i hb
            cases hf : fillA (fun i => some (i * te.size, te.size)) ((List.replicate len zc).flatten) parts with
            | none => rw [hf] at h; cases h
            | some out =>
              rw [hf] at h
              simp only [Option.map_some, Option.some.injEq, Prod.mk.injEq] at h
              obtain ⟨rfl, rfl⟩ := h
              have hcz := conc_absV g w ze
              rw [← hzea] at hcz
              have hczl := avCells_conc hcz hzc
              have hrep := rep_cells hczl (by rw [hb.2.2]; exact hb.1) len
              obtain ⟨cout, h1, h2⟩ := fill_spec parts cparts.toList _ out _ hl hp hrep hf
              rw [hb.2.2, hse] at h1
              have hne : ¬ (len * infe.size > 2 ^ 24) := by rw [← hse]; omega
              have hzsz : ze.cells.size = infe.size := by rw [← hse, ← hb.2.2, hczl.1]; simp
              have hrun : (Instr.buildSlice t len cparts).run P w = .ok (.slice (some ⟨w.heap.size, 0, none⟩) len len) (w.alloc (.cells cout e' (0, 0))) := by
                by_cases h0 : len * infe.size = 0
                · have h1' : Instr.fill (fun i => some (i * infe.size, infe.size)) #[] cparts.toList = some cout := by
                    rw [h0, Array.range_zero', Array.map_empty] at h1
                    exact h1
                  have hr0 : Array.map (fun _ : Nat => (default : Value)) (Array.range 0) = #[] := by rw [Array.range_zero', Array.map_empty]
                  simp [hr0, Instr.buildSlice, run_underlying hd, run_sizeOf' hinfe, hne, h0, h1', newRow]
                · simp [Instr.buildSlice, run_underlying hd, run_sizeOf' hinfe, hne, h0, run_zeroValue' hinfe hze, h1, newRow]
              have hol : out.length = len * te.size := by
                rw [fill_length parts _ out hf, flat_len (sz := te.size) (fun r hr => by rw [List.eq_of_mem_replicate hr, hb.2.2])]
                simp
              obtain ⟨c1, c2, c3⟩ := chunk_flat te.size len out hol
              have hra := rowsAt_flat (g := g) (w := w) (rows := chunk te.size len out) (sz := te.size) c3 (vs := cout.toList) (rest := []) (by rw [c1]; exact h2)
              have hcs : cout.size = len * te.size := by rw [← hol, h2.1]; simp
              obtain ⟨ev, rel⟩ := rel_new_cells hR hg hM hr0 (Grow1.alloc w (.cells cout e' (0, 0))) (chunk te.size len out) te.size len hcs (by rw [c2]; exact Nat.le_refl _)
                (by have := Nat.le_mul_of_pos_right len hb.1; simp only [maxLen]; omega) (by simpa using hra) (by rw [hP, hse]; simp [szOf, hinfe])
              refine ⟨_, _, _, hrun, ev, ?_, rel⟩
              have := Conc.ms (w := w.alloc (.cells cout e' (0, 0))) (off := 0) (len := len) (cap := len) (Gh.put_same g id (w.heap.size, te.size, len)) (Nat.le_refl _) (by omega)
              simpa using this
          · cases h
        · cases h
      · cases h
    · cases h
  · cases h


/-! ### make([]T, n) -/
def makeSliceA (P : Program) (t : TypeId) (l c : AV) : Option (Nat × List (List Lf)) :=
  match l, c with
  | .l (.int _ n), .l (.int _ n') =>
    match tiOf P t with
    | some ti => match ti.d with
      | .slice e => match tiOf P e with
        | some te => match avCells te.zero with
          | some z => if 0 < te.size ∧ z.length = te.size ∧ n = n' ∧ 0 ≤ n ∧ (te.bytes : Int) * n ≤ 281474976710656 ∧ n ≤ 9223372036854775807 then some (e, List.replicate n.toNat z) else none
          | none => none
        | none => none
      | _ => none
    | none => none
  | _, _ => none

theorem run_makeSliceA {P : Program} {g : Gh} {M : Mem} {w : World} (hP : g.P = P) (hR : Rel g M w) {t e : TypeId} {l c : AV} {cl cc : Value} {rows : List (List Lf)} (hl : ConcA g w l cl) (hc : ConcA g w c cc)
    (h : makeSliceA P t l c = some (e, rows)) {id : Nat} (hg : g.blk id = none) (hM : M id = none) (hr0 : ¬ g.res id) :
    ∃ c w' g', (Instr.makeSlice t cl cc).run P w = .ok c w' ∧ Ev g w g' w' ∧ Conc g' w' (.ms id 0 rows.length) c ∧ Rel g' (M.set id (.cells e rows 0)) w' := by
  unfold makeSliceA at h
  split at h
  · rename_i k n k' n'
    have := conc_int hl
    subst this
    have := conc_int hc
    subst this
    split at h
    · rename_i ti hti
      obtain ⟨inf, d, z, hinf, hd, hz, hs, _, _, hza, hdd⟩ := ti_spec hti
      rw [hdd] at h
      split at h
      · rename_i e' he
        have := tdOf_slice he
        subst this
        split at h
        · rename_i te hte
          obtain ⟨infe, de, ze, hinfe, hde, hze, hse, hbe, _, hzea, _⟩ := ti_spec hte
          split at h
          · rename_i zc hzc
            split at h
            · rename_i hb
              obtain ⟨hpos, hzl, rfl, hn0, hby, hmx⟩ := hb
              simp only [Option.some.injEq, Prod.mk.injEq] at h
              obtain ⟨rfl, rfl⟩ := h
              have hcz := conc_absV g w ze
              rw [← hzea] at hcz
              have hczl := avCells_conc hcz hzc
              have hrep := rep_cells hczl (by omega) n.toNat
              rw [hzl, hse] at hrep
              have hrun := run_make (P := P) w t e' infe ze hd hinfe hze k k' n n hn0 (by omega) (by rw [← hbe]; exact hby) hmx
              have hrsz : ∀ r ∈ List.replicate n.toNat zc, r.length = te.size := fun r hr => by rw [List.eq_of_mem_replicate hr, hzl]
              have hra := rowsAt_flat (g := g) (w := w) hrsz (vs := (madeCells ze.cells (n.toNat * infe.size)).toList) (rest := []) hrep
              obtain ⟨ev, rel⟩ := rel_new_cells hR hg hM hr0 (Grow1.alloc w (.cells (madeCells ze.cells (n.toNat * infe.size)) e' (0, 0))) (List.replicate n.toNat zc) te.size n.toNat (by rw [size_madeCells, hse]) (by simp)
                (by simp only [maxLen]; omega) (by simpa using hra) (by rw [hP, hse]; simp [szOf, hinfe])
              refine ⟨_, _, _, hrun, ev, ?_, rel⟩
              have := Conc.ms (w := w.alloc (.cells (madeCells ze.cells (n.toNat * infe.size)) e' (0, 0))) (off := 0) (len := n.toNat) (cap := n.toNat) (Gh.put_same g id (w.heap.size, te.size, n.toNat)) (Nat.le_refl _) (by omega)
              simpa using this
            · cases h
          · cases h
        · cases h
      · cases h
    · cases h
  · cases h

/-! ### clear(s) -/
def clearA (P : Program) (M : Mem) (t : TypeId) (a : AV) : Option Mem :=
  match tiOf P t with
  | some ti => match ti.d, a with
    | .slice _, .l .nils => some M
    | .slice _, .l (.sl []) => some M
    | .slice e, .l (.ms id off len) => match tiOf P e, M id with
      | some te, some (.cells T rows keep) => match avCells te.zero with
        | some z => if T = e ∧ z.length = te.size ∧ 0 < te.size ∧ off + len ≤ rows.length ∧ keep ≤ off then some (M.set id (.cells T (rows.take off ++ List.replicate len z ++ rows.drop (off + len)) keep)) else none
        | none => none
      | _, _ => none
    | _, _ => none
  | none => none

theorem zeroCells_made (z : Array Value) (n : Nat) : Builtin.zeroCells z n = (Array.range (n * z.size)).map (z[· % z.size]!) := rfl

theorem run_clearA {P : Program} {g : Gh} {M M' : Mem} {w : World} (hP : g.P = P) (hR : Rel g M w) {t ty : TypeId} {a : AV} {ca : Value} (ha : ConcA g w a ca) (h : clearA P M t a = some M') :
    ∃ c w', (Builtin.clear_ #[t] ty #[ca]).run P w = .ok c w' ∧ Ev g w g w' ∧ Rel g M' w' := by
  unfold clearA at h
  split at h
  · rename_i ti hti
    obtain ⟨inf, d, z, hinf, hd, hz, hs, _, _, hza, hdd⟩ := ti_spec hti
    rw [hdd] at h
    split at h
    · rename_i e he
      have := tdOf_slice he
      subst this
      simp only [Option.some.injEq] at h
      subst h
      cases ha with
      | l ha =>
        cases ha with
        | nils =>
          rename_i ao
          exact ⟨.tuple #[], w, by cases ao <;> simp [Builtin.clear_, run_underlying hd], Ev.refl _ _, hR⟩
    · rename_i e he
      have := tdOf_slice he
      subst this
      simp only [Option.some.injEq] at h
      subst h
      cases ha with
      | l ha =>
        obtain ⟨ao, cap, rfl, _⟩ := conc_sl ha
        exact ⟨.tuple #[], w, by cases ao <;> simp [Builtin.clear_, run_underlying hd], Ev.refl _ _, hR⟩
    · rename_i e id off len he
      have := tdOf_slice he
      subst this
      split at h
      · rename_i te T rows keep hte hM
        obtain ⟨infe, de, ze, hinfe, hde, hze, hse, _, _, hzea, _⟩ := ti_spec hte
        split at h
        · rename_i zc hzc
          split at h
          · rename_i hb
            obtain ⟨rfl, hzl, hpos, hol, hkeep⟩ := hb
            simp only [Option.some.injEq] at h
            subst h
            cases ha with
            | l ha =>
              cases ha with
              | ms hx h1 h2 =>
                rename_i b sz cr cap
                obtain ⟨b', sz', cr', cur, g1, g2, g3, g4, g5, g6, g7, g8, g9⟩ := hR.blk id _ hM
                rw [hx, Option.some.injEq, Prod.mk.injEq, Prod.mk.injEq] at g1
                obtain ⟨rfl, rfl, rfl⟩ := g1
                have hsz : sz = infe.size := by rw [g9, hP]; simp [szOf, hinfe]
                subst hsz
                have hcz := conc_absV g w ze
                rw [← hzea] at hcz
                have hczl := avCells_conc hcz hzc
                have hzsz : ze.cells.size = infe.size := by rw [← hse, ← hzl, hczl.1]; simp
                have hrep := rep_cells hczl (by omega) len
                rw [hzl, hse] at hrep
                have hzz : Builtin.zeroCells ze.cells len = (Array.range (len * infe.size)).map (ze.cells[· % ze.cells.size]!) := by rw [zeroCells_made, hzsz]
                rw [← hzz] at hrep
                have hlenz : (Builtin.zeroCells ze.cells len).toList.length = len * infe.size := by simp [zeroCells_size, hzsz]
                have hb1 : (off + len) * infe.size ≤ cur.size := by rw [g4]; exact Nat.mul_le_mul_right _ (by omega)
                rw [Nat.add_mul] at hb1
                have hst := run_storeCells_at P b (off * infe.size) T (Builtin.zeroCells ze.cells len).toList 0 cur w g3 (by rw [hlenz]; omega) hrep.one
                simp only [Nat.add_zero] at hst
                have hget : ∀ j, (cur.toList.take (off * infe.size) ++ (Builtin.zeroCells ze.cells len).toList ++ cur.toList.drop (off * infe.size + (Builtin.zeroCells ze.cells len).toList.length)).toArray[j]? =
                    if off * infe.size ≤ j ∧ j < off * infe.size + len * infe.size then (Builtin.zeroCells ze.cells len).toList[j - off * infe.size]? else cur[j]? := fun j => by
                  have := seg_get cur.toList (Builtin.zeroCells ze.cells len).toList (off * infe.size) (by rw [hlenz]; simp; omega) j
                  rw [hlenz] at this
                  rw [hlenz]
                  simpa using this
                have hll : (rows.take off ++ List.replicate len zc ++ rows.drop (off + len)).length = rows.length := by simp; omega
                have hrows : ∀ r ∈ rows.take off ++ List.replicate len zc ++ rows.drop (off + len), r.length = infe.size := fun r hr => by
                  rcases List.mem_append.1 hr with hr | hr
                  · rcases List.mem_append.1 hr with hr | hr
                    · exact g6.1 r (List.mem_of_mem_take hr)
                    · rw [List.eq_of_mem_replicate hr, hzl, hse]
                  · exact g6.1 r (List.mem_of_mem_drop hr)
                obtain ⟨ev, rel⟩ := rel_wrote_cells hR hM hx g3 (Wrote.setRow (cur' := (cur.toList.take (off * infe.size) ++ (Builtin.zeroCells ze.cells len).toList ++ cur.toList.drop (off * infe.size + (Builtin.zeroCells ze.cells len).toList.length)).toArray) g3)
                  (by rw [← g4]; simp only [List.size_toArray, List.length_append, List.length_take, List.length_drop, Array.length_toList] at hlenz ⊢; omega)
                  (rows' := rows.take off ++ List.replicate len zc ++ rows.drop (off + len)) (by rw [hll]; exact g5) g8
                  (fun o ho => by
                    rw [hget, if_neg]
                    have : keep * infe.size ≤ off * infe.size := Nat.mul_le_mul_right _ hkeep
                    omega)
                  ⟨hrows, fun i j r x hr hx => by
                    have hj : j < infe.size := by rw [← hrows r (List.mem_of_getElem? hr)]; exact (List.getElem?_eq_some_iff.1 hx).1
                    have hseg := seg_get rows (List.replicate len zc) off (by simp; omega) i
                    simp only [List.length_replicate] at hseg
                    rw [hseg] at hr
                    rw [hget]
                    by_cases hin : off ≤ i ∧ i < off + len
                    · rw [if_pos hin, List.getElem?_replicate, if_pos (by omega), Option.some.injEq] at hr
                      subst hr
                      have hfg := flat_get (rows := List.replicate len zc) (sz := infe.size) (fun r hr => by rw [List.eq_of_mem_replicate hr, hzl, hse]) (i - off) j zc (by rw [List.getElem?_replicate, if_pos (by omega)]) hj
                      rw [hx] at hfg
                      obtain ⟨u, hu, hcu⟩ := hrep.get hfg
                      have e1 : i * infe.size = off * infe.size + (i - off) * infe.size := by rw [← Nat.add_mul]; congr 1; omega
                      have hult := (List.getElem?_eq_some_iff.1 hu).1
                      rw [hlenz] at hult
                      rw [if_pos (by omega), show i * infe.size + j - off * infe.size = (i - off) * infe.size + j by omega]
                      exact ⟨u, hu, hcu⟩
                    · rw [if_neg hin] at hr
                      obtain ⟨u, hu, hcu⟩ := g6.2 i j r x hr hx
                      rw [if_neg]
                      · exact ⟨u, hu, hcu⟩
                      · intro hc
                        rcases Nat.lt_or_ge i off with h | h
                        · have : (i + 1) * infe.size ≤ off * infe.size := Nat.mul_le_mul_right _ h
                          rw [Nat.add_mul] at this
                          omega
                        · have : (off + len) * infe.size ≤ i * infe.size := Nat.mul_le_mul_right _ (by omega)
                          rw [Nat.add_mul] at this
                          omega⟩ g7 (by rw [hP]; simp [szOf, hinfe])
                by_cases hl0 : len = 0
                · subst hl0
                  refine ⟨.tuple #[], w, by simp [Builtin.clear_, run_underlying hd], Ev.refl _ _, ?_⟩
                  have : M.set id (.cells T (rows.take off ++ List.replicate 0 zc ++ rows.drop (off + 0)) keep) = M := by
                    funext k
                    rw [Mem.set_app]
                    split
                    · rename_i he; subst he; rw [hM]; simp
                    · rfl
                  rw [this]
                  exact hR
                · refine ⟨.tuple #[], _, ?_, ev, rel⟩
                  obtain ⟨len', rfl⟩ : ∃ m, len = m + 1 := ⟨len - 1, by omega⟩
                  simp [Builtin.clear_, run_underlying hd, run_zeroValue' hinfe hze, hst]
          · cases h
        · cases h
      · cases h
    · cases h
  · cases h

/-! ### append of so many zeros to a slice that is nil -/
def appendZ (N : (Nat → Prop) → Prop) (P : Program) (M : Mem) (t tx : TypeId) (n : Int) (K : AV → Mem → Prop) : Prop :=
  match tiOf P t, tiOf P tx with
  | some ti, some tj => match ti.d, tj.d with
    | .slice e, .int _ => match tiOf P e with
      | some te => match avCells te.zero with
        | some z => zeroFits P e = true ∧ z.length = te.size ∧ 0 < te.size ∧ 0 < n ∧ n.toNat * te.bytes ≤ 140737488355328 ∧ n ≤ 140737488355328 ∧ N fun id => K (.l (.ms id 0 n.toNat)) (M.set id (.cells e (List.replicate n.toNat z) 0))
        | none => False
      | none => False
    | _, _ => False
  | _, _ => False
theorem run_append_zeros {P : Program} {w : World} (t tx ty e : TypeId) (k : IntKind) (i : TypeInfo) (z : Value) (ht : P.underlying t = some (.slice e)) (hx : P.underlying tx = some (.int k)) (hi : P.info? e = some i) (hz : i.zero = some z) (a : Option Addr) (m : Nat)
    (h0 : 0 < m) (hm : m ≤ 140737488355328) (hb : m * i.bytes ≤ 140737488355328) (hs : 0 < i.size) :
    (Builtin.append_ #[t, tx] ty #[.slice a 0 0, .int .i64 (m : Int)]).run P w =
      .ok (.slice (some ⟨w.heap.size, 0, none⟩) m (grownCap w m 0 e))
        (w.drew.alloc (.cells (Builtin.zeroCells z.cells m ++ Builtin.zeroCells z.cells (grownCap w m 0 e - m)) e)) := by
  have hw : IntKind.i64.wrap (m : Int) = (m : Int) := by rw [IntKind.wrap_i64]; omega
  have h1 : ¬ ((m : Int) < 0) := by omega
  have h2 : ¬ ((m : Int) * (i.bytes : Int) > 281474976710656) := by
    have : ((m * i.bytes : Nat) : Int) ≤ 140737488355328 := Int.ofNat_le.2 hb
    rw [Int.natCast_mul] at this
    omega
  have h2' : ¬ (281474976710656 < (m : Int) * (i.bytes : Int)) := h2
  have h3 : ¬ (m ≤ 0) := by omega
  have h3' : ¬ (m = 0) := by omega
  have h3'' : ¬ (i.size = 0) := by omega
  have h4 : ¬ (9223372036854775807 < (m : Int)) := by omega
  have h5 : ¬ (281474976710656 < Builtin.nextslicecap m 0 * i.bytes) := by
    have := growslice_fits (need := m) (old := 0) (bytes := i.bytes) (by omega) hb
    omega
  have h6 : m * i.size ≠ 0 := Nat.mul_ne_zero (by omega) (by omega)
  cases a <;>
    (simp [Builtin.append_, run_underlying ht, run_underlying hx, sizeOf, typeInfo, zeroValue, hi, hz, asInt, asIntOf, hw, h1, h2', h3, h3', h3'', h4, h5, Question.forced, Builtin.firstCells, loadCells, loadCellsFrom, newRow, grownCap]
     exact fun he => absurd he h6)

theorem run_appendZ {P : Program} {g : Gh} {M : Mem} {w : World} (hP : g.P = P) (hR : Rel g M w) {t tx ty : TypeId} {n : Int} {a : Option Addr} {K : AV → Mem → Prop} {N : (Nat → Prop) → Prop} (hN : ∀ F : Nat → Prop, N F → ∃ id, g.blk id = none ∧ M id = none ∧ ¬ g.res id ∧ F id)
    (h : appendZ N P M t tx n K) : Comes1 P (Builtin.append_ #[t, tx] ty #[.slice a 0 0, .int .i64 n]) g w K := by
  unfold appendZ at h
  split at h
  · rename_i ti tj hti htj
    obtain ⟨inft, d, zt, hinft, hd, hzt, _, _, _, _, hdd⟩ := ti_spec hti
    obtain ⟨infj, dj, zj, hinfj, hdj, hzj, _, _, _, _, hddj⟩ := ti_spec htj
    split at h
    · rename_i e k he hk
      rw [hdd] at he
      have := tdOf_slice he
      subst this
      rw [hddj] at hk
      have := tdOf_int hk
      subst this
      split at h
      · rename_i te hte
        obtain ⟨inf, de, z, hinf, hde, hz, hsz, hby, _, hza, _⟩ := ti_spec hte
        split at h
        · rename_i zc hzc
          obtain ⟨hzf', hzl, hpos, hn0, hb, hn, hK⟩ := h
          have hzs := zeroFits_spec hzf' hinf hz
          obtain ⟨id', hg, hM, hr0, hK'⟩ := hN _ hK
          obtain ⟨m, rfl⟩ := Int.eq_ofNat_of_zero_le (show 0 ≤ n by omega)
          simp only [Int.toNat_natCast] at hb hK'
          have hbb : m * inf.bytes ≤ 140737488355328 := by rw [← hby]; exact hb
          have hrun := run_append_zeros (w := w) t tx ty e k inf z hd hdj hinf hz a m (by omega) (by omega) hbb (by rw [← hsz]; exact hpos)
          have hc := conc_absV g w z
          rw [← hza] at hc
          have hcz := avCells_conc hc hzc
          have hrep := rep_cells hcz (by rw [hzl]; exact hpos) m
          have hzsz : z.cells.size = zc.length := by rw [hzs, hzl, hsz]
          have heqz : ((Array.range (m * zc.length)).map (z.cells[· % z.cells.size]!)) = Builtin.zeroCells z.cells m := by rw [zeroCells_made, hzsz]
          rw [heqz] at hrep
          have hrs : ∀ r ∈ List.replicate m zc, r.length = inf.size := fun r hr => by rw [List.eq_of_mem_replicate hr, hzl, hsz]
          have hcap := grownCap_ge w m 0 e
          obtain ⟨ev, rel⟩ := rel_new_cells hR hg hM hr0 (Grow1.drew_alloc w (.cells (Builtin.zeroCells z.cells m ++ Builtin.zeroCells z.cells (grownCap w m 0 e - m)) e (0, 0))) (List.replicate m zc) inf.size (grownCap w m 0 e)
            (by rw [Array.size_append, zsize hinf hz hzs, zsize hinf hz hzs, ← Nat.add_mul]; congr 1; omega) (by simpa using hcap) (grownCap_le_maxLen w _ _ _ (by simp only [maxLen]; omega))
            (by
              have := rowsAt_flat hrs (rest := (Builtin.zeroCells z.cells (grownCap w m 0 e - m)).toList) hrep
              have heq : ((Builtin.zeroCells z.cells m).toList ++ (Builtin.zeroCells z.cells (grownCap w m 0 e - m)).toList).toArray = Builtin.zeroCells z.cells m ++ Builtin.zeroCells z.cells (grownCap w m 0 e - m) := by
                apply Array.ext'; simp
              rw [heq] at this
              exact this)
            (by rw [hP]; simp [szOf, hinf])
          refine ⟨_, _, _, _, _, hrun, hK', ev, .l ?_, rel⟩
          have := Conc.ms (w := w.drew.alloc (.cells (Builtin.zeroCells z.cells m ++ Builtin.zeroCells z.cells (grownCap w m 0 e - m)) e (0, 0))) (off := 0) (len := m) (cap := grownCap w m 0 e) (Gh.put_same g id' (w.heap.size, inf.size, grownCap w m 0 e)) hcap (by omega)
          simpa using this
        · exact h.elim
      · exact h.elim
    · exact h.elim
  · exact h.elim
/-- append, of whatever kind. -/
def appendA (N : (Nat → Prop) → Prop) (P : Program) (M : Mem) (t tx : TypeId) (s x : AV) (K : AV → Mem → Prop) : Prop :=
  match s, x with
  | .l .nils, .l (.int .i64 n) => appendZ N P M t tx n K
  | s, x => appendG N P M t tx s x K
theorem appendA_ms (N : (Nat → Prop) → Prop) (P : Program) (M : Mem) (t tx : TypeId) (id off len : Nat) (x : AV) (K : AV → Mem → Prop) : appendA N P M t tx (.l (.ms id off len)) x K = appendG N P M t tx (.l (.ms id off len)) x K := by
  unfold appendA
  split
  · rename_i h; cases h
  · rfl
theorem run_appendA {P : Program} {g : Gh} {M : Mem} {w : World} (hP : g.P = P) (hR : Rel g M w) {t tx ty : TypeId} {s x : AV} {cs cx : Value} (hs : ConcA g w s cs) (hx : ConcA g w x cx) {K : AV → Mem → Prop} {N : (Nat → Prop) → Prop} (hN : ∀ F : Nat → Prop, N F → ∃ id, g.blk id = none ∧ M id = none ∧ ¬ g.res id ∧ F id)
    (h : appendA N P M t tx s x K) : Comes1 P (Builtin.append_ #[t, tx] ty #[cs, cx]) g w K := by
  unfold appendA at h
  split at h
  · cases hs with
    | l hs =>
      cases hs
      cases hx with
      | l hx =>
        cases hx
        exact run_appendZ hP hR hN h
  · exact run_appendG hP hR hs hx hN h

end Go.X
set_option linter.unusedVariables false
set_option linter.unusedSimpArgs false
set_option linter.unusedSectionVars false
set_option maxRecDepth 100000
namespace Go.X
open Go.RowKit

/-! ### operators -/
def unA (op : UnOp) (x : AV) : Option AV :=
  match op, x with
  | .not, .l (.bool b) => some (.l (.bool (!b)))
  | .neg, .l (.int k n) => some (.l (.int k (k.wrap (0 - n))))
  | _, _ => none

theorem run_unA {P : Program} {g : Gh} {w : World} {op : UnOp} {x v : AV} {cx : Value} (hx : ConcA g w x cx) (h : unA op x = some v) : ∃ c, (Op.unary op cx).run P w = .ok c w ∧ ConcA g w v c := by
  unfold unA at h
  split at h
  · simp only [Option.some.injEq] at h
    subst h
    have := conc_bool hx
    subst this
    exact ⟨_, rfl, .l (.bool _)⟩
  · simp only [Option.some.injEq] at h
    subst h
    have := conc_int hx
    subst this
    exact ⟨_, rfl, .l (.int _ _)⟩
  · cases h

def convA (P : Program) (s d : TypeId) (x : AV) : Option AV :=
  match tiOf P s, tiOf P d, x with
  | some _, some td, .l (.int _ n) => match td.d with
    | .int k => some (.l (.int k (k.wrap n)))
    | _ => none
  | some ts, some td, .l (.str b) => if ts.d = .string ∧ td.d = .string then some (.l (.str b)) else none
  | _, _, _ => none

theorem run_convA {P : Program} {g : Gh} {w : World} {s d : TypeId} {x v : AV} {cx : Value} (hx : ConcA g w x cx) (h : convA P s d x = some v) : ∃ c, (convert s d cx).run P w = .ok c w ∧ ConcA g w v c := by
  unfold convA at h
  split at h
  · rename_i ts td k n hts htd
    obtain ⟨_, ds, _, _, hds, _, _, _, _, _, _⟩ := ti_spec hts
    obtain ⟨_, dd, _, _, hdd, _, _, _, _, _, hd⟩ := ti_spec htd
    have := conc_int hx
    subst this
    split at h
    · rename_i k' hk'
      rw [hd] at hk'
      have := tdOf_int hk'
      subst this
      simp only [Option.some.injEq] at h
      subst h
      refine ⟨_, ?_, .l (.int _ _)⟩
      simp only [convert, Sem.run_bind, run_underlying hds, run_underlying hdd, Result.andThen_ok]
      cases ds <;> rfl
    · cases h
  · rename_i ts td b hts htd
    obtain ⟨_, ds, _, _, hds, _, _, _, _, _, hd1⟩ := ti_spec hts
    obtain ⟨_, dd, _, _, hdd, _, _, _, _, _, hd⟩ := ti_spec htd
    have := conc_str hx
    subst this
    split at h
    · rename_i hc
      simp only [Option.some.injEq] at h
      subst h
      rw [hd1, hd] at hc
      have h1 := tdOf_string hc.1
      have h2 := tdOf_string hc.2
      subst h1; subst h2
      refine ⟨.string b, ?_, .l (.str _)⟩
      simp [convert, run_underlying hds, run_underlying hdd]
    · cases h
  · cases h

/-- Rows that are bytes. -/
def bytesOf : List (List Lf) → Option (List UInt8)
  | [] => some []
  | [.int .u8 n] :: r => if 0 ≤ n ∧ n < 256 then (bytesOf r).map (UInt8.ofNat n.toNat :: ·) else none
  | _ => none
theorem bytesOf_get : ∀ {rows : List (List Lf)} {l : List UInt8}, bytesOf rows = some l → rows.length = l.length ∧ ∀ (j : Nat) (hj : j < l.length), rows[j]? = some [.int .u8 (l[j].toNat : Int)]
  | [], l, h => by
    simp only [bytesOf, Option.some.injEq] at h
    subst h
    exact ⟨rfl, fun j hj => absurd hj (by simp)⟩
  | row :: r, l, h => by
    unfold bytesOf at h
    split at h
    · rename_i e; cases e
    · rename_i n r' e
      cases e
      split at h
      · rename_i hn
        obtain ⟨l', hl', rfl⟩ := Option.map_eq_some_iff.1 h
        obtain ⟨h1, h2⟩ := bytesOf_get hl'
        refine ⟨by simp [h1], fun j hj => ?_⟩
        cases j with
        | zero =>
          simp only [List.getElem?_cons_zero, List.getElem_cons_zero, UInt8.toNat_ofNat']
          have : ((n.toNat % 2 ^ 8 : Nat) : Int) = n := by omega
          rw [this]
        | succ j =>
          simp only [List.getElem?_cons_succ, List.getElem_cons_succ]
          exact h2 j (by simpa using hj)
      · cases h
    · cases h
/-- A conversion, of bytes too. -/
def convM (P : Program) (M : Mem) (s d : TypeId) (x : AV) : Option AV :=
  match x with
  | .l (.ms id off len) => match tiOf P s, tiOf P d, M id with
    | some i, some j, some (.cells T rows _) => match i.d, j.d with
      | .slice e, .string => match tiOf P e with
        | some k => if k.d = .int .u8 ∧ k.size = 1 ∧ T = e ∧ off + len ≤ rows.length then (bytesOf ((rows.drop off).take len)).map fun l => .l (.str ⟨l.toArray⟩) else none
        | none => none
      | _, _ => none
    | _, _, _ => none
  | x => convA P s d x
theorem convM_of {P : Program} {M : Mem} {s d : TypeId} {x v : AV} (h : convA P s d x = some v) : convM P M s d x = some v := by
  unfold convM
  split
  · rename_i id off len
    unfold convA at h
    split at h
    · rename_i e; cases e
    · rename_i e; cases e
    · cases h
  · exact h
theorem run_convM {P : Program} {g : Gh} {M : Mem} {w : World} (hP : g.P = P) (hR : Rel g M w) {s d : TypeId} {x v : AV} {cx : Value} (hx : ConcA g w x cx) (h : convM P M s d x = some v) : ∃ c, (convert s d cx).run P w = .ok c w ∧ ConcA g w v c := by
  unfold convM at h
  split at h
  · rename_i id off len
    split at h
    · rename_i i j T rows kp hi hj hM
      split at h
      · rename_i e hie hje
        split at h
        · rename_i k hk
          split at h
          · rename_i hcond
            obtain ⟨hk8, hk1, rfl, hlen⟩ := hcond
            obtain ⟨l, hl, rfl⟩ := Option.map_eq_some_iff.1 h
            obtain ⟨hl1, hl2⟩ := bytesOf_get hl
            have hlen2 : l.length = len := by rw [← hl1]; simp; omega
            obtain ⟨_, ds, _, _, hds, _, _, _, _, _, hd1⟩ := ti_spec hi
            obtain ⟨_, dd, _, _, hdd, _, _, _, _, _, hd2⟩ := ti_spec hj
            obtain ⟨ik, dk, _, hik, hdk, _, hsz, _, _, _, hd3⟩ := ti_spec hk
            rw [hd1] at hie
            rw [hd2] at hje
            rw [hd3] at hk8
            have e1 := tdOf_slice hie
            have e2 := tdOf_string hje
            have e3 := tdOf_int hk8
            subst e1; subst e2; subst e3
            cases hx with
            | l hx =>
              cases hx with
              | ms hb h1 h2 =>
                rename_i b sz cr cap
                obtain ⟨b', sz', cr', cur, g1, g2, g3, g4, g5, g6, g7, g8, g9⟩ := hR.blk id _ hM
                rw [hb, Option.some.injEq, Prod.mk.injEq, Prod.mk.injEq] at g1
                obtain ⟨rfl, rfl, rfl⟩ := g1
                have hsz1 : sz = 1 := by
                  rw [g9, szOf, hP, hik]
                  show ik.size = 1
                  rw [← hsz]
                  exact hk1
                subst hsz1
                have := run_convert_bytes_back (P := P) w s d T ⟨b, off * 1, none⟩ cap l hds hdk hdd (fun j hj => by
                  have h3 := hl2 j hj
                  rw [List.getElem?_take, if_pos (by omega), List.getElem?_drop] at h3
                  obtain ⟨u, hu, hcu⟩ := g6.2 (off + j) 0 _ _ h3 rfl
                  cases hcu
                  rw [addr_add]
                  simp only [World.cell?, g3]
                  rw [show off * 1 + j = (off + j) * 1 + 0 by omega]
                  exact hu)
                rw [hlen2] at this
                exact ⟨_, this, .l (.str _)⟩
          · cases h
        · cases h
      · cases h
    · cases h
  · exact run_convA hx h

/-- A plain type: whole numbers, bools, strings. -/
def plainT (P : Program) (t : TypeId) : Bool := match P.underlying t with | some (.int _) => true | some .bool => true | some .string => true | _ => false
/-- A struct of n plain cells, none nameless, by the table. -/
def flatEq (P : Program) (t : TypeId) (n : Nat) : Bool :=
  match P.underlying t with
  | some (.struct fs) => !P.stoodInHeld t && !P.eqGuardType P.depth t && fs.toList.all (fun f => f.name != "_" && plainT P f.type) && fs.toList.zipIdx.all (fun x => x.1.offset == x.2) && fs.size == n
  | _ => false

/-- The kind of a plain type, as the table has it. -/
def fitL (d : TD) (x : Lf) : Bool :=
  match d, x with
  | .int _, .int _ _ => true
  | .bool, .bool _ => true
  | .string, .str _ => true
  | _, _ => false

theorem beq_dec {α : Type} [BEq α] [LawfulBEq α] [DecidableEq α] (a b : α) : (a == b) = decide (a = b) := by
  by_cases h : a = b <;> simp [h]

theorem bytes_dec (a b : ByteArray) : (a.toList == b.toList) = decide (a = b) := by
  rw [beq_dec, ByteArray.toList_eq, ByteArray.toList_eq]
  obtain ⟨⟨x⟩⟩ := a
  obtain ⟨⟨y⟩⟩ := b
  simp

theorem run_equalIn_ptr_nil {P : Program} (w : World) (d : Nat) {t e : TypeId} (a : Option Addr) (h : P.underlying t = some (.pointer e)) : (Op.equalIn (d + 1) t (.pointer a) (.pointer none)).run P w = .ok a.isNone w := by
  cases a <;> simp [Op.equalIn, run_underlying h]
theorem run_eql_ptr_nil {P : Program} (w : World) {t e : TypeId} (a : Option Addr) (h : P.underlying t = some (.pointer e)) : (binOp .eql t (.pointer a) (.pointer none)).run P w = .ok (.bool a.isNone) w := by
  simp only [binOp]
  simp [Op.equal, Op.maxDepth, run_equalIn_ptr_nil w 9999 a h]
theorem run_neq_ptr_nil {P : Program} (w : World) {t e : TypeId} (a : Option Addr) (h : P.underlying t = some (.pointer e)) : (binOp .neq t (.pointer a) (.pointer none)).run P w = .ok (.bool (!a.isNone)) w := by
  simp only [binOp]
  simp [Op.equal, Op.maxDepth, run_equalIn_ptr_nil w 9999 a h]

theorem eqL_run {P : Program} {g : Gh} {w : World} {x y : Lf} {cx cy : Value} {b : Bool} {t : TypeId} {i : TI} (dep : Nat) (hx : Conc g w x cx) (hy : Conc g w y cy) (h : eqL x y = some b) (hi : tiOf P t = some i) (hfit : fitL i.d x = true) :
    (Op.equalIn (dep + 1) t cx cy).run P w = .ok b w := by
  obtain ⟨_, d, _, _, hd, _, _, _, _, _, hdd⟩ := ti_spec hi
  rw [hdd] at hfit
  cases hx with
  | int k n =>
    cases hy with
    | int k' m =>
      simp only [eqL] at h
      split at h
      · rename_i hk
        subst hk
        simp only [Option.some.injEq] at h
        subst h
        cases d <;> simp [tdOf, fitL] at hfit
        rw [run_equalIn_int w dep t _ _ _ _ hd, beq_dec]
      · cases h
    | _ => simp [eqL] at h
  | bool a =>
    cases hy with
    | bool a' =>
      simp only [eqL, Option.some.injEq] at h
      subst h
      cases d <;> simp [tdOf, fitL] at hfit
      exact run_equalIn_bool w dep t _ _ hd
    | _ => simp [eqL] at h
  | str a =>
    cases hy with
    | str a' =>
      simp only [eqL, Option.some.injEq] at h
      subst h
      cases d <;> simp [tdOf, fitL] at hfit
      rw [run_equalIn_string w dep t _ _ hd, bytes_dec]
    | _ => simp [eqL] at h
  | _ => simp [eqL] at h

def fitC (P : Program) : List (Nat × Nat) → List Lf → Bool
  | [], [] => true
  | (_, t) :: fs, x :: xs => (match tiOf P t with | some i => fitL i.d x | none => false) && fitC P fs xs
  | _, _ => false

theorem run_eqFields_flat {P : Program} {g : Gh} {w : World} (dep : Nat) (xs ys : Array Value) : ∀ (fs : List Field) (k : Nat) (as bs : List Lf) (b : Bool), (fs.all fun f => f.name != "_" && plainT P f.type) = true → ((fs.zipIdx k).all fun x => x.1.offset == x.2) = true →
    fitC P (fs.map fun f => (f.offset, f.type)) as = true → ConcL g w as (xs.toList.drop k) → ConcL g w bs (ys.toList.drop k) → eqCells as bs = some b → (Op.eqFields (dep + 1) xs ys fs).run P w = .ok b w
  | [], k, as, bs, b, _, _, hf, hx, hy, he => by
    cases as with
    | cons a as => simp [fitC] at hf
    | nil =>
      cases bs with
      | nil => simp [eqCells] at he; subst he; rfl
      | cons => simp [eqCells] at he
  | f :: fs, k, as, bs, b, hall, hoff, hf, hx, hy, he => by
    cases as with
    | nil => simp [fitC] at hf
    | cons a as =>
      cases bs with
      | nil => simp [eqCells] at he
      | cons a' bs =>
        simp only [List.all_cons, Bool.and_eq_true, List.zipIdx_cons] at hall hoff
        obtain ⟨⟨hn, hp⟩, hall⟩ := hall
        obtain ⟨ho, hoff⟩ := hoff
        have hok : f.offset = k := by simpa using ho
        simp only [List.map_cons, fitC, Bool.and_eq_true] at hf
        obtain ⟨hfit, hf⟩ := hf
        obtain ⟨v, hv, hcv⟩ := hx.get (i := 0) (x := a) rfl
        obtain ⟨v', hv', hcv'⟩ := hy.get (i := 0) (x := a') rfl
        rw [List.getElem?_drop, Nat.add_zero] at hv hv'
        have hx' : ConcL g w as (xs.toList.drop (k + 1)) := by
          have := hx.drop 1
          simpa [List.drop_drop, Nat.add_comm] using this
        have hy' : ConcL g w bs (ys.toList.drop (k + 1)) := by
          have := hy.drop 1
          simpa [List.drop_drop, Nat.add_comm] using this
        simp only [eqCells] at he
        split at he
        · rename_i p q hpq hq
          simp only [Option.some.injEq] at he
          subst he
          have hund : ∃ i d, tiOf P f.type = some i ∧ fitL i.d a = true ∧ P.underlying f.type = some d ∧ tdAgg d = false := by
            cases hi : tiOf P f.type with
            | none => rw [hi] at hfit; cases hfit
            | some i =>
              rw [hi] at hfit
              obtain ⟨_, d, _, _, hd, _, _, _, _, _, hdd⟩ := ti_spec hi
              refine ⟨i, d, rfl, hfit, hd, ?_⟩
              simp only at hfit
              rw [hdd] at hfit
              cases d <;> first | rfl | (simp [tdOf, fitL] at hfit)
          obtain ⟨i, d, hi, hfi, hd, hag⟩ := hund
          have hpx : (part f.type xs f.offset).run P w = .ok v w := by
            have : xs[k]? = some v := by simpa using hv
            simp [part, run_isAgg' hd, hag, hok, this]
          have hpy : (part f.type ys f.offset).run P w = .ok v' w := by
            have : ys[k]? = some v' := by simpa using hv'
            simp [part, run_isAgg' hd, hag, hok, this]
          have hr := eqL_run (P := P) dep hcv hcv' hpq hi hfi
          have ih := run_eqFields_flat dep xs ys fs (k + 1) as bs q hall hoff hf hx' hy' hq
          have hne : f.name ≠ "_" := by simpa using hn
          simp only [Op.eqFields, if_pos hne, Sem.run_bind, hpx, hpy, hr, Result.andThen_ok, Sem.run_ite]
          cases p with
          | false => rfl
          | true => simpa using ih
        · cases he

/-- What '==' tells of two values (none: this logic doesn't know). -/
def eqA (P : Program) (t : TypeId) (x y : AV) : Option Bool :=
  match x, y with
  | .l (.bool a), .l (.bool b) => match tiOf P t with | some i => if i.d = .bool then some (a == b) else none | none => none
  | .l (.str a), .l (.str b) => some (decide (a = b))
  | .agg xs, .agg ys => match tiOf P t with
    | some i => match i.d with
      | .struct fs => if flatEq P t xs.length = true ∧ fitC P fs xs = true then eqCells xs ys else none
      | _ => none
    | none => none
  | .l .nilp, .l .nilp => match tiOf P t with | some i => (match i.d with | .pointer _ => some true | _ => none) | none => none
  | .l (.ptr _ _ _), .l .nilp => match tiOf P t with | some i => (match i.d with | .pointer _ => some false | _ => none) | none => none
  | .l (.rp _), .l .nilp => match tiOf P t with | some i => (match i.d with | .pointer _ => some false | _ => none) | none => none
  | _, _ => none

theorem run_eqA {P : Program} {g : Gh} {w : World} {t : TypeId} {x y : AV} {cx cy : Value} {b : Bool} (o1 o2 : Operand) (hx : ConcA g w x cx) (hy : ConcA g w y cy) (h : eqA P t x y = some b) :
    (do eqGuard .eql t o1 o2 cx cy; binOp .eql t cx cy : Sem Value).run P w = .ok (.bool b) w ∧ (do eqGuard .neq t o1 o2 cx cy; binOp .neq t cx cy : Sem Value).run P w = .ok (.bool (!b)) w := by
  unfold eqA at h
  split at h
  · have h1 := conc_bool hx
    have h2 := conc_bool hy
    subst h1; subst h2
    split at h
    · rename_i i hi
      obtain ⟨_, d, _, _, hd, _, _, _, _, _, hdd⟩ := ti_spec hi
      split at h
      · rename_i hb
        simp only [Option.some.injEq] at h
        subst h
        rw [hdd] at hb
        have := tdOf_bool hb
        subst this
        constructor <;> simp [eqGuard, run_eql_bool w t _ _ hd, run_neq_bool w t _ _ hd]
      · cases h
    · cases h
  · have h1 := conc_str hx
    have h2 := conc_str hy
    subst h1; subst h2
    simp only [Option.some.injEq] at h
    subst h
    constructor <;> simp [eqGuard, binOp, Op.stringOp, bytes_dec]
  · rename_i xs ys
    split at h
    · rename_i i hi
      obtain ⟨_, d, _, _, hd, _, _, _, _, _, hdd⟩ := ti_spec hi
      split at h
      · rename_i fs hfs
        rw [hdd] at hfs
        obtain ⟨fields, rfl, rfl⟩ := tdOf_struct hfs
        split at h
        · rename_i hc
          obtain ⟨hfl, hfit⟩ := hc
          unfold flatEq at hfl
          rw [hd] at hfl
          simp only [Bool.and_eq_true, Bool.not_eq_true'] at hfl
          obtain ⟨⟨⟨⟨hst, hgt⟩, hall⟩, hoff⟩, hn⟩ := hfl
          cases hx with
          | agg vs hv =>
            cases hy with
            | agg vs' hv' =>
              have hft : P.underlying t = some (.struct (P.fieldsOf t)) := by rw [hd]; simp [Program.fieldsOf, hd]
              have hff : (P.fieldsOf t) = fields := by simp [Program.fieldsOf, hd]
              have hrun : (Op.equalIn 10000 t (.agg vs.toArray) (.agg vs'.toArray)).run P w = .ok b w := by
                rw [show (10000 : Nat) = 9999 + 1 from rfl, run_equalIn_struct w 9999 t _ _ hft hst, hff]
                exact run_eqFields_flat 9998 vs.toArray vs'.toArray fields.toList 0 xs ys b hall hoff hfit (by simpa using hv) (by simpa using hv') h
              constructor
              · rw [Sem.run_bind, run_eqGuard_agg w .eql t o1 o2 _ _ hgt, Result.andThen_ok, run_eql_struct, hrun, Result.andThen_ok]
              · rw [Sem.run_bind, run_eqGuard_agg w .neq t o1 o2 _ _ hgt, Result.andThen_ok, run_neq_struct, hrun, Result.andThen_ok]
        · cases h
      · cases h
    · cases h
  · split at h
    · rename_i i hi
      obtain ⟨_, d, _, _, hd, _, _, _, _, _, hdd⟩ := ti_spec hi
      split at h
      · rename_i e he
        rw [hdd] at he
        have := tdOf_pointer he
        subst this
        simp only [Option.some.injEq] at h
        subst h
        cases hx with | l hx => cases hx; cases hy with | l hy => cases hy; constructor <;> simp [eqGuard, run_eql_ptr_nil w _ hd, run_neq_ptr_nil w _ hd]
      · cases h
    · cases h
  · split at h
    · rename_i i hi
      obtain ⟨_, d, _, _, hd, _, _, _, _, _, hdd⟩ := ti_spec hi
      split at h
      · rename_i e he
        rw [hdd] at he
        have := tdOf_pointer he
        subst this
        simp only [Option.some.injEq] at h
        subst h
        cases hx with | l hx => cases hx; cases hy with | l hy => cases hy; constructor <;> simp [eqGuard, run_eql_ptr_nil w _ hd, run_neq_ptr_nil w _ hd]
      · cases h
    · cases h
  · split at h
    · rename_i i hi
      obtain ⟨_, d, _, _, hd, _, _, _, _, _, hdd⟩ := ti_spec hi
      split at h
      · rename_i e he
        rw [hdd] at he
        have := tdOf_pointer he
        subst this
        simp only [Option.some.injEq] at h
        subst h
        cases hx with | l hx => cases hx; cases hy with | l hy => cases hy; constructor <;> simp [eqGuard, run_eql_ptr_nil w _ hd, run_neq_ptr_nil w _ hd]
      · cases h
    · cases h
  · cases h

def cstB : Operand → Bool
  | .const _ => true
  | _ => false
/-- What '==' tells of two values, of an interface against nil, too. -/
def eqY (P : Program) (t : TypeId) (c : Bool) (a b : AV) : Option Bool :=
  match b with
  | .l .nili => (match a with
    | .l .nili => if c then (match tiOf P t with | some i => (match i.d with | .iface => some true | _ => none) | none => none) else none
    | .l (.tok (.iface _ _)) => (match tiOf P t with | some i => (match i.d with | .iface => some false | _ => none) | none => none)
    | _ => none)
  | b => eqA P t a b
theorem tdOf_iface {d : TypeDesc} (h : tdOf d = .iface) : ∃ ms, d = .interface ms := by
  cases d <;> simp only [tdOf, reduceCtorEq] at h
  exact ⟨_, rfl⟩
theorem run_eqY {P : Program} {g : Gh} {w : World} {t : TypeId} {x y : AV} {cx cy : Value} {b : Bool} (o1 o2 : Operand) (hx : ConcA g w x cx) (hy : ConcA g w y cy) (h : eqY P t (cstB o2) x y = some b) :
    (do eqGuard .eql t o1 o2 cx cy; binOp .eql t cx cy : Sem Value).run P w = .ok (.bool b) w ∧ (do eqGuard .neq t o1 o2 cx cy; binOp .neq t cx cy : Sem Value).run P w = .ok (.bool (!b)) w := by
  unfold eqY at h
  split at h
  · split at h
    · split at h
      · rename_i hc
        obtain ⟨v, rfl⟩ : ∃ v, o2 = .const v := by
          unfold cstB at hc
          split at hc
          · exact ⟨_, rfl⟩
          · cases hc
        split at h
        · rename_i i hi
          obtain ⟨_, d, _, _, hd, _, _, _, _, _, hdd⟩ := ti_spec hi
          split at h
          · rename_i he
            rw [hdd] at he
            obtain ⟨ms, rfl⟩ := tdOf_iface he
            simp only [Option.some.injEq] at h
            subst h
            have hm : P.underlying t = some (.interface (P.methodsAt t)) := by rw [hd]; simp [Program.methodsAt, hd]
            cases hx with | l hx => cases hx; cases hy with | l hy => cases hy; constructor <;> simp [eqGuard, run_eql_nil_nil w t hm, run_neq_nil_nil w t hm]
          · cases h
        · cases h
      · cases h
    · split at h
      · rename_i i hi
        obtain ⟨_, d, _, _, hd, _, _, _, _, _, hdd⟩ := ti_spec hi
        split at h
        · rename_i he
          rw [hdd] at he
          obtain ⟨ms, rfl⟩ := tdOf_iface he
          simp only [Option.some.injEq] at h
          subst h
          have hm : P.underlying t = some (.interface (P.methodsAt t)) := by rw [hd]; simp [Program.methodsAt, hd]
          cases hx with | l hx => cases hx; cases hy with | l hy => cases hy; constructor <;> simp [eqGuard, run_eql_held_nil w t _ _ hm, run_neq_held_nil w t _ _ hm]
        · cases h
      · cases h
    · cases h
  · exact run_eqA o1 o2 hx hy h

def isNilS : Operand → Bool
  | .const (.slice none 0 0) => true
  | _ => false

/-- x against the nil slice. -/
def nilSK (neq : Bool) (x : AV) (K : AV → Prop) : Prop :=
  match x with
  | .l (.sl rows) => (rows = [] → ∀ b, K (.l (.bool b))) ∧ (rows ≠ [] → K (.l (.bool neq)))
  | .l .nils => ∀ b, K (.l (.bool b))
  | .l (.ms _ _ _) => K (.l (.bool neq))
  | _ => False

def binK (P : Program) (op : BinOp) (t : TypeId) (x y : Operand) (a b : AV) (K : AV → Prop) : Prop :=
  match a, b with
  | .l (.int k n), .l (.int k' m) => if k = k' then optK (arithA op k n m) fun v => K (.l v) else optK (shiftA op k n m) fun v => K (.l v)
  | a, b => match op with
    | .eql => if isNilS y then (match tiOf P t with | some i => (match i.d with | .slice _ => nilSK false a K | _ => False) | none => False) else optK (eqY P t (cstB y) a b) fun r => K (.l (.bool r))
    | .neq => if isNilS y then (match tiOf P t with | some i => (match i.d with | .slice _ => nilSK true a K | _ => False) | none => False) else optK (eqY P t (cstB y) a b) fun r => K (.l (.bool (!r)))
    | .add => match a, b with
      | .l (.str s), .l (.str s') => s.size + s'.size ≤ 9223372036854775807 ∧ K (.l (.str (s ++ s')))
      | _, _ => False
    | _ => False

theorem run_shift {P : Program} {w : World} {op : BinOp} {k k' : IntKind} {n m : Int} {v : Lf} (h : shiftA op k n m = some v) (t : TypeId) : ∃ c, (binOp op t (.int k n) (.int k' m)).run P w = .ok c w ∧ ∀ g, Conc g w v c := by
  cases op <;> simp only [shiftA, reduceCtorEq] at h
  case shl =>
    split at h
    · cases h
    · rename_i h0
      simp only [Option.some.injEq] at h; subst h; exact ⟨_, by simp [binOp, Op.shift, h0], fun g => .int _ _⟩
  case shr =>
    split at h
    · cases h
    · rename_i h0
      simp only [Option.some.injEq] at h; subst h; exact ⟨_, by simp [binOp, Op.shift, h0], fun g => .int _ _⟩
theorem run_arith {P : Program} {w : World} {op : BinOp} {k : IntKind} {n m : Int} {v : Lf} (h : arithA op k n m = some v) (t : TypeId) : ∃ c, (binOp op t (.int k n) (.int k m)).run P w = .ok c w ∧ ∀ g, Conc g w v c := by
  cases op <;> simp only [arithA, cmpA, Option.map_some, Option.map_none, Option.some.injEq, reduceCtorEq] at h
  case add => subst h; exact ⟨_, by simp [binOp, Op.intArith], fun g => .int _ _⟩
  case sub => subst h; exact ⟨_, by simp [binOp, Op.intArith], fun g => .int _ _⟩
  case mul => subst h; exact ⟨_, by simp [binOp, Op.intArith], fun g => .int _ _⟩
  case quo =>
    split at h
    · cases h
    · rename_i h0
      simp only [Option.some.injEq] at h; subst h; exact ⟨_, by simp [binOp, Op.intDiv, h0], fun g => .int _ _⟩
  case rem =>
    split at h
    · cases h
    · rename_i h0
      simp only [Option.some.injEq] at h; subst h; exact ⟨_, by simp [binOp, Op.intDiv, h0], fun g => .int _ _⟩
  case and => subst h; exact ⟨_, by simp [binOp, Op.intBits, bitsA], fun g => .int _ _⟩
  case or => subst h; exact ⟨_, by simp [binOp, Op.intBits, bitsA], fun g => .int _ _⟩
  case xor => subst h; exact ⟨_, by simp [binOp, Op.intBits, bitsA], fun g => .int _ _⟩
  case andNot => subst h; exact ⟨_, by simp [binOp, Op.intBits, bitsA], fun g => .int _ _⟩
  case shl => exact run_shift h t
  case shr => exact run_shift h t
  case eql => subst h; exact ⟨.bool (n == m), by simp [binOp, Op.intCmp], fun g => by rw [beq_dec]; exact .bool _⟩
  case neq => subst h; exact ⟨.bool (n != m), by simp [binOp, Op.intCmp], fun g => by rw [bne, beq_dec, show (!decide (n = m)) = decide (n ≠ m) by simp]; exact .bool _⟩
  case lss => subst h; exact ⟨_, by simp [binOp, Op.intCmp], fun g => .bool _⟩
  case leq => subst h; exact ⟨_, by simp [binOp, Op.intCmp], fun g => .bool _⟩
  case gtr => subst h; exact ⟨.bool (decide (n > m)), by simp [binOp, Op.intCmp], fun g => .bool _⟩
  case geq => subst h; exact ⟨.bool (decide (n ≥ m)), by simp [binOp, Op.intCmp], fun g => .bool _⟩

theorem run_binK {P : Program} {g : Gh} {w : World} {op : BinOp} {t : TypeId} {x y : Operand} {a b : AV} {ca cb : Value} (hx : ConcA g w a ca) (hy : ConcA g w b cb) (hyc : isNilS y = true → cb = .slice none 0 0) {K : AV → Prop}
    (h : binK P op t x y a b K) : ∃ c v, (do eqGuard op t x y ca cb; binOp op t ca cb : Sem Value).run P w = .ok c w ∧ K v ∧ ConcA g w v c := by
  unfold binK at h
  split at h
  · rename_i k n k' m
    have h1 := conc_int hx
    have h2 := conc_int hy
    subst h1; subst h2
    split at h
    · rename_i hk
      subst hk
      unfold optK at h
      split at h
      · rename_i v hv
        obtain ⟨c, hr, hc⟩ := run_arith (P := P) (w := w) hv t
        refine ⟨c, _, ?_, h, .l (hc g)⟩
        have : (eqGuard op t x y (.int k n) (.int k m)).run P w = .ok () w := by cases op <;> rfl
        rw [Sem.run_bind, this, Result.andThen_ok, hr]
      · exact h.elim
    · unfold optK at h
      split at h
      · rename_i v hv
        obtain ⟨c, hr, hc⟩ := run_shift (P := P) (w := w) (k' := k') hv t
        refine ⟨c, _, ?_, h, .l (hc g)⟩
        have : (eqGuard op t x y (.int k n) (.int k' m)).run P w = .ok () w := by cases op <;> rfl
        rw [Sem.run_bind, this, Result.andThen_ok, hr]
      · exact h.elim
  · have nilcase : ∀ (op' : BinOp) (neq : Bool) (i : TI) (e : Nat), tiOf P t = some i → i.d = .slice e → isNilS y = true → nilSK neq a K → (op' = .eql ∧ neq = false) ∨ (op' = .neq ∧ neq = true) →
        ∃ c v, (do eqGuard op' t x y ca cb; binOp op' t ca cb : Sem Value).run P w = .ok c w ∧ K v ∧ ConcA g w v c := by
      intro op' neq i e hi he hn hk hop
      have := hyc hn
      subst this
      obtain ⟨_, d, _, _, hd, _, _, _, _, _, hdd⟩ := ti_spec hi
      rw [hdd] at he
      have := tdOf_slice he
      subst this
      have hrun : ∀ (ao : Option Addr) (l c : Nat), (do eqGuard op' t x y (.slice ao l c) (.slice none 0 0); binOp op' t (.slice ao l c) (.slice none 0 0) : Sem Value).run P w = .ok (.bool (if neq then !ao.isNone else ao.isNone)) w := by
        intro ao l c
        rcases hop with ⟨rfl, rfl⟩ | ⟨rfl, rfl⟩
        · have : (eqGuard .eql t x y (.slice ao l c) (.slice none 0 0)).run P w = .ok () w := rfl
          rw [Sem.run_bind, this, Result.andThen_ok, Lib.run_eql_slice_nil w t e ao l c 0 0 hd]; simp
        · have : (eqGuard .neq t x y (.slice ao l c) (.slice none 0 0)).run P w = .ok () w := rfl
          rw [Sem.run_bind, this, Result.andThen_ok, run_neq_slice_nil_any w t e ao l c 0 0 hd]; simp
      unfold nilSK at hk
      split at hk
      · rename_i rows _
        cases hx with
        | l hx =>
          by_cases hne : rows = []
          · obtain ⟨ao, cap, rfl, _⟩ := conc_sl hx
            exact ⟨_, _, hrun _ _ _, hk.1 hne _, .l (.bool _)⟩
          · obtain ⟨r0, hr0⟩ := List.exists_mem_of_ne_nil rows hne
            obtain ⟨k, hk1, hk'⟩ := List.getElem_of_mem hr0
            obtain ⟨b, o, cap, rfl, _, _⟩ := conc_sl_row hx (List.getElem?_eq_getElem hk1)
            refine ⟨_, _, hrun _ _ _, hk.2 hne, ?_⟩
            cases neq <;> exact .l (.bool _)
      · cases hx with
        | l hx => cases hx with | nils => exact ⟨_, _, hrun _ _ _, hk _, .l (.bool _)⟩
      · cases hx with
        | l hx =>
          cases hx with
          | ms hb h1 h2 =>
            refine ⟨_, _, hrun _ _ _, hk, ?_⟩
            cases neq <;> exact .l (.bool _)
      · exact hk.elim
    split at h
    · split at h
      · rename_i hn
        split at h
        · rename_i i hi
          split at h
          · rename_i e he
            exact nilcase .eql false i e hi he hn h (.inl ⟨rfl, rfl⟩)
          · exact h.elim
        · exact h.elim
      · unfold optK at h
        split at h
        · rename_i r hr
          exact ⟨_, _, (run_eqY x y hx hy hr).1, h, .l (.bool _)⟩
        · exact h.elim
    · split at h
      · rename_i hn
        split at h
        · rename_i i hi
          split at h
          · rename_i e he
            exact nilcase .neq true i e hi he hn h (.inr ⟨rfl, rfl⟩)
          · exact h.elim
        · exact h.elim
      · unfold optK at h
        split at h
        · rename_i r hr
          exact ⟨_, _, (run_eqY x y hx hy hr).2, h, .l (.bool _)⟩
        · exact h.elim
    · split at h
      · rename_i s s' _
        have h1 := conc_str hx
        have h2 := conc_str hy
        subst h1; subst h2
        refine ⟨.string (s ++ s'), _, ?_, h.2, .l (.str _)⟩
        have hle : ¬ (9223372036854775807 < (s.size : Int) + (s'.size : Int)) := by omega
        simp [eqGuard, binOp, Op.stringOp, IntKind.max, IntKind.bits, IntKind.signed, hle]
      · exact h.elim
    · exact h.elim


/-! ### maps -/
def sameK : Lf → Lf → Option Bool
  | .int k a, .int k' b => if k = k' then some (decide (a = b)) else none
  | .str a, .str b => some (decide (a = b))
  | _, _ => none

/-- The place and the value of a key (the outer none: this logic doesn't know). -/
def findA (key : Lf) : List (Lf × Lf) → Nat → Option (Option (Nat × Lf))
  | [], _ => some none
  | (k, v) :: es, i => match sameK key k with
    | some true => some (some (i, v))
    | some false => findA key es (i + 1)
    | none => none

def keyT (d : TD) (key : Lf) : Bool := match d, key with | .int _, .int _ _ => true | .string, .str _ => true | _, _ => false

theorem sameNow_of {g : Gh} {w : World} {d : TypeDesc} {x y : Lf} {cx cy : Value} {b : Bool} (hx : Conc g w x cx) (hy : Conc g w y cy) (hk : keyT (tdOf d) x = true) (h : sameK x y = some b) : Instr.sameNow d cx cy = some b ∧ (b = true → Instr.sameBits 10000 cy cx = true) := by
  cases hx with
  | int k n =>
    cases hy with
    | int k' m =>
      simp only [sameK] at h
      split at h
      · rename_i he
        subst he
        simp only [Option.some.injEq] at h
        subst h
        cases d <;> simp [tdOf, keyT] at hk
        refine ⟨by simp [Instr.sameNow, beq_dec], fun hb => ?_⟩
        have : n = m := of_decide_eq_true hb
        subst this
        simp [Instr.sameBits]
      · cases h
    | _ => simp [sameK] at h
  | str a =>
    cases hy with
    | str a' =>
      simp only [sameK, Option.some.injEq] at h
      subst h
      cases d <;> simp [tdOf, keyT] at hk
      refine ⟨?_, fun hb => ?_⟩
      · have := bytes_dec a a'
        rw [← beq_toListBytes] at this
        simp [Instr.sameNow, this]
      · have : a = a' := of_decide_eq_true hb
        subst this
        have hs := bytes_dec a a
        rw [← beq_toListBytes] at hs
        simp [Instr.sameBits, hs]
    | _ => simp [sameK] at h
  | _ => cases d <;> simp [tdOf, keyT] at hk

theorem findNow_of {g : Gh} {w : World} {d : TypeDesc} {key : Lf} {ck : Value} (hkey : Conc g w key ck) (hk : keyT (tdOf d) key = true) : ∀ (es : List (Lf × Lf)) (ents : List MapEntry) (i : Nat) (r : Option (Nat × Lf)), es.length = ents.length →
    (∀ (j : Nat) (p : Lf × Lf) (e : MapEntry), es[j]? = some p → ents[j]? = some e → Conc g w p.1 e.key ∧ Conc g w p.2 e.val) → findA key es i = some r →
    (r = none ∧ Instr.findNow d ck ents i = some none) ∨ (∃ j v p e, r = some (i + j, v) ∧ es[j]? = some p ∧ ents[j]? = some e ∧ v = p.2 ∧ Instr.findNow d ck ents i = some (some (i + j, e.val)) ∧ Instr.sameBits 10000 e.key ck = true)
  | [], [], i, r, _, _, h => by
    simp only [findA, Option.some.injEq] at h
    exact .inl ⟨h.symm, rfl⟩
  | [], _ :: _, _, _, hl, _, _ => by simp at hl
  | _ :: _, [], _, _, hl, _, _ => by simp at hl
  | (k, v) :: es, e :: ents, i, r, hl, hp, h => by
    have h0 := hp 0 (k, v) e rfl rfl
    simp only [findA] at h
    split at h
    · rename_i hs
      simp only [Option.some.injEq] at h
      obtain ⟨h1, h2⟩ := sameNow_of hkey h0.1 hk hs
      exact .inr ⟨0, v, (k, v), e, h.symm, rfl, rfl, rfl, by simp [Instr.findNow, h1], h2 rfl⟩
    · rename_i hs
      obtain ⟨h1, _⟩ := sameNow_of hkey h0.1 hk hs
      rcases findNow_of hkey hk es ents (i + 1) r (by simpa using hl) (fun j p e a b => hp (j + 1) p e (by simpa using a) (by simpa using b)) h with ⟨rfl, h3⟩ | ⟨j, v', p, e', rfl, h4, h5, h6, h7, h8⟩
      · exact .inl ⟨rfl, by simp [Instr.findNow, h1, h3]⟩
      · exact .inr ⟨j + 1, v', p, e', by rw [show i + (j + 1) = i + 1 + j by omega], by simpa using h4, by simpa using h5, h6, by rw [show i + (j + 1) = i + 1 + j by omega]; simp [Instr.findNow, h1, h7], h8⟩
    · cases h

def entsA (M : Mem) (m : AV) : Option (List (Lf × Lf)) :=
  match m with
  | .l .nilm => some []
  | .l (.mp id) => match M id with
    | some (.map es) => some es
    | _ => none
  | _ => none

def lookupA (P : Program) (M : Mem) (t : TypeId) (m key : AV) (ok : Bool) : Option AV :=
  match tiOf P t, entsA M m, key with
  | some ti, some es, .l k => match ti.d with
    | .map K E => match tiOf P K, tiOf P E with
      | some tk, some te => if keyT tk.d k = true then (match findA k es 0, te.zero with
        | some (some (_, v)), _ => some (if ok then .tup [.l v, .l (.bool true)] else .l v)
        | some none, .l z => some (if ok then .tup [.l z, .l (.bool false)] else .l z)
        | _, _ => none) else none
      | _, _ => none
    | _ => none
  | _, _, _ => none

theorem run_checkKey {P : Program} {w : World} {K : TypeId} {d : TypeDesc} (hd : P.underlying K = some d) {k : Lf} (hk : keyT (tdOf d) k = true) (b : Bool) (n : Nat) (v : Value) : (Instr.checkKey b (n + 1) K v).run P w = .ok () w := by
  cases d <;> cases k <;> simp [tdOf, keyT] at hk <;> (cases v <;> simp [Instr.checkKey, run_underlying hd])

theorem run_findKey {P : Program} {g : Gh} {w : World} {K : TypeId} {d : TypeDesc} (hd : P.underlying K = some d) {ck : Value} {ents : List MapEntry} {r : Option (Nat × Value)} (h : Instr.findNow d ck ents 0 = some r) : (Instr.findKey K ck ents).run P w = .ok r w := by
  simp [Instr.findKey, run_underlying hd, h]

theorem ents_spec {P : Program} {g : Gh} {M : Mem} {w : World} (hR : Rel g M w) {m : AV} {cm : Value} {es : List (Lf × Lf)} (hm : ConcA g w m cm) (h : entsA M m = some es) :
    ∃ ents : Array MapEntry, ((cm = .map none ∧ ents = #[]) ∨ ∃ b clock, cm = .map (some b) ∧ (getObj b).run P w = .ok (.map ents clock) w) ∧ es.length = ents.toList.length ∧
      ∀ (j : Nat) (p : Lf × Lf) (e : MapEntry), es[j]? = some p → ents.toList[j]? = some e → Conc g w p.1 e.key ∧ Conc g w p.2 e.val := by
  unfold entsA at h
  split at h
  · simp only [Option.some.injEq] at h
    subst h
    cases hm with
    | l hm => cases hm; exact ⟨#[], .inl ⟨rfl, rfl⟩, rfl, fun j p e hp => by simp at hp⟩
  · rename_i id
    split at h
    · rename_i es' hM
      simp only [Option.some.injEq] at h
      subst h
      cases hm with
      | l hm =>
        cases hm with
        | mp hx =>
          rename_i b sz cr
          obtain ⟨b', sz', cr', ents, clock, g1, g2, g3, g4, g5⟩ := hR.blk id _ hM
          rw [hx, Option.some.injEq, Prod.mk.injEq, Prod.mk.injEq] at g1
          obtain ⟨rfl, rfl, rfl⟩ := g1
          have hg : (getObj b).run P w = .ok (.map ents clock) w := by simp [getObj, Sem.run, g3]
          exact ⟨ents, .inr ⟨b, clock, rfl, hg⟩, by simp [g4], fun j p e hp he => g5 j p e hp (by simpa using he)⟩
    · cases h
  · cases h

theorem run_lookupA {P : Program} {g : Gh} {M : Mem} {w : World} (hR : Rel g M w) {t : TypeId} {m key v : AV} {cm ck : Value} {ok : Bool} (hm : ConcA g w m cm) (hkey : ConcA g w key ck) (h : lookupA P M t m key ok = some v) :
    ∃ c, (Instr.lookup t cm ck ok).run P w = .ok c w ∧ ConcA g w v c := by
  unfold lookupA at h
  split at h
  · rename_i ti es k hti hes
    obtain ⟨_, d, _, _, hd, _, _, _, _, _, hdd⟩ := ti_spec hti
    split at h
    · rename_i K E hKE
      rw [hdd] at hKE
      have := tdOf_map hKE
      subst this
      split at h
      · rename_i tk te htk hte
        obtain ⟨_, dk, _, _, hdk, _, _, _, _, _, hddk⟩ := ti_spec htk
        obtain ⟨infe, de, ze, hinfe, hde, hze, _, _, _, hzea, hdde⟩ := ti_spec hte
        split at h
        · rename_i hk
          rw [hddk] at hk
          obtain ⟨ents, hget, hlen, hents⟩ := ents_spec (P := P) hR hm hes
          cases hkey with
          | l hkey =>
            have hck : ∀ b, (Instr.checkKey b 10000 K ck).run P w = .ok () w := fun b => run_checkKey hdk hk b 9999 ck
            split at h
            · rename_i j v' z hf
              simp only [Option.some.injEq] at h
              subst h
              rcases findNow_of hkey hk es ents.toList 0 _ hlen hents hf with ⟨hr, _⟩ | ⟨j', v'', p, e, hr, h4, h5, h6, h7, h8⟩
              · cases hr
              · simp only [Option.some.injEq, Prod.mk.injEq] at hr
                obtain ⟨_, rfl⟩ := hr
                have hcv := (hents _ _ _ h4 h5).2
                rw [← h6] at hcv
                have hfk := run_findKey (P := P) (g := g) (w := w) hdk h7
                cases ok
                · exact ⟨e.val, by (rcases hget with ⟨rfl, rfl⟩ | ⟨bb, clock, rfl, hg⟩); (· simp at h5); (· simp [Instr.lookup, run_underlying hd, hg, hck, hfk]), .l hcv⟩
                · refine ⟨.tuple #[e.val, .bool true], by (rcases hget with ⟨rfl, rfl⟩ | ⟨bb, clock, rfl, hg⟩); (· simp at h5); (· simp [Instr.lookup, run_underlying hd, hg, hck, hfk]), ?_⟩
                  exact .tup [e.val, .bool true] rfl (fun i x v hx hv => by
                    match i with
                    | 0 => simp at hx hv; subst hx; subst hv; exact .l hcv
                    | 1 => simp at hx hv; subst hx; subst hv; exact .l (.bool _)
                    | (n + 2) => simp at hx)
            · rename_i z hf hz
              simp only [Option.some.injEq] at h
              subst h
              have hcz := conc_absV g w ze
              rw [← hzea, hz] at hcz
              rcases findNow_of hkey hk es ents.toList 0 _ hlen hents hf with ⟨hr, h7⟩ | ⟨j', v'', p, e, hr, h4, h5, h6, h7, h8⟩
              · have hfk := run_findKey (P := P) (g := g) (w := w) hdk h7
                cases ok
                · exact ⟨ze, by (rcases hget with ⟨rfl, rfl⟩ | ⟨bb, clock, rfl, hg⟩); (· have hfk2 : (Instr.findKey K ck []).run P w = .ok none w := hfk; simp [Instr.lookup, run_underlying hd, hck, hfk2, run_zeroValue' hinfe hze]); (· simp [Instr.lookup, run_underlying hd, hg, hck, hfk, run_zeroValue' hinfe hze]), hcz⟩
                · refine ⟨.tuple #[ze, .bool false], by (rcases hget with ⟨rfl, rfl⟩ | ⟨bb, clock, rfl, hg⟩); (· have hfk2 : (Instr.findKey K ck []).run P w = .ok none w := hfk; simp [Instr.lookup, run_underlying hd, hck, hfk2, run_zeroValue' hinfe hze]); (· simp [Instr.lookup, run_underlying hd, hg, hck, hfk, run_zeroValue' hinfe hze]), ?_⟩
                  exact .tup [ze, .bool false] rfl (fun i x v hx hv => by
                    match i with
                    | 0 => simp at hx hv; subst hx; subst hv; exact hcz
                    | 1 => simp at hx hv; subst hx; subst hv; exact .l (.bool _)
                    | (n + 2) => simp at hx)
              · cases hr
            · cases h
        · cases h
      · cases h
    · cases h
  · cases h

def mapUpdA (P : Program) (M : Mem) (t : TypeId) (m key v : AV) : Option Mem :=
  match tiOf P t, m, key, v with
  | some ti, .l (.mp id), .l k, .l x => match ti.d, M id with
    | .map K _, some (.map es) => match tiOf P K with
      | some tk => if keyT tk.d k = true then (match findA k es 0 with
        | some (some (i, _)) => some (M.set id (.map (es.set i (k, x))))
        | some none => some (M.set id (.map (es ++ [(k, x)])))
        | none => none) else none
      | none => none
    | _, _ => none
  | _, _, _, _ => none

theorem rel_map {g : Gh} {M : Mem} {w : World} (hR : Rel g M w) {id b sz cr : Nat} {es es' : List (Lf × Lf)} (hM : M id = some (.map es)) (hx : g.blk id = some (b, sz, cr)) {ents' : Array MapEntry} {clock' : Nat}
    (hl : ents'.size = es'.length) (hc : ∀ (i : Nat) (p : Lf × Lf) (e : MapEntry), es'[i]? = some p → ents'[i]? = some e → Conc g w p.1 e.key ∧ Conc g w p.2 e.val) :
    Ev g w g { w with heap := w.heap.setIfInBounds b (.map ents' clock') } ∧ Rel g (M.set id (.map es')) { w with heap := w.heap.setIfInBounds b (.map ents' clock') } := by
  obtain ⟨b', sz', cr', ents, clock, g1, g2, g3, g4, g5⟩ := hR.blk id _ hM
  rw [hx, Option.some.injEq, Prod.mk.injEq, Prod.mk.injEq] at g1
  obtain ⟨rfl, rfl, rfl⟩ := g1
  have hlt : b < w.heap.size := (Array.getElem?_eq_some_iff.1 g3).1
  have hnf : ∀ o', ¬ g.fz b o' := fun o' hf => by
    obtain ⟨v, hv⟩ := hR.fz b o' hf
    simp [World.cell?, g3] at hv
  exact rel_wrote hR hM hx (Wrote.setObj hlt (.map ents' clock')) (fun o' hf => absurd hf (hnf o'))
    fun g' w' e h1 h2 h3 h4 => ⟨b, sz, cr, ents', clock', h1, h2, h3, hl, fun i p en hp he => ⟨(hc i p en hp he).1.ev e, (hc i p en hp he).2.ev e⟩⟩

theorem run_mapUpdA {P : Program} {g : Gh} {M M' : Mem} {w : World} (hR : Rel g M w) {t : TypeId} {m key v : AV} {cm ck cv : Value} (hm : ConcA g w m cm) (hkey : ConcA g w key ck) (hv : ConcA g w v cv) (h : mapUpdA P M t m key v = some M') :
    ∃ w', (Instr.mapUpdate t cm ck cv).run P w = .ok () w' ∧ Ev g w g w' ∧ Rel g M' w' := by
  unfold mapUpdA at h
  split at h
  · rename_i ti id k x hti
    obtain ⟨_, d, _, _, hd, _, _, _, _, _, hdd⟩ := ti_spec hti
    split at h
    · rename_i K E es hKE hM
      rw [hdd] at hKE
      have := tdOf_map hKE
      subst this
      split at h
      · rename_i tk htk
        obtain ⟨_, dk, _, _, hdk, _, _, _, _, _, hddk⟩ := ti_spec htk
        split at h
        · rename_i hk
          rw [hddk] at hk
          cases hm with
          | l hm =>
            cases hm with
            | mp hx =>
              rename_i b sz cr
              obtain ⟨b', sz', cr', ents, clock, g1, g2, g3, g4, g5⟩ := hR.blk id _ hM
              rw [hx, Option.some.injEq, Prod.mk.injEq, Prod.mk.injEq] at g1
              obtain ⟨rfl, rfl, rfl⟩ := g1
              have hlt : b < w.heap.size := (Array.getElem?_eq_some_iff.1 g3).1
              have hg : (getObj b).run P w = .ok (.map ents clock) w := by simp [getObj, Sem.run, g3]
              have hset : ∀ o : Obj, (setObj b o).run P w = .ok () { w with heap := w.heap.setIfInBounds b o } := fun o => by simp [setObj, Sem.run, g3]
              cases hkey with
              | l hkey =>
                cases hv with
                | l hv =>
                  have hck : ∀ bb, (Instr.checkKey bb 10000 K ck).run P w = .ok () w := fun bb => run_checkKey hdk hk bb 9999 ck
                  have hents : ∀ (j : Nat) (p : Lf × Lf) (e : MapEntry), es[j]? = some p → ents.toList[j]? = some e → Conc g w p.1 e.key ∧ Conc g w p.2 e.val := fun j p e hp he => g5 j p e hp (by simpa using he)
                  split at h
                  · rename_i j v' hf
                    simp only [Option.some.injEq] at h
                    subst h
                    rcases findNow_of hkey hk es ents.toList 0 _ (by simp [g4]) hents hf with ⟨hr, _⟩ | ⟨j', v'', p, e, hr, h4, h5, h6, h7, h8⟩
                    · cases hr
                    · simp only [Option.some.injEq, Prod.mk.injEq, Nat.zero_add] at hr h7
                      obtain ⟨rfl, _⟩ := hr
                      have hfk := run_findKey (P := P) (g := g) (w := w) hdk h7
                      have hej : ents[j]? = some e := by simpa using h5
                      obtain ⟨ev, rel⟩ := rel_map hR hM hx (ents' := ents.modify j fun e => { e with key := ck, val := cv }) (clock' := clock) (es' := es.set j (k, x)) (by simp [g4]) (fun i q en hq hen => by
                        rw [Array.getElem?_modify] at hen
                        by_cases hij : j = i
                        · subst hij
                          rw [if_pos rfl, hej] at hen
                          simp only [Option.map_some, Option.some.injEq] at hen
                          have hjl := (List.getElem?_eq_some_iff.1 h4).1
                          rw [List.getElem?_set_self hjl, Option.some.injEq] at hq
                          subst hq; subst hen
                          exact ⟨hkey, hv⟩
                        · rw [if_neg hij] at hen
                          rw [List.getElem?_set_ne hij] at hq
                          exact g5 i q en hq hen)
                      refine ⟨_, ?_, ev, rel⟩
                      have hkts : (Instr.keyThatStays e.key ck).run P w = .ok ck w := by simp [Instr.keyThatStays, h8]
                      simp [Instr.mapUpdate, run_underlying hd, hg, hck, hfk, hej, hkts, hset]
                  · rename_i hf
                    simp only [Option.some.injEq] at h
                    subst h
                    rcases findNow_of hkey hk es ents.toList 0 _ (by simp [g4]) hents hf with ⟨_, h7⟩ | ⟨j', v'', p, e, hr, h4, h5, h6, h7, h8⟩
                    · have hfk := run_findKey (P := P) (g := g) (w := w) hdk h7
                      obtain ⟨ev, rel⟩ := rel_map hR hM hx (ents' := ents.push { key := ck, val := cv, born := clock }) (clock' := clock + 1) (es' := es ++ [(k, x)]) (by simp [g4]) (fun i q en hq hen => by
                        rw [Array.getElem?_push] at hen
                        by_cases hie : i = ents.size
                        · rw [if_pos hie, Option.some.injEq] at hen
                          rw [List.getElem?_append_right (by omega), hie, g4, Nat.sub_self] at hq
                          simp only [List.getElem?_cons_zero, Option.some.injEq] at hq
                          subst hq; subst hen
                          exact ⟨hkey, hv⟩
                        · rw [if_neg hie] at hen
                          have hil := (Array.getElem?_eq_some_iff.1 hen).1
                          rw [List.getElem?_append_left (by omega)] at hq
                          exact g5 i q en hq hen)
                      refine ⟨_, ?_, ev, rel⟩
                      simp [Instr.mapUpdate, run_underlying hd, hg, hck, hfk, hset]
                    · cases hr
                  · cases h
        · cases h
      · cases h
    · cases h
  · cases h

def mapDelA (P : Program) (M : Mem) (t : TypeId) (m key : AV) : Option Mem :=
  match tiOf P t, m, key with
  | some ti, .l (.mp id), .l k => match ti.d, M id with
    | .map K _, some (.map es) => match tiOf P K with
      | some tk => if keyT tk.d k = true then (match findA k es 0 with
        | some (some (i, _)) => some (M.set id (.map (es.eraseIdx i)))
        | some none => some (M.set id (.map es))
        | none => none) else none
      | none => none
    | _, _ => none
  | _, _, _ => none

theorem run_mapDelA {P : Program} {g : Gh} {M M' : Mem} {w : World} (hR : Rel g M w) {t t' ty : TypeId} {m key : AV} {cm ck : Value} (hm : ConcA g w m cm) (hkey : ConcA g w key ck) (h : mapDelA P M t m key = some M') :
    ∃ c w', (Builtin.delete_ #[t, t'] ty #[cm, ck]).run P w = .ok c w' ∧ Ev g w g w' ∧ Rel g M' w' := by
  unfold mapDelA at h
  split at h
  · rename_i ti id k hti
    obtain ⟨_, d, _, _, hd, _, _, _, _, _, hdd⟩ := ti_spec hti
    split at h
    · rename_i K E es hKE hM
      rw [hdd] at hKE
      have := tdOf_map hKE
      subst this
      split at h
      · rename_i tk htk
        obtain ⟨_, dk, _, _, hdk, _, _, _, _, _, hddk⟩ := ti_spec htk
        split at h
        · rename_i hk
          rw [hddk] at hk
          cases hm with
          | l hm =>
            cases hm with
            | mp hx =>
              rename_i b sz cr
              obtain ⟨b', sz', cr', ents, clock, g1, g2, g3, g4, g5⟩ := hR.blk id _ hM
              rw [hx, Option.some.injEq, Prod.mk.injEq, Prod.mk.injEq] at g1
              obtain ⟨rfl, rfl, rfl⟩ := g1
              have hg : (getObj b).run P w = .ok (.map ents clock) w := by simp [getObj, Sem.run, g3]
              have hset : ∀ o : Obj, (setObj b o).run P w = .ok () { w with heap := w.heap.setIfInBounds b o } := fun o => by simp [setObj, Sem.run, g3]
              cases hkey with
              | l hkey =>
                have hck : ∀ bb, (Instr.checkKey bb 10000 K ck).run P w = .ok () w := fun bb => run_checkKey hdk hk bb 9999 ck
                have hents : ∀ (j : Nat) (p : Lf × Lf) (e : MapEntry), es[j]? = some p → ents.toList[j]? = some e → Conc g w p.1 e.key ∧ Conc g w p.2 e.val := fun j p e hp he => g5 j p e hp (by simpa using he)
                split at h
                · rename_i j v' hf
                  simp only [Option.some.injEq] at h
                  subst h
                  rcases findNow_of hkey hk es ents.toList 0 _ (by simp [g4]) hents hf with ⟨hr, _⟩ | ⟨j', v'', p, e, hr, h4, h5, h6, h7, h8⟩
                  · cases hr
                  · simp only [Option.some.injEq, Prod.mk.injEq, Nat.zero_add] at hr h7
                    obtain ⟨rfl, _⟩ := hr
                    have hfk := run_findKey (P := P) (g := g) (w := w) hdk h7
                    have hjl := (List.getElem?_eq_some_iff.1 h4).1
                    have hjs : j < ents.size := by omega
                    obtain ⟨ev, rel⟩ := rel_map hR hM hx (ents' := ents.eraseIdxIfInBounds j) (clock' := clock) (es' := es.eraseIdx j) (by rw [Array.eraseIdxIfInBounds, dif_pos hjs, List.length_eraseIdx, if_pos hjl, Array.size_eraseIdx, g4]) (fun i q en hq hen => by
                      have hen' : (ents.toList.eraseIdx j)[i]? = some en := by
                        rw [Array.eraseIdxIfInBounds, dif_pos hjs] at hen
                        rw [← Array.toList_eraseIdx]
                        simpa using hen
                      rw [List.getElem?_eraseIdx] at hq hen'
                      split at hq
                      · rename_i hij
                        rw [if_pos hij] at hen'
                        exact hents i q en hq hen'
                      · rename_i hij
                        rw [if_neg hij] at hen'
                        exact hents (i + 1) q en hq hen')
                    refine ⟨.tuple #[], _, ?_, ev, rel⟩
                    simp [Builtin.delete_, run_underlying hd, hg, hck, hfk, hset]
                · rename_i hf
                  simp only [Option.some.injEq] at h
                  subst h
                  rcases findNow_of hkey hk es ents.toList 0 _ (by simp [g4]) hents hf with ⟨_, h7⟩ | ⟨j', v'', p, e, hr, h4, h5, h6, h7, h8⟩
                  · have hfk := run_findKey (P := P) (g := g) (w := w) hdk h7
                    obtain ⟨ev, rel⟩ := rel_map hR hM hx (ents' := ents) (clock' := clock) (es' := es) g4 g5
                    refine ⟨.tuple #[], _, ?_, ev, rel⟩
                    simp [Builtin.delete_, run_underlying hd, hg, hck, hfk, hset]
                  · cases hr
                · cases h
        · cases h
      · cases h
    · cases h
  · cases h

end Go.X
set_option linter.unusedVariables false
set_option linter.unusedSimpArgs false
set_option linter.unusedSectionVars false
set_option maxRecDepth 100000
namespace Go.X
open Go.RowKit

/-! ### calls -/
def ArgsR (g : Gh) (w : World) (args : List AV) (vs : Array Value) : Prop := args.length = vs.size ∧ ∀ (i : Nat) (x : AV) (v : Value), args[i]? = some x → vs[i]? = some v → ConcA g w x v

def CallsX (P : Program) (f : FuncId) (vs : Array Value) (g : Gh) (w : World) (K : AV → Mem → Prop) : Prop :=
  Calls P f vs w fun e w' => ∃ rv v g' M', e = .returned rv ∧ K v M' ∧ Ev g w g' w' ∧ ConcA g' w' v rv ∧ Rel g' M' w'

def bodyOk (P : Program) (f : FuncId) : Bool := match P.funcs[f]? with | some fn => fn.body.isSome && fn.name != "runtime.NumGoroutine" | none => false

def XCalls (P : Program) (f : FuncId) (args : List AV) (M : Mem) (K : AV → Mem → Prop) : Prop :=
  bodyOk P f = true ∧ ∀ g w vs, g.P = P → ArgsR g w args vs → Rel g M w → CallsX P f vs g w K

theorem XCalls.mono {P : Program} {f : FuncId} {args : List AV} {M : Mem} {K K' : AV → Mem → Prop} (h : XCalls P f args M K) (hk : ∀ v M', K v M' → K' v M') : XCalls P f args M K' :=
  ⟨h.1, fun g w vs hP ha hR => (h.2 g w vs hP ha hR).mono fun e w' ⟨rv, v, g', M', h1, h2, h3⟩ => ⟨rv, v, g', M', h1, hk _ _ h2, h3⟩⟩
theorem XCalls.le {P : Program} {f : FuncId} {args : List AV} {M M' : Mem} {K : AV → Mem → Prop} (h : XCalls P f args M K) (hle : M.le M') : XCalls P f args M' K :=
  ⟨h.1, fun g w vs hP ha hR => h.2 g w vs hP ha (hR.le hle)⟩
/-! ### an operation -/
def OpX (P : Program) (s : Sem Next) (g : Gh) (w : World) (K : AV → Mem → Prop) : Prop :=
  (∃ c w' g' v M', (s.run P w = .ok (.value c) w' ∨ (s.run P w = .ok .skip w' ∧ c = undef)) ∧ K v M' ∧ Ev g w g' w' ∧ ConcA g' w' v c ∧ Rel g' M' w') ∨
  (∃ f vs, s.run P w = .ok (.enter f vs) w ∧ CallsX P f vs g w K)

theorem opx_wp {P : Program} {o : Oper} {a : Act} {g : Gh} {w : World} {K : AV → Mem → Prop} {Kc : Act → World → Prop} {Qc : Exit → Act → World → Prop} (h : OpX P (execOp a.eval o) g w K)
    (hk : ∀ v c g' M' w', K v M' → Ev g w g' w' → ConcA g' w' v c → Rel g' M' w' → Kc (a.put o.dst c) w') : o.wp P a w Kc Qc := by
  unfold Oper.wp
  rcases h with ⟨c, w', g', v, M', hrun, h1, h2, h3, h4⟩ | ⟨f, vs, hrun, hc⟩
  · rcases hrun with hrun | ⟨hrun, rfl⟩
    · rw [hrun]
      exact hk v c g' M' w' h1 h2 h3 h4
    · rw [hrun]
      exact hk v undef g' M' w' h1 h2 h3 h4
  · rw [hrun]
    refine hc.mono fun e w' ⟨rv, v, g', M', he, h1, h2, h3, h4⟩ => ?_
    subst he
    exact hk v rv g' M' w' h1 h2 h3 h4

/-! ### frames -/
structure FrR (g : Gh) (w : World) (n : Nat) (fr : Fr) (a : Act) : Prop where
  defers : a.defers = []
  size : a.tmps.size = n
  get : ∀ i, i < n → ConcA g w (fr i) (a.tmps.getD i undef)

def opndOk (n : Nat) : Operand → Bool
  | .tmp t => decide (t < n)
  | _ => true
def operOk (n : Nat) (o : Oper) : Bool := o.op.operands.toList.all (opndOk n) && (match o.dst with | some d => decide (d < n) | none => true)

theorem FrR.eval {g : Gh} {w : World} {n : Nat} {fr : Fr} {a : Act} (h : FrR g w n fr a) {x : Operand} (hx : opndOk n x = true) : ConcA g w (ev fr x) (a.eval x) := by
  cases x with
  | tmp t => exact h.get t (by simpa [opndOk] using hx)
  | const v => exact conc_absV g w v
  | global _ => exact .any _
  | func f => exact .l (.clo [] rfl (fun i x v hx => by simp at hx))

theorem FrR.ev {g g' : Gh} {w w' : World} {n : Nat} {fr : Fr} {a : Act} (h : FrR g w n fr a) (e : Ev g w g' w') : FrR g' w' n fr a := ⟨h.defers, h.size, fun i hi => (h.get i hi).ev e⟩

theorem FrR.put {g : Gh} {w : World} {n : Nat} {fr : Fr} {a : Act} (h : FrR g w n fr a) {d : Option Nat} {v : AV} {c : Value} (hc : ConcA g w v c) : FrR g w n (updO fr d v) (a.put d c) := by
  cases d with
  | none => exact h
  | some d =>
    refine ⟨h.defers, by simp [Act.put, h.size], fun i hi => ?_⟩
    simp only [updO, upd, Act.put]
    split
    · rename_i hd
      subst hd
      have : d < a.tmps.size := by rw [h.size]; exact hi
      simp [this]
      exact hc
    · rename_i hd
      have := h.get i hi
      simpa [Array.getElem?_setIfInBounds, hd] using this

/-! ### the operations' rule -/
def pickA (t : Bool) (x y : AV) : AV := if t then x else y
def pickK (c x y : AV) (K : AV → Prop) : Prop := match c with | .l (.bool t) => K (pickA t x y) | _ => False
def nilChk : AV → Option AV
  | .l (.ptr id r c) => some (.l (.ptr id r c))
  | .l (.rp cs) => some (.l (.rp cs))
  | .l (.clo f cs) => some (.l (.clo f cs))
  | _ => none
def capsA : List AV → Option (List Lf)
  | [] => some []
  | .l x :: r => (capsA r).map (x :: ·)
  | _ :: _ => none
def extractA : AV → Nat → Option AV
  | .tup vs, i => vs[i]?
  | _, _ => none
def fieldA (P : Program) (t : TypeId) (x : AV) (f : Nat) : Option AV :=
  match tiOf P t, x with
  | some i, .agg cs => match i.d with
    | .struct fs => match fs[f]? with
      | some (off, ft) => match tiOf P ft with
        | some j => packV j.agg j.size (cs.drop off)
        | none => none
      | none => none
    | _ => none
  | _, _ => none
def indexA (P : Program) (t : TypeId) (x i : AV) : Option AV :=
  match tiOf P t, x, i with
  | some ti, .l (.str s), .l (.int _ n) => match ti.d with
    | .string => if 0 ≤ n then (match s.data[n.toNat]? with | some b => some (.l (.int .u8 b.toNat)) | none => none) else none
    | _ => none
  | some ti, .agg cs, .l (.int _ n) => match ti.d with
    | .array len e => match tiOf P e with
      | some te => if 0 ≤ n ∧ n < len then packV te.agg te.size (cs.drop (n.toNat * te.size)) else none
      | none => none
    | _ => none
  | _, _, _ => none

def builtG (N : (Nat → Prop) → Prop) (P : Program) (b : Builtin) (ts : List TypeId) (xs : List AV) (M : Mem) (K : AV → Mem → Prop) : Prop :=
  match b, ts, xs with
  | .len, [t], [x] => optK (lenA P M t x) fun v => K v M
  | .append, [t, tx], [s, x] => appendA N P M t tx s x K
  | .clear, [t], [x] => optK (clearA P M t x) fun M' => K .any M'
  | .cap, [t], [.l .nils] => (match tiOf P t with | some i => (match i.d with | .slice _ => K (.l (.int .i64 0)) M | _ => False) | none => False)
  | .delete, t :: _, [m, k] => optK (mapDelA P M t m k) fun M' => K .any M'
  | .min, [_, _], [.l (.int k x), .l (.int _ y)] => K (.l (.int k (if y < x then y else x))) M
  | .max, [_, _], [.l (.int k x), .l (.int _ y)] => K (.l (.int k (if y > x then y else x))) M
  | _, _, _ => False

def dynK (P : Program) (t : AV) (args : List AV) (M : Mem) (K : AV → Mem → Prop) : Prop := match t with | .l (.clo f cs) => XCalls P f (args ++ cs.map .l) M K | _ => False
/-- A call, where an id is at hand. -/
def XCallsN (N : (Nat → Prop) → Prop) (P : Program) (f : FuncId) (args : List AV) (M : Mem) (K : AV → Mem → Prop) : Prop :=
  bodyOk P f = true ∧ ∀ g w vs, g.P = P → ArgsR g w args vs → Rel g M w → (∀ F : Nat → Prop, N F → ∃ id, g.blk id = none ∧ M id = none ∧ ¬ g.res id ∧ F id) → CallsX P f vs g w K
theorem XCalls.n {N : (Nat → Prop) → Prop} {P : Program} {f : FuncId} {args : List AV} {M : Mem} {K : AV → Mem → Prop} (h : XCalls P f args M K) : XCallsN N P f args M K := ⟨h.1, fun g w vs hP hA hR _ => h.2 g w vs hP hA hR⟩
theorem XCallsN_eq (P : Program) (f : FuncId) (args : List AV) (M : Mem) (K : AV → Mem → Prop) : XCallsN (newK M) P f args M K = XCalls P f args M K :=
  propext ⟨fun h => ⟨h.1, fun g w vs hP hA hR => h.2 g w vs hP hA hR fun _ hF => newK_pick hR hF⟩, fun h => h.n⟩
theorem XCallsN.mono {N : (Nat → Prop) → Prop} {P : Program} {f : FuncId} {args : List AV} {M : Mem} {K K' : AV → Mem → Prop} (h : XCallsN N P f args M K) (hk : ∀ v M', K v M' → K' v M') : XCallsN N P f args M K' :=
  ⟨h.1, fun g w vs hP ha hR hN => (h.2 g w vs hP ha hR hN).mono fun e w' ⟨rv, v, g', M', h1, h2, h3⟩ => ⟨rv, v, g', M', h1, hk _ _ h2, h3⟩⟩

def callG (N : (Nat → Prop) → Prop) (P : Program) (c : Call) (fr : Fr) (M : Mem) (K : AV → Mem → Prop) : Prop :=
  match c.callee with
  | .value (.func f) => XCallsN N P f (c.args.toList.map (ev fr)) M K
  | .value (.tmp t) => dynK P (fr t) (c.args.toList.map (ev fr)) M K
  | .builtin b => builtG N P b c.argTypes.toList (c.args.toList.map (ev fr)) M K
  | _ => False

def vopcG (N : (Nat → Prop) → Prop) (P : Program) (op : Op) (fr : Fr) (M : Mem) (K : AV → Mem → Prop) : Prop :=
  match op with
  | .move x => K (ev fr x) M
  | .assign x => K (ev fr x) M
  | .pick c a b => pickK (ev fr c) (ev fr a) (ev fr b) fun v => K v M
  | .alloc T => optK (tiOf P T) fun i => optK (avCells i.zero) fun cs => cs.length = i.size ∧ N fun id => K (.l (.ptr id 0 0)) (M.set id (.cells T [cs] 0))
  | .box T x => optK (tiOf P T) fun i => optK (avCells (ev fr x)) fun cs => cs.length = i.size ∧ N fun id => K (.l (.ptr id 0 0)) (M.set id (.cells T [cs] 0))
  | .build t parts => optK (buildA P t (parts.toList.map fun p => (p.1, ev fr p.2))) fun v => K v M
  | .buildSlice t len parts => optK (buildSliceA P t len (parts.toList.map fun p => (p.1, ev fr p.2))) fun r => N fun id => K (.l (.ms id 0 len)) (M.set id (.cells r.1 r.2 0))
  | .load t x => optK (loadA P M t (ev fr x)) fun v => K v M
  | .store t x v => optK (storeA P M t (ev fr x) (ev fr v)) fun M' => K .any M'
  | .nilCheck x => optK (nilChk (ev fr x)) fun v => K v M
  | .binOp op t x y _ => binK P op t x y (ev fr x) (ev fr y) fun v => K v M
  | .unOp op _ x => optK (unA op (ev fr x)) fun v => K v M
  | .convert s d x => optK (convM P M s d (ev fr x)) fun v => K v M
  | .makeFunc fn first caps => (match fn with | .func f => first.size = 0 ∧ optK (capsA (caps.toList.map (ev fr))) fun cs => K (.l (.clo f cs)) M | _ => False)
  | .makeSlice t l c => optK (makeSliceA P t (ev fr l) (ev fr c)) fun r => N fun id => K (.l (.ms id 0 r.2.length)) (M.set id (.cells r.1 r.2 0))
  | .makeMap _ r => (match r with | none => N fun id => K (.l (.mp id)) (M.set id (.map [])) | some _ => False)
  | .slice t x lo hi mx => optK (sliceA P M t (ev fr x) (lo.map (ev fr)) (hi.map (ev fr)) (mx.map (ev fr))) fun v => K v M
  | .fieldAddr s x f => optK (fieldAddrA P s (ev fr x) f) fun v => K v M
  | .field t x f => optK (fieldA P t (ev fr x) f) fun v => K v M
  | .indexAddr t x i => optK (indexAddrA P M t (ev fr x) (ev fr i)) fun v => K v M
  | .index t x i => optK (indexA P t (ev fr x) (ev fr i)) fun v => K v M
  | .lookup t m k ok => optK (lookupA P M t (ev fr m) (ev fr k) ok) fun v => K v M
  | .mapUpdate t m k v => optK (mapUpdA P M t (ev fr m) (ev fr k) (ev fr v)) fun M' => K .any M'
  | .extract x i => optK (extractA (ev fr x) i) fun v => K v M
  | .call c => callG N P c fr M K
  | _ => False
def builtK (P : Program) (b : Builtin) (ts : List TypeId) (xs : List AV) (M : Mem) (K : AV → Mem → Prop) : Prop := builtG (newK M) P b ts xs M K
def vopc (P : Program) (op : Op) (fr : Fr) (M : Mem) (K : AV → Mem → Prop) : Prop := vopcG (newK M) P op fr M K


theorem optK_elim {α : Type} {o : Option α} {K : α → Prop} (h : optK o K) : ∃ a, o = some a ∧ K a := by
  cases o with
  | none => exact h.elim
  | some a => exact ⟨a, rfl, h⟩

theorem OpX.val {P : Program} {s : Sem Value} {g : Gh} {w : World} {K : AV → Mem → Prop} {c : Value} {w' : World} {g' : Gh} {v : AV} {M' : Mem} (hr : s.run P w = .ok c w') (hk : K v M') (e : Ev g w g' w') (hc : ConcA g' w' v c) (hR : Rel g' M' w') :
    OpX P (do pure (.value (← s))) g w K := .inl ⟨c, w', g', v, M', .inl (by simp [hr]), hk, e, hc, hR⟩
theorem OpX.unit {P : Program} {s : Sem Unit} {g : Gh} {w : World} {K : AV → Mem → Prop} {w' : World} {g' : Gh} {v : AV} {M' : Mem} (hr : s.run P w = .ok () w') (hk : K v M') (e : Ev g w g' w') (hc : ConcA g' w' v undef) (hR : Rel g' M' w') :
    OpX P (do s; pure .skip) g w K := .inl ⟨undef, w', g', v, M', .inr ⟨by simp [hr], rfl⟩, hk, e, hc, hR⟩

theorem map_get {fr : Fr} {l : List Operand} {i : Nat} {x : AV} (h : (l.map (ev fr))[i]? = some x) : ∃ o, l[i]? = some o ∧ x = ev fr o := by
  rw [List.getElem?_map] at h
  cases ho : l[i]? with
  | none => rw [ho] at h; cases h
  | some o => rw [ho] at h; simp only [Option.map_some, Option.some.injEq] at h; exact ⟨o, rfl, h.symm⟩

theorem args_eval {g : Gh} {w : World} {n : Nat} {fr : Fr} {a : Act} (h : FrR g w n fr a) (xs : Array Operand) (hx : xs.toList.all (opndOk n) = true) : ArgsR g w (xs.toList.map (ev fr)) (xs.map a.eval) := by
  refine ⟨by simp, fun i x v hi hv => ?_⟩
  obtain ⟨o, ho, rfl⟩ := map_get hi
  have hv' : v = a.eval o := by
    have ho' : xs[i]? = some o := by simpa using ho
    rw [Array.getElem?_map, ho'] at hv
    simpa using hv.symm
  subst hv'
  exact h.eval (List.all_eq_true.1 hx o (List.mem_of_getElem? ho))

theorem capsA_spec {g : Gh} {w : World} {n : Nat} {fr : Fr} {a : Act} (h : FrR g w n fr a) : ∀ (xs : List Operand) (cs : List Lf), xs.all (opndOk n) = true → capsA (xs.map (ev fr)) = some cs → cs.length = (xs.map a.eval).length ∧
    ∀ (i : Nat) (x : Lf) (v : Value), cs[i]? = some x → (xs.map a.eval)[i]? = some v → Conc g w x v
  | [], cs, _, hc => by simp [capsA] at hc; subst hc; exact ⟨rfl, fun i x v hx => by simp at hx⟩
  | o :: xs, cs, hok, hc => by
    simp only [List.all_cons, Bool.and_eq_true] at hok
    simp only [List.map_cons] at hc
    have he := h.eval hok.1
    generalize hev : ev fr o = eo at hc he
    cases eo with
    | l x =>
      simp only [capsA] at hc
      cases hr : capsA (xs.map (ev fr)) with
      | none => rw [hr] at hc; cases hc
      | some r =>
        rw [hr] at hc
        simp only [Option.map_some, Option.some.injEq] at hc
        subst hc
        obtain ⟨h1, h2⟩ := capsA_spec h xs r hok.2 hr
        refine ⟨by simp [h1], fun i y v hy hv => ?_⟩
        cases i with
        | zero =>
          simp only [List.getElem?_cons_zero, Option.some.injEq, List.map_cons] at hy hv
          subst hy; subst hv
          cases he with | l he => exact he
        | succ i => exact h2 i y v (by simpa using hy) (by simpa using hv)
    | agg _ => simp [capsA] at hc
    | tup _ => simp [capsA] at hc
    | any => simp [capsA] at hc

theorem run_callFunc {P : Program} {f : FuncId} {w : World} (h : bodyOk P f = true) (vs : Array Value) : (callFunc f vs).run P w = .ok (.enter f vs) w := by
  unfold bodyOk at h
  split at h
  · rename_i fn hfn
    simp only [Bool.and_eq_true, bne_iff_ne, ne_eq] at h
    obtain ⟨h1, h2⟩ := h
    have h3 : fn.body.isNone = false := by
      cases hb : fn.body with
      | none => rw [hb] at h1; cases h1
      | some _ => rfl
    have h4 : fn.body ≠ none := by intro hn; rw [hn] at h3; cases h3
    simp [callFunc, hfn, h2, h4]
  · cases h

theorem len1 {α : Type} {l : List α} (h : 1 = l.length) : ∃ a, l = [a] := List.length_eq_one_iff.1 h.symm
theorem len2 {α : Type} {l : List α} (h : 2 = l.length) : ∃ a b, l = [a, b] := by
  match l, h with
  | [a, b], _ => exact ⟨a, b, rfl⟩

theorem builtG_sound {P : Program} {g : Gh} {M : Mem} {w : World} (hP : g.P = P) (hR : Rel g M w) {N : (Nat → Prop) → Prop} (hN : ∀ F : Nat → Prop, N F → ∃ id, g.blk id = none ∧ M id = none ∧ ¬ g.res id ∧ F id) {b : Builtin} {ts : List TypeId} {ty : TypeId} {cs : Array Bool} {xs : List AV} {vs : List Value} {K : AV → Mem → Prop}
    (hl : xs.length = vs.length) (hx : ∀ (i : Nat) (x : AV) (v : Value), xs[i]? = some x → vs[i]? = some v → ConcA g w x v) (h : builtG N P b ts xs M K) : OpX P (builtin b ts.toArray ty cs vs.toArray) g w K := by
  unfold builtG at h
  split at h
  · obtain ⟨v, hv, hk⟩ := optK_elim h
    obtain ⟨c, rfl⟩ := len1 hl
    obtain ⟨c', hr, hcc⟩ := run_lenA (P := P) (ty := ty) hR (hx 0 _ c rfl rfl) hv
    exact OpX.val hr hk (Ev.refl _ _) hcc hR
  · obtain ⟨c1, c2, rfl⟩ := len2 hl
    obtain ⟨c', w', g', v, M', hr, hk, e, hcc, hR'⟩ := run_appendA (P := P) (ty := ty) hP hR (hx 0 _ c1 rfl rfl) (hx 1 _ c2 rfl rfl) hN h
    exact OpX.val hr hk e hcc hR'
  · obtain ⟨M', hv, hk⟩ := optK_elim h
    obtain ⟨c, rfl⟩ := len1 hl
    obtain ⟨c', w', hr, e, hR'⟩ := run_clearA (P := P) (ty := ty) hP hR (hx 0 _ c rfl rfl) hv
    exact OpX.val hr hk e (.any _) hR'
  · split at h
    · rename_i ti hti
      obtain ⟨_, d, _, _, hd, _, _, _, _, _, hdd⟩ := ti_spec hti
      split at h
      · rename_i e he
        rw [hdd] at he
        have := tdOf_slice he
        subst this
        obtain ⟨c, rfl⟩ := len1 hl
        have hcc := hx 0 _ c rfl rfl
        cases hcc with
        | l hcc =>
          cases hcc with
          | nils => exact OpX.val (c := .int .i64 0) (by simp [Builtin.cap_, run_underlying hd, goInt]) h (Ev.refl _ _) (.l (.int _ _)) hR
      · exact h.elim
    · exact h.elim
  · rename_i t rest m k
    obtain ⟨M', hv, hk⟩ := optK_elim h
    obtain ⟨c1, c2, rfl⟩ := len2 hl
    have key : ∃ c w', (Builtin.delete_ (t :: rest).toArray ty #[c1, c2]).run P w = .ok c w' ∧ Ev g w g w' ∧ Rel g M' w' := by
      obtain ⟨c', w', hr, e, hR'⟩ := run_mapDelA (P := P) (t' := t) (ty := ty) hR (hx 0 m c1 rfl rfl) (hx 1 k c2 rfl rfl) hv
      refine ⟨c', w', ?_, e, hR'⟩
      rw [← hr]
      simp [Builtin.delete_]
    obtain ⟨c', w', hr, e, hR'⟩ := key
    exact OpX.val hr hk e (.any _) hR'
  · obtain ⟨c1, c2, rfl⟩ := len2 hl
    have e1 := conc_int (hx 0 _ c1 rfl rfl)
    have e2 := conc_int (hx 1 _ c2 rfl rfl)
    subst e1; subst e2
    exact OpX.val (run_min_int2 w _ ty _ _ _ _) h (Ev.refl _ _) (.l (.int _ _)) hR
  · obtain ⟨c1, c2, rfl⟩ := len2 hl
    have e1 := conc_int (hx 0 _ c1 rfl rfl)
    have e2 := conc_int (hx 1 _ c2 rfl rfl)
    subst e1; subst e2
    exact OpX.val (run_max_int2 w _ ty _ _ _ _) h (Ev.refl _ _) (.l (.int _ _)) hR
  · exact h.elim

/-! ### an operation's rule is true -/
theorem callG_sound {P : Program} {g : Gh} {M : Mem} {w : World} (hP : g.P = P) (hR : Rel g M w) {N : (Nat → Prop) → Prop} (hN : ∀ F : Nat → Prop, N F → ∃ id, g.blk id = none ∧ M id = none ∧ ¬ g.res id ∧ F id) {n : Nat} {fr : Fr} {a : Act} (hF : FrR g w n fr a) {c : Call} {ty : TypeId} (hok : c.operands.toList.all (opndOk n) = true) {K : AV → Mem → Prop} (h : callG N P c fr M K) :
    OpX P (do let d ← resolve a.eval c ty; invoke d.target d.args) g w K := by
  have hargs : c.args.toList.all (opndOk n) = true := by
    refine List.all_eq_true.2 fun x hx => List.all_eq_true.1 hok x ?_
    simp only [Call.operands, Array.toList_append, List.mem_append]
    exact .inr hx
  have hA := args_eval hF c.args hargs
  unfold callG at h
  split at h
  · rename_i f hc
    refine .inr ⟨f, c.args.map a.eval, ?_, h.2 g w _ hP hA hR hN⟩
    simp [resolve, hc, Deferred.ofValue, Act.eval, invoke, run_callFunc h.1]
  · rename_i t hc
    unfold dynK at h
    split at h
    · rename_i f cs hfr
      have ht : opndOk n (.tmp t) = true := List.all_eq_true.1 hok _ (by simp [Call.operands, hc])
      have hv := hF.eval ht
      simp only [ev, hfr] at hv
      cases hv with
      | l hv =>
        generalize he : a.eval (.tmp t) = cv at hv
        cases hv with
        | clo vs hl hcc =>
          refine .inr ⟨f, c.args.map a.eval ++ vs.toArray, ?_, h.2 g w _ hP ⟨by simp [hA.1, hl], fun i x v hx hv => ?_⟩ hR⟩
          · simp [resolve, hc, Deferred.ofValue, he, invoke, run_callFunc h.1]
          · by_cases hi : i < c.args.size
            · rw [List.getElem?_append_left (by simpa using hi)] at hx
              rw [Array.getElem?_append_left (by simpa using hi)] at hv
              exact hA.2 i x v hx hv
            · rw [List.getElem?_append_right (by simpa using hi)] at hx
              rw [Array.getElem?_append_right (by simpa using hi)] at hv
              simp only [List.length_map, Array.length_toList, List.getElem?_map, Array.size_map, List.getElem?_toArray] at hx hv
              cases hx' : cs[i - c.args.size]? with
              | none => rw [hx'] at hx; cases hx
              | some y =>
                rw [hx'] at hx
                simp only [Option.map_some, Option.some.injEq] at hx
                subst hx
                exact .l (hcc _ y v hx' hv)
    · exact h.elim
  · rename_i b hc
    have := builtG_sound (cs := c.args.map fun | .const _ => true | _ => false) (ty := ty) hP hR hN (vs := (c.args.map a.eval).toList) (by simp) (fun i x v hx hv => hA.2 i x v hx (by simpa using hv)) h
    have e1 : (c.args.map a.eval).toList.toArray = c.args.map a.eval := Array.toArray_toList
    have e2 : c.argTypes.toList.toArray = c.argTypes := by simp
    rw [e1, e2] at this
    simp only [resolve, hc]
    exact this
  · exact h.elim

theorem parts_eval {g : Gh} {w : World} {n : Nat} {fr : Fr} {a : Act} (hF : FrR g w n fr a) {parts : Array (Nat × Operand)} (hok : (parts.toList.map (·.2)).all (opndOk n) = true) (k : Nat) (p : Nat × AV) (q : Nat × Value)
    (hp : (parts.toList.map fun p => (p.1, ev fr p.2))[k]? = some p) (hq : (parts.map fun x : Nat × Operand => (x.1, a.eval x.2)).toList[k]? = some q) : p.1 = q.1 ∧ ConcA g w p.2 q.2 := by
  rw [Array.toList_map, List.getElem?_map] at hq
  rw [List.getElem?_map] at hp
  cases hx : parts.toList[k]? with
  | none => rw [hx] at hp; cases hp
  | some x =>
    rw [hx] at hp hq
    simp only [Option.map_some, Option.some.injEq] at hp hq
    subst hp; subst hq
    exact ⟨rfl, hF.eval (List.all_eq_true.1 hok _ (List.mem_map.2 ⟨x, List.mem_of_getElem? hx, rfl⟩))⟩

theorem vopcG_sound {P : Program} {g : Gh} {M : Mem} {w : World} (hP : g.P = P) (hR : Rel g M w) {N : (Nat → Prop) → Prop} (hN : ∀ F : Nat → Prop, N F → ∃ id, g.blk id = none ∧ M id = none ∧ ¬ g.res id ∧ F id) {n : Nat} {fr : Fr} {a : Act} (hF : FrR g w n fr a) {o : Oper} (hok : o.op.operands.toList.all (opndOk n) = true) {K : AV → Mem → Prop} (h : vopcG N P o.op fr M K) :
    OpX P (execOp a.eval o) g w K := by
  obtain ⟨dst, op, type, pos, after, guard⟩ := o
  simp only at hok h
  have E : ∀ x, x ∈ op.operands.toList → ConcA g w (ev fr x) (a.eval x) := fun x hx => hF.eval (List.all_eq_true.1 hok x hx)
  unfold execOp
  cases op with
  | move x => exact .inl ⟨_, w, g, _, M, .inl rfl, h, Ev.refl _ _, E x (by simp [Op.operands]), hR⟩
  | assign x => exact .inl ⟨_, w, g, _, M, .inl rfl, h, Ev.refl _ _, E x (by simp [Op.operands]), hR⟩
  | pick c x y =>
    have hc := E c (by simp [Op.operands])
    have hx := E x (by simp [Op.operands])
    have hy := E y (by simp [Op.operands])
    simp only [vopcG] at h
    unfold pickK at h
    split at h
    · rename_i t ht
      rw [ht] at hc
      have := conc_bool hc
      refine .inl ⟨if t then a.eval x else a.eval y, w, g, _, M, .inl ?_, h, Ev.refl _ _, ?_, hR⟩
      · simp [this, asBool]
      · cases t
        · exact hy
        · exact hx
    · exact h.elim
  | alloc T =>
    simp only [vopcG] at h
    obtain ⟨i, hi, h⟩ := optK_elim h
    obtain ⟨cs, hcs, hsz, h⟩ := optK_elim h
    obtain ⟨id, hg, hM, hr0, hk⟩ := hN _ h
    obtain ⟨vs, hv, hr⟩ := run_alloc' hi hcs g w
    obtain ⟨inf, _, _, hinf, _, _, hs, _⟩ := ti_spec hi
    obtain ⟨e, rel, hc⟩ := rel_box hR hg hM hr0 T hv (by rw [hP, hsz, hs]; simp [szOf, hinf])
    exact OpX.val hr hk e (.l hc) rel
  | box T x =>
    simp only [vopcG] at h
    obtain ⟨i, hi, h⟩ := optK_elim h
    obtain ⟨cs, hcs, hsz, h⟩ := optK_elim h
    obtain ⟨id, hg, hM, hr0, hk⟩ := hN _ h
    have hv := avCells_conc (E x (by simp [Op.operands])) hcs
    obtain ⟨inf, _, _, hinf, _, _, hs, _⟩ := ti_spec hi
    obtain ⟨e, rel, hc⟩ := rel_box hR hg hM hr0 T hv (by rw [hP, hsz, hs]; simp [szOf, hinf])
    exact OpX.val (run_box' T g w _) hk e (.l hc) rel
  | build t parts =>
    simp only [vopcG] at h
    obtain ⟨v, hv, hk⟩ := optK_elim h
    obtain ⟨c, hr, hc⟩ := run_buildA (P := P) (w := w) (cparts := parts.map fun x : Nat × Operand => (x.1, a.eval x.2)) (by simp) (parts_eval hF (by simpa [Op.operands] using hok)) hv
    exact OpX.val hr hk (Ev.refl _ _) hc hR
  | buildSlice t len parts =>
    simp only [vopcG] at h
    obtain ⟨⟨e, rows⟩, hv, h⟩ := optK_elim h
    obtain ⟨id, hg, hM, hr0, hk⟩ := hN _ h
    obtain ⟨c, w', g', hr, ev, hc, hR'⟩ := run_buildSliceA (P := P) (w := w) (cparts := parts.map fun x : Nat × Operand => (x.1, a.eval x.2)) hP hR (by simp) (parts_eval hF (by simpa [Op.operands] using hok)) hv hg hM hr0
    exact OpX.val hr hk ev (.l hc) hR'
  | load t x =>
    simp only [vopcG] at h
    obtain ⟨v, hv, hk⟩ := optK_elim h
    obtain ⟨c, hr, hc⟩ := run_loadA (P := P) hR (E x (by simp [Op.operands])) hv
    exact OpX.val hr hk (Ev.refl _ _) hc hR
  | store t x y =>
    simp only [vopcG] at h
    obtain ⟨M', hv, hk⟩ := optK_elim h
    obtain ⟨w', hr, ev, hR'⟩ := run_storeA (P := P) hR (E x (by simp [Op.operands])) (E y (by simp [Op.operands])) hv
    exact OpX.unit hr hk ev (.any _) hR'
  | nilCheck x =>
    simp only [vopcG] at h
    obtain ⟨v, hv, hk⟩ := optK_elim h
    have hx := E x (by simp [Op.operands])
    generalize ev fr x = ex at hv hx
    generalize hcx : a.eval x = cx at hx
    unfold nilChk at hv
    split at hv
    · simp only [Option.some.injEq] at hv
      subst hv
      cases hx with
      | l hx =>
        cases hx with
        | ptr hb => exact .inl ⟨_, w, g, _, M, .inl (by simp only [hcx]; rfl), hk, Ev.refl _ _, .l (.ptr hb), hR⟩
    · simp only [Option.some.injEq] at hv
      subst hv
      cases hx with
      | l hx =>
        obtain ⟨b, o, rfl, _⟩ := conc_rp hx
        exact .inl ⟨_, w, g, _, M, .inl (by simp only [hcx]; rfl), hk, Ev.refl _ _, .l hx, hR⟩
    · simp only [Option.some.injEq] at hv
      subst hv
      cases hx with
      | l hx =>
        cases hx with
        | clo cs hl hc => exact .inl ⟨_, w, g, _, M, .inl (by simp only [hcx]; rfl), hk, Ev.refl _ _, .l (.clo cs hl hc), hR⟩
    · cases hv
  | binOp op t x y yt =>
    simp only [vopcG] at h
    obtain ⟨c, v, hr, hk, hc⟩ := run_binK (P := P) (E x (by simp [Op.operands])) (E y (by simp [Op.operands])) (fun hn => by
      unfold isNilS at hn
      split at hn
      · rfl
      · cases hn) h
    exact OpX.val hr hk (Ev.refl _ _) hc hR
  | unOp op t x =>
    simp only [vopcG] at h
    obtain ⟨v, hv, hk⟩ := optK_elim h
    obtain ⟨c, hr, hc⟩ := run_unA (P := P) (E x (by simp [Op.operands])) hv
    exact OpX.val hr hk (Ev.refl _ _) hc hR
  | convert s d x =>
    simp only [vopcG] at h
    obtain ⟨v, hv, hk⟩ := optK_elim h
    obtain ⟨c, hr, hc⟩ := run_convM (P := P) hP hR (E x (by simp [Op.operands])) hv
    exact OpX.val hr hk (Ev.refl _ _) hc hR
  | makeFunc fn first caps =>
    simp only [vopcG] at h
    split at h
    · rename_i f
      obtain ⟨h0, h⟩ := h
      obtain ⟨cs, hcs, hk⟩ := optK_elim h
      have hf : first = #[] := Array.eq_empty_of_size_eq_zero h0
      subst hf
      obtain ⟨h1, h2⟩ := capsA_spec hF caps.toList cs (by simpa [Op.operands] using hok) hcs
      refine OpX.val (c := .func (.func f) #[] (caps.map a.eval)) (by simp [Instr.makeFunc]) hk (Ev.refl _ _) (.l ?_) hR
      have := Conc.clo (g := g) (w := w) (f := f) (caps := cs) (caps.toList.map a.eval) h1 h2
      have e1 : (caps.toList.map a.eval).toArray = caps.map a.eval := by apply Array.ext'; simp
      rw [e1] at this
      exact this
    · exact h.elim
  | makeSlice t l c =>
    simp only [vopcG] at h
    obtain ⟨⟨e, rows⟩, hv, h⟩ := optK_elim h
    obtain ⟨id, hg, hM, hr0, hk⟩ := hN _ h
    obtain ⟨c', w', g', hr, ev, hc, hR'⟩ := run_makeSliceA (P := P) (w := w) hP hR (E l (by simp [Op.operands])) (E c (by simp [Op.operands])) hv hg hM hr0
    exact OpX.val hr hk ev (.l hc) hR'
  | makeMap t r =>
    simp only [vopcG] at h
    split at h
    · obtain ⟨id, hg, hM, hr0, hk⟩ := hN _ h
      obtain ⟨ev, rel⟩ := rel_new_map hR hg hM hr0 (Grow1.alloc w (.map #[] 0))
      exact OpX.val (c := .map (some w.heap.size)) (w' := w.alloc (.map #[] 0)) (by simp [Instr.makeMap]) hk ev (.l (.mp (Gh.put_same g id (w.heap.size, 0, 0)))) rel
    · exact h.elim
  | slice t x lo hi mx =>
    simp only [vopcG] at h
    obtain ⟨v, hv, hk⟩ := optK_elim h
    have ho : ∀ (z : Option Operand), (∀ y, z = some y → y ∈ (Op.slice t x lo hi mx).operands.toList) → (z.map (ev fr) = none ↔ z.map a.eval = none) ∧ ∀ p q, z.map (ev fr) = some p → z.map a.eval = some q → ConcA g w p q := fun z hm => by
      cases z with
      | none => exact ⟨by simp, fun p q hp => by simp at hp⟩
      | some y => exact ⟨by simp, fun p q hp hq => by simp only [Option.map_some, Option.some.injEq] at hp hq; subst hp; subst hq; exact E y (hm y rfl)⟩
    obtain ⟨n1, c1⟩ := ho lo (fun y hy => by subst hy; simp [Op.operands])
    obtain ⟨n2, c2⟩ := ho hi (fun y hy => by subst hy; simp [Op.operands])
    obtain ⟨n3, c3⟩ := ho mx (fun y hy => by subst hy; simp [Op.operands])
    obtain ⟨c, hr, hc⟩ := run_sliceA (P := P) hP hR (E x (by simp [Op.operands])) n1 c1 n2 c2 n3 hv
    exact OpX.val hr hk (Ev.refl _ _) hc hR
  | fieldAddr s x f =>
    simp only [vopcG] at h
    obtain ⟨v, hv, hk⟩ := optK_elim h
    obtain ⟨c, hr, hc⟩ := run_fieldAddrA (P := P) (E x (by simp [Op.operands])) hv
    exact OpX.val hr hk (Ev.refl _ _) hc hR
  | field t x f =>
    simp only [vopcG] at h
    obtain ⟨v, hv, hk⟩ := optK_elim h
    have hx := E x (by simp [Op.operands])
    generalize ev fr x = ex at hv hx
    unfold fieldA at hv
    split at hv
    · rename_i i cs hi
      obtain ⟨_, d, _, _, hd, _, _, _, _, _, hdd⟩ := ti_spec hi
      split at hv
      · rename_i fs hfs
        rw [hdd] at hfs
        obtain ⟨fields, rfl, rfl⟩ := tdOf_struct hfs
        split at hv
        · rename_i off ft hf
          split at hv
          · rename_i j hj
            obtain ⟨infj, dj, _, hinfj, hdj, _, hsj, _, haj, _, _⟩ := ti_spec hj
            cases hxx : a.eval x with
            | agg vals =>
              rw [hxx] at hx
              cases hx with
              | agg vs hvs =>
                rw [List.getElem?_map] at hf
                cases hff : fields.toList[f]? with
                | none => rw [hff] at hf; cases hf
                | some fl =>
                  rw [hff] at hf
                  simp only [Option.map_some, Option.some.injEq, Prod.mk.injEq] at hf
                  obtain ⟨rfl, rfl⟩ := hf
                  have hfa : fields[f]? = some fl := by simpa using hff
                  unfold packV at hv
                  rw [haj] at hv
                  split at hv
                  · rename_i hag
                    split at hv
                    · rename_i hle
                      simp only [Option.some.injEq] at hv
                      subst hv
                      refine OpX.val (c := .agg (vs.toArray.extract fl.offset (fl.offset + infj.size))) ?_ hk (Ev.refl _ _) ?_ hR
                      · simp [Instr.field, run_underlying hd, hfa, part, run_isAgg' hdj, hag, asAgg, hxx, run_sizeOf' hinfj]
                      · have := ConcA.agg ((vs.drop fl.offset).take j.size) ((hvs.drop fl.offset).take j.size)
                        have he : (vs.toArray.extract fl.offset (fl.offset + infj.size)) = ((vs.drop fl.offset).take j.size).toArray := by
                          rw [hsj]
                          apply Array.ext'
                          simp [List.extract]
                        rw [he]
                        exact this
                    · cases hv
                  · rename_i hag
                    cases hcd : cs.drop fl.offset with
                    | nil => rw [hcd] at hv; cases hv
                    | cons y ys =>
                      rw [hcd] at hv
                      simp only [List.head?_cons, Option.map_some, Option.some.injEq] at hv
                      subst hv
                      have hy : cs[fl.offset]? = some y := by
                        have : (cs.drop fl.offset)[0]? = some y := by rw [hcd]; rfl
                        rw [List.getElem?_drop] at this
                        simpa using this
                      obtain ⟨u, hu, hcu⟩ := hvs.get hy
                      have hu' : vs.toArray[fl.offset]? = some u := by simpa using hu
                      have hag' : tdAgg dj = false := by simpa using hag
                      refine OpX.val (c := u) ?_ hk (Ev.refl _ _) (.l hcu) hR
                      simp [Instr.field, run_underlying hd, hfa, part, run_isAgg' hdj, hag', asAgg, hxx, hu]
            | _ => rw [hxx] at hx; cases hx
          · cases hv
        · cases hv
      · cases hv
    · cases hv
  | indexAddr t x i =>
    simp only [vopcG] at h
    obtain ⟨v, hv, hk⟩ := optK_elim h
    obtain ⟨c, hr, hc⟩ := run_indexAddrA (P := P) hP hR (E x (by simp [Op.operands])) (E i (by simp [Op.operands])) hv
    exact OpX.val hr hk (Ev.refl _ _) hc hR
  | index t x i =>
    simp only [vopcG] at h
    obtain ⟨v, hv, hk⟩ := optK_elim h
    have hx := E x (by simp [Op.operands])
    have hi := E i (by simp [Op.operands])
    generalize ev fr x = ex at hv hx
    generalize ev fr i = ei at hv hi
    unfold indexA at hv
    split at hv
    · rename_i ti s k m hti
      obtain ⟨_, d, _, _, hd, _, _, _, _, _, hdd⟩ := ti_spec hti
      have h1 := conc_str hx
      have h2 := conc_int hi
      split at hv
      · rename_i hs
        rw [hdd] at hs
        have := tdOf_string hs
        subst this
        split at hv
        · rename_i h0
          split at hv
          · rename_i b hb
            simp only [Option.some.injEq] at hv
            subst hv
            have hb' : s[m.toNat]? = some b := hb
            exact OpX.val (c := .int .u8 b.toNat) (by simp [Instr.index, h1, h2, asIntOf, run_underlying hd, h0, hb']) hk (Ev.refl _ _) (.l (.int _ _)) hR
          · cases hv
        · cases hv
      · cases hv
    · rename_i ti cs k m hti
      obtain ⟨_, d, _, _, hd, _, _, _, _, _, hdd⟩ := ti_spec hti
      have h2 := conc_int hi
      split at hv
      · rename_i len e he
        rw [hdd] at he
        have := tdOf_array he
        subst this
        split at hv
        · rename_i te hte
          obtain ⟨infj, dj, _, hinfj, hdj, _, hsj, _, haj, _, _⟩ := ti_spec hte
          split at hv
          · rename_i hb
            cases hxx : a.eval x with
            | agg vals =>
              rw [hxx] at hx
              cases hx with
              | agg vs hvs =>
                unfold packV at hv
                rw [haj] at hv
                split at hv
                · rename_i hag
                  split at hv
                  · simp only [Option.some.injEq] at hv
                    subst hv
                    refine OpX.val (c := .agg (vs.toArray.extract (m.toNat * infj.size) (m.toNat * infj.size + infj.size))) ?_ hk (Ev.refl _ _) ?_ hR
                    · simp [Instr.index, hxx, h2, asIntOf, run_underlying hd, hb, run_sizeOf' hinfj, part, run_isAgg' hdj, hag]
                    · have := ConcA.agg ((vs.drop (m.toNat * te.size)).take te.size) ((hvs.drop (m.toNat * te.size)).take te.size)
                      have he : (vs.toArray.extract (m.toNat * infj.size) (m.toNat * infj.size + infj.size)) = ((vs.drop (m.toNat * te.size)).take te.size).toArray := by
                        rw [hsj]
                        apply Array.ext'
                        simp [List.extract]
                      rw [he]
                      exact this
                  · cases hv
                · rename_i hag
                  cases hcd : cs.drop (m.toNat * te.size) with
                  | nil => rw [hcd] at hv; cases hv
                  | cons y ys =>
                    rw [hcd] at hv
                    simp only [List.head?_cons, Option.map_some, Option.some.injEq] at hv
                    subst hv
                    have hy : cs[m.toNat * te.size]? = some y := by
                      have : (cs.drop (m.toNat * te.size))[0]? = some y := by rw [hcd]; rfl
                      rw [List.getElem?_drop] at this
                      simpa using this
                    obtain ⟨u, hu, hcu⟩ := hvs.get hy
                    rw [hsj] at hu
                    have hag' : tdAgg dj = false := by simpa using hag
                    refine OpX.val (c := u) ?_ hk (Ev.refl _ _) (.l hcu) hR
                    simp [Instr.index, hxx, h2, asIntOf, run_underlying hd, hb, run_sizeOf' hinfj, part, run_isAgg' hdj, hag', hu]
            | _ => rw [hxx] at hx; cases hx
          · cases hv
        · cases hv
      · cases hv
    · cases hv
  | lookup t m k ok =>
    simp only [vopcG] at h
    obtain ⟨v, hv, hk⟩ := optK_elim h
    obtain ⟨c, hr, hc⟩ := run_lookupA (P := P) hR (E m (by simp [Op.operands])) (E k (by simp [Op.operands])) hv
    exact OpX.val hr hk (Ev.refl _ _) hc hR
  | mapUpdate t m k x =>
    simp only [vopcG] at h
    obtain ⟨M', hv, hk⟩ := optK_elim h
    obtain ⟨w', hr, ev, hR'⟩ := run_mapUpdA (P := P) hR (E m (by simp [Op.operands])) (E k (by simp [Op.operands])) (E x (by simp [Op.operands])) hv
    exact OpX.unit hr hk ev (.any _) hR'
  | extract x i =>
    simp only [vopcG] at h
    obtain ⟨v, hv, hk⟩ := optK_elim h
    have hx := E x (by simp [Op.operands])
    generalize ev fr x = ex at hv hx
    generalize hcx : a.eval x = cx at hx
    cases ex with
    | tup xs =>
      simp only [extractA] at hv
      cases hx with
      | tup vs hl hc =>
        have hi := (List.getElem?_eq_some_iff.1 hv).1
        have hvi : vs[i]? = some (vs[i]'(by omega)) := List.getElem?_eq_getElem (by omega)
        exact OpX.val (c := vs[i]'(by omega)) (by simp [hcx, Instr.extract, hvi]) hk (Ev.refl _ _) (hc i v _ hv hvi) hR
    | l _ => cases hv
    | agg _ => cases hv
    | any => cases hv
  | call c =>
    simp only [vopcG] at h
    exact callG_sound hP hR hN hF (by simpa [Op.operands] using hok) h
  | _ => exact absurd h (by simp [vopcG])

theorem vopc_sound {P : Program} {g : Gh} {M : Mem} {w : World} (hP : g.P = P) (hR : Rel g M w) {n : Nat} {fr : Fr} {a : Act} (hF : FrR g w n fr a) {o : Oper} (hok : o.op.operands.toList.all (opndOk n) = true) {K : AV → Mem → Prop} (h : vopc P o.op fr M K) :
    OpX P (execOp a.eval o) g w K := vopcG_sound hP hR (fun _ hF => newK_pick hR hF) hF hok h

end Go.X
set_option linter.unusedVariables false
set_option linter.unusedSimpArgs false
set_option linter.unusedSectionVars false
set_option maxRecDepth 100000
namespace Go.X
open Go.RowKit

/-! ### regions whose order is the text's -/
/-- The slot of the operation that guards another one. -/
def gslot (ops : List Oper) (j : Nat) : Option Nat := (ops[j]?).bind (·.dst)
/-- Is the guarded operation carried out? -/
def gK (t : AV) (u : Bool) (A B : Prop) : Prop := match t with | .l (.bool b) => (b = u → A) ∧ (b = (!u) → B) | .tup [] => B | _ => False
theorem gK_skip (u : Bool) (A B : Prop) : gK (.tup []) u A B = B := rfl
/-- What a slot holds whose operation was passed over. -/
theorem conc_skip {g : Gh} {w : World} {v : Value} (h : ConcA g w (.tup []) v) : v = undef := by
  cases h with
  | tup vs hl h =>
    have : vs = [] := by cases vs with | nil => rfl | cons _ _ => simp at hl
    subst this; rfl
theorem skip_conc (g : Gh) (w : World) : ConcA g w (.tup []) undef := .tup [] rfl (fun i x v h => by simp at h)
theorem gK_true_true (A B : Prop) : gK (.l (.bool true)) true A B = A := by simp [gK]
theorem gK_false_false (A B : Prop) : gK (.l (.bool false)) false A B = A := by simp [gK]
theorem gK_true_false (A B : Prop) : gK (.l (.bool true)) false A B = B := by simp [gK]
theorem gK_false_true (A B : Prop) : gK (.l (.bool false)) true A B = B := by simp [gK]
def vops (P : Program) (ops : List Oper) : List Oper → (Fr → Mem → Prop) → Fr → Mem → Prop
  | [], K, fr, M => K fr M
  | o :: rest, K, fr, M =>
    match o.guard with
    | none => vopc P o.op fr M fun v M' => vops P ops rest K (updO fr o.dst v) M'
    | some (j, u) => match gslot ops j with
      | some d => gK (fr d) u (vopc P o.op fr M fun v M' => vops P ops rest K (updO fr o.dst v) M') (vops P ops rest K (updO fr o.dst (.tup [])) M)
      | none => False

theorem vops_nil (P : Program) (ops : List Oper) (K : Fr → Mem → Prop) (fr : Fr) (M : Mem) : vops P ops [] K fr M = K fr M := rfl
theorem vops_guard (P : Program) (ops : List Oper) (dst : Option Tmp) (op : Op) (type : TypeId) (pos : String) (after : Array Edge) (j : Nat) (u : Bool) (rest : List Oper) (K : Fr → Mem → Prop) (fr : Fr) (M : Mem) :
    vops P ops (⟨dst, op, type, pos, after, some (j, u)⟩ :: rest) K fr M = match gslot ops j with
      | some d => gK (fr d) u (vopc P op fr M fun v M' => vops P ops rest K (updO fr dst v) M') (vops P ops rest K (updO fr dst (.tup [])) M)
      | none => False := rfl

def opsOk (n : Nat) (ops : List Oper) : Bool := ops.all (operOk n)

theorem yielded_of {g : Gh} {w : World} {n : Nat} {fr : Fr} {a : Act} (hF : FrR g w n fr a) {ops : List Oper} (hok : opsOk n ops = true) {j d : Nat} (hd : gslot ops j = some d) {b : Bool} (hb : fr d = .l (.bool b)) : yielded ops.toArray a.tmps j = some b := by
  unfold gslot at hd
  cases ho : ops[j]? with
  | none => rw [ho] at hd; cases hd
  | some o =>
    rw [ho] at hd
    simp only [Option.bind_some] at hd
    have hop : operOk n o = true := List.all_eq_true.1 hok o (List.mem_of_getElem? ho)
    have hdn : d < n := by
      unfold operOk at hop
      rw [hd] at hop
      have h2 := (Bool.and_eq_true _ _ ▸ hop).2
      exact of_decide_eq_true h2
    have hv := hF.get d hdn
    rw [hb] at hv
    have hvb := conc_bool hv
    have hs : d < a.tmps.size := by rw [hF.size]; exact hdn
    have hget : a.tmps[d]? = some (.bool b) := by
      have : a.tmps.getD d undef = a.tmps[d] := by simp [hs]
      rw [this] at hvb
      rw [Array.getElem?_eq_getElem hs, hvb]
    unfold yielded
    simp only [List.getElem?_toArray, ho, Option.bind_some, hd, hget]

theorem yielded_skip {g : Gh} {w : World} {n : Nat} {fr : Fr} {a : Act} (hF : FrR g w n fr a) {ops : List Oper} (hok : opsOk n ops = true) {j d : Nat} (hd : gslot ops j = some d) (hb : fr d = .tup []) : yielded ops.toArray a.tmps j = none := by
  unfold gslot at hd
  cases ho : ops[j]? with
  | none => rw [ho] at hd; cases hd
  | some o =>
    rw [ho] at hd
    simp only [Option.bind_some] at hd
    have hop : operOk n o = true := List.all_eq_true.1 hok o (List.mem_of_getElem? ho)
    have hdn : d < n := by
      unfold operOk at hop
      rw [hd] at hop
      have h2 := (Bool.and_eq_true _ _ ▸ hop).2
      exact of_decide_eq_true h2
    have hv := hF.get d hdn
    rw [hb] at hv
    have hvb := conc_skip hv
    have hs : d < a.tmps.size := by rw [hF.size]; exact hdn
    have hget : a.tmps[d]? = some undef := by
      have : a.tmps.getD d undef = a.tmps[d] := by simp [hs]
      rw [this] at hvb
      rw [Array.getElem?_eq_getElem hs, hvb]
    unfold yielded
    simp only [List.getElem?_toArray, ho, Option.bind_some, hd, hget]
    rfl

theorem vops_sound {P : Program} {n : Nat} {ops : List Oper} (hok : opsOk n ops = true) {K : Fr → Mem → Prop} {Qc : Exit → Act → World → Prop} (rest : List Oper) : ∀ (g : Gh) (w : World) (fr : Fr) (a : Act) (M : Mem), rest.all (operOk n) = true → g.P = P →
    FrR g w n fr a → Rel g M w → vops P ops rest K fr M → (∀ g' w' fr' a' M', K fr' M' → Ev g w g' w' → FrR g' w' n fr' a' → Rel g' M' w' → Qc .normal a' w') → wpList P ops.toArray Qc rest a w := by
  induction rest with
  | nil =>
    intro g w fr a M _ hP hF hR h hq
    exact hq g w fr a M h (Ev.refl _ _) hF hR
  | cons o rest ih =>
    intro g w fr a M hrok hP hF hR h hq
    simp only [List.all_cons, Bool.and_eq_true] at hrok
    have hop : o.op.operands.toList.all (opndOk n) = true := by
      have := hrok.1
      unfold operOk at this
      exact (Bool.and_eq_true _ _ ▸ this).1
    have run : vopc P o.op fr M (fun v M' => vops P ops rest K (updO fr o.dst v) M') → o.wp P a w (wpList P ops.toArray Qc rest) Qc := fun hv =>
      opx_wp (vopc_sound hP hR hF hop hv) fun v c g' M' w' hk e hc hR' => ih g' w' _ _ M' hrok.2 (e.P.trans hP) ((hF.ev e).put hc) hR' hk
        fun g'' w'' fr' a' M'' hk' e' => hq g'' w'' fr' a' M'' hk' (e.trans e')
    have skip : vops P ops rest K (updO fr o.dst (.tup [])) M → wpList P ops.toArray Qc rest (a.put o.dst undef) w := fun hv => ih g w _ _ M hrok.2 hP (hF.put (skip_conc _ _)) hR hv hq
    simp only [vops] at h
    unfold wpList
    split at h
    · rename_i hg
      rw [if_pos (by simp [Region.wanted, hg])]
      exact .inl (run h)
    · rename_i j u hg
      split at h
      · rename_i d hd
        unfold gK at h
        split at h
        · rename_i b hb
          have hy := yielded_of hF hok hd hb
          by_cases hbu : b = u
          · subst hbu
            rw [if_pos (by simp [Region.wanted, hg, hy])]
            exact .inl (run (h.1 rfl))
          · have hbu' : b = !u := by revert hbu; cases b <;> cases u <;> simp
            have hwt : Region.wanted o (yielded ops.toArray a.tmps) = false := by
              simp only [Region.wanted, hg, hy]
              revert hbu
              cases b <;> cases u <;> simp
            rw [if_neg (by rw [hwt]; simp)]
            exact skip (h.2 hbu')
        · rename_i hb
          have hy := yielded_skip hF hok hd hb
          have hwt : Region.wanted o (yielded ops.toArray a.tmps) = false := by simp [Region.wanted, hg, hy]
          rw [if_neg (by rw [hwt]; simp)]
          exact skip h
        · exact h.elim
      · exact h.elim

/-! ### code -/
inductive XE where
  | normal | exit (id : Nat) | ret
  deriving DecidableEq

def toE : XE → Exit
  | .normal => .normal
  | .exit id => .exit id
  | .ret => .ret

def Post (P : Program) (n : Nat) (g : Gh) (w : World) (Q : XE → Fr → Mem → Prop) : Exit → Act → World → Prop := fun e a' w' => ∃ x fr' M' g', e = toE x ∧ Q x fr' M' ∧ Ev g w g' w' ∧ FrR g' w' n fr' a' ∧ Rel g' M' w'

/-- What is claimed of code. -/
def XWp (P : Program) (n : Nat) (c : Code) (Q : XE → Fr → Mem → Prop) (fr : Fr) (M : Mem) : Prop :=
  ∀ g w a, g.P = P → FrR g w n fr a → Rel g M w → c.wp P (Post P n g w Q) a w

theorem XWp.mono {P : Program} {n : Nat} {c : Code} {Q Q' : XE → Fr → Mem → Prop} {fr : Fr} {M : Mem} (h : XWp P n c Q fr M) (hq : ∀ e fr M, Q e fr M → Q' e fr M) : XWp P n c Q' fr M :=
  fun g w a hP hF hR => wp_mono (h g w a hP hF hR) fun e a' w' ⟨x, fr', M', g', h1, h2, h3⟩ => ⟨x, fr', M', g', h1, hq _ _ _ h2, h3⟩
theorem XWp.le {P : Program} {n : Nat} {c : Code} {Q : XE → Fr → Mem → Prop} {fr : Fr} {M M' : Mem} (h : XWp P n c Q fr M) (hle : M.le M') : XWp P n c Q fr M' :=
  fun g w a hP hF hR => h g w a hP hF (hR.le hle)

def seqQ (K : Fr → Mem → Prop) (Q : XE → Fr → Mem → Prop) : XE → Fr → Mem → Prop
  | .normal => K
  | .exit id => Q (.exit id)
  | .ret => Q .ret
theorem seqQ_normal (K : Fr → Mem → Prop) (Q : XE → Fr → Mem → Prop) : seqQ K Q .normal = K := rfl
theorem seqQ_exit (K : Fr → Mem → Prop) (Q : XE → Fr → Mem → Prop) (id : Nat) : seqQ K Q (.exit id) = Q (.exit id) := rfl
theorem seqQ_ret (K : Fr → Mem → Prop) (Q : XE → Fr → Mem → Prop) : seqQ K Q .ret = Q .ret := rfl
def blockQ (id : Nat) (Q : XE → Fr → Mem → Prop) : XE → Fr → Mem → Prop
  | .normal => Q .normal
  | .exit id' => if id' = id then Q .normal else Q (.exit id')
  | .ret => Q .ret
theorem blockQ_normal (id : Nat) (Q : XE → Fr → Mem → Prop) : blockQ id Q .normal = Q .normal := rfl
theorem blockQ_exit (id : Nat) (Q : XE → Fr → Mem → Prop) (id' : Nat) : blockQ id Q (.exit id') = if id' = id then Q .normal else Q (.exit id') := rfl
theorem blockQ_ret (id : Nat) (Q : XE → Fr → Mem → Prop) : blockQ id Q .ret = Q .ret := rfl

/-- A loop, a region that draws: left as they are, for rules of their own. -/
def XLoop (P : Program) (n : Nat) (body : Code) (Q : XE → Fr → Mem → Prop) (fr : Fr) (M : Mem) : Prop := XWp P n (.loop body) Q fr M
def XDraw (P : Program) (n : Nat) (id : Nat) (ops : Array Oper) (K : Fr → Mem → Prop) (fr : Fr) (M : Mem) : Prop := XWp P n (.region id ops true) (seqQ K fun _ _ _ => False) fr M

def vc (P : Program) (n : Nat) : Code → (XE → Fr → Mem → Prop) → Fr → Mem → Prop
  | .skip, Q, fr, M => Q .normal fr M
  | .ret, Q, fr, M => Q .ret fr M
  | .exit id, Q, fr, M => Q (.exit id) fr M
  | .seq a b, Q, fr, M => vc P n a (seqQ (vc P n b Q) Q) fr M
  | .cond c a b, Q, fr, M => condK (ev fr c) (vc P n a Q fr M) (vc P n b Q fr M)
  | .block id b, Q, fr, M => vc P n b (blockQ id Q) fr M
  | .loop b, Q, fr, M => XLoop P n b Q fr M
  | .region id ops draw, Q, fr, M => match draw with
    | false => vops P ops.toList ops.toList (fun fr M => Q .normal fr M) fr M
    | true => XDraw P n id ops (fun fr M => Q .normal fr M) fr M
  | _, _, _, _ => False

/-- Every slot that is named lies within the frame. -/
def codeOk (n : Nat) : Code → Bool
  | .seq a b => codeOk n a && codeOk n b
  | .cond c a b => opndOk n c && codeOk n a && codeOk n b
  | .block _ b => codeOk n b
  | .loop b => codeOk n b
  | .region _ ops _ => opsOk n ops.toList
  | _ => true

theorem vc_sound {P : Program} {n : Nat} : ∀ (c : Code), codeOk n c = true → ∀ (Q : XE → Fr → Mem → Prop) (fr : Fr) (M : Mem), vc P n c Q fr M → XWp P n c Q fr M
  | .skip, _, Q, fr, M, h => fun g w a hP hF hR => wp_skip ⟨.normal, fr, M, g, rfl, h, Ev.refl _ _, hF, hR⟩
  | .ret, _, Q, fr, M, h => fun g w a hP hF hR => wp_ret ⟨.ret, fr, M, g, rfl, h, Ev.refl _ _, hF, hR⟩
  | .exit id, _, Q, fr, M, h => fun g w a hP hF hR => wp_exit ⟨.exit id, fr, M, g, rfl, h, Ev.refl _ _, hF, hR⟩
  | .seq x y, hok, Q, fr, M, h => fun g w a hP hF hR => by
    simp only [codeOk, Bool.and_eq_true] at hok
    refine wp_seq (wp_mono (vc_sound x hok.1 _ fr M h g w a hP hF hR) ?_)
    rintro e a' w' ⟨x', fr', M', g', rfl, hq, he, hF', hR'⟩
    cases x' with
    | normal => exact wp_mono (vc_sound y hok.2 Q fr' M' hq g' w' a' (he.P.trans hP) hF' hR') fun e a'' w'' ⟨x, fr'', M'', g'', h1, h2, h3, h4, h5⟩ => ⟨x, fr'', M'', g'', h1, h2, he.trans h3, h4, h5⟩
    | exit id => exact ⟨.exit id, fr', M', g', rfl, hq, he, hF', hR'⟩
    | ret => exact ⟨.ret, fr', M', g', rfl, hq, he, hF', hR'⟩
  | .cond c x y, hok, Q, fr, M, h => fun g w a hP hF hR => by
    simp only [codeOk, Bool.and_eq_true] at hok
    simp only [vc] at h
    unfold condK at h
    split at h
    · rename_i b hb
      have hv := hF.eval hok.1.1
      rw [hb] at hv
      have hvb := conc_bool hv
      cases b with
      | true => exact wp_cond_true hvb (vc_sound x hok.1.2 Q fr M (h.1 rfl) g w a hP hF hR)
      | false => exact wp_cond_false hvb (vc_sound y hok.2 Q fr M (h.2 rfl) g w a hP hF hR)
    · exact h.elim
  | .block id b, hok, Q, fr, M, h => fun g w a hP hF hR => by
    refine wp_block (wp_mono (vc_sound b hok _ fr M h g w a hP hF hR) ?_)
    rintro e a' w' ⟨x', fr', M', g', rfl, hq, he, hF', hR'⟩
    cases x' with
    | normal => exact ⟨.normal, fr', M', g', rfl, hq, he, hF', hR'⟩
    | ret => exact ⟨.ret, fr', M', g', rfl, hq, he, hF', hR'⟩
    | exit id' =>
      simp only [toE, Exit.inBlock]
      simp only [blockQ] at hq
      split
      · rename_i hid
        rw [if_pos hid] at hq
        exact ⟨.normal, fr', M', g', rfl, hq, he, hF', hR'⟩
      · rename_i hid
        rw [if_neg hid] at hq
        exact ⟨.exit id', fr', M', g', rfl, hq, he, hF', hR'⟩
  | .loop b, _, Q, fr, M, h => h
  | .region id ops false, hok, Q, fr, M, h => fun g w a hP hF hR => by
    obtain ⟨l⟩ := ops
    exact wp_region_lit (vops_sound (n := n) hok l g w fr a M hok hP hF hR h fun g' w' fr' a' M' hk he hF' hR' => ⟨.normal, fr', M', g', rfl, hk, he, hF', hR'⟩)
  | .region id ops true, _, Q, fr, M, h => fun g w a hP hF hR => wp_mono (h g w a hP hF hR) (by
      rintro e a' w' ⟨x', fr', M', g', rfl, hq, he, hF', hR'⟩
      cases x' with
      | normal => exact ⟨.normal, fr', M', g', rfl, hq, he, hF', hR'⟩
      | ret => exact hq.elim
      | exit id => exact hq.elim)
  | .rangeFunc _ _ _ _, _, _, _, _, h => h.elim
  | .scope _, _, _, _, _, h => h.elim
  | .label _, _, _, _, _, h => h.elim
  | .goto _, _, _, _, _, h => h.elim
  | .refuse _, _, _, _, _, h => h.elim

/-! ### a loop, by an invariant with a measure -/
theorem xloop {P : Program} {n : Nat} {body : Code} (hok : codeOk n body = true) {Q : XE → Fr → Mem → Prop} (I : Nat → Fr → Mem → Prop) {fr : Fr} {M : Mem} (k0 : Nat) (h0 : I k0 fr M)
    (hstep : ∀ k fr M, I k fr M → vc P n body (seqQ (fun fr' M' => ∃ k' M'', k' < k ∧ M''.le M' ∧ I k' fr' M'') Q) fr M) : XLoop P n body Q fr M := by
  intro g0 w0 a0 hP0 hF0 hR0
  have hstep' : ∀ k fr M, I k fr M → XWp P n body (seqQ (fun fr' M' => ∃ k' M'', k' < k ∧ M''.le M' ∧ I k' fr' M'') Q) fr M := fun k fr M h => vc_sound body hok _ fr M (hstep k fr M h)
  let J : Nat → Act → World → Prop := fun k a w => ∃ g fr M, g.P = P ∧ FrR g w n fr a ∧ Rel g M w ∧ Ev g0 w0 g w ∧ I k fr M
  have round : ∀ k a w, J k a w → body.wp P (Exit.then (fun a' w' => ∃ k', k' < k ∧ J k' a' w') (Post P n g0 w0 Q)) a w := by
    rintro k a w ⟨g, fr', M', hP, hF, hR, hev, hI⟩
    refine wp_mono (hstep' _ fr' M' hI g w a hP hF hR) ?_
    rintro e a' w' ⟨x', fr'', M'', g', rfl, hq, he', hF', hR'⟩
    cases x' with
    | normal =>
      obtain ⟨k', M3, hlt, hle, hI'⟩ := hq
      exact ⟨k', hlt, g', fr'', M3, he'.P.trans hP, hF', hR'.le hle, hev.trans he', hI'⟩
    | exit id => exact ⟨.exit id, fr'', M'', g', rfl, hq, hev.trans he', hF', hR'⟩
    | ret => exact ⟨.ret, fr'', M'', g', rfl, hq, hev.trans he', hF', hR'⟩
  intro b kk cs
  have key : ∀ k a w, J k a w → ∃ e a' w', Post P n g0 w0 Q e a' w' ∧ Arrives P (lone (b.at a (.code body :: .inLoop body :: kk)) cs w) b kk cs e a' w' := by
    intro k
    induction k using Nat.strongRecOn with
    | _ k ih =>
      intro a w hJ
      obtain ⟨e, a₁, w₁, hq, harr⟩ := round k a w hJ b (.inLoop body :: kk) cs
      cases e with
      | normal =>
        obtain ⟨k', hlt, hJ'⟩ := hq
        obtain ⟨e₂, a₂, w₂, hq₂, harr₂⟩ := ih k' hlt a₁ w₁ hJ'
        exact ⟨e₂, a₂, w₂, hq₂, .of_steps (Steps.trans harr (.one step_inLoop)) harr₂⟩
      | exit id => exact ⟨_, a₁, w₁, hq, .pass (x := .inLoop body) rfl (fun _ _ => .inl (by simp)) harr⟩
      | goto l => exact ⟨_, a₁, w₁, hq, .pass (x := .inLoop body) rfl (fun _ _ => .inl (by simp)) harr⟩
      | ret => exact ⟨_, a₁, w₁, hq, .pass (x := .inLoop body) rfl (fun _ _ => .inl (by simp)) harr⟩
      | panic ch => exact ⟨_, a₁, w₁, hq, .pass (x := .inLoop body) rfl (fun _ _ => .inl (by simp)) harr⟩
      | outgrown => exact ⟨_, a₁, w₁, hq, .pass (x := .inLoop body) rfl (fun _ _ => .inl (by simp)) harr⟩
  obtain ⟨e, a', w', hq, harr⟩ := key k0 a0 w0 ⟨g0, fr, M, hP0, hF0, hR0, Ev.refl _ _, h0⟩
  exact ⟨e, a', w', hq, .of_steps (.one step_loop) harr⟩

end Go.X
set_option linter.unusedVariables false
set_option linter.unusedSimpArgs false
set_option linter.unusedSectionVars false
set_option maxRecDepth 100000
namespace Go.X
open Go.RowKit

/-- What may be said of a value and the memory at the end, once the ghost has been turned. -/
def XFin (P : Program) (v : AV) (M : Mem) (K : AV → Mem → Prop) : Prop := ∀ g w c, g.P = P → ConcA g w v c → Rel g M w → ∃ g' v' M', K v' M' ∧ Ev g w g' w ∧ ConcA g' w v' c ∧ Rel g' M' w
theorem XFin.le {P : Program} {v : AV} {M M' : Mem} {K : AV → Mem → Prop} (hle : M'.le M) (h : K v M') : XFin P v M K := fun g w c hP hc hR => ⟨g, v, M', h, Ev.refl _ _, hc, hR.le hle⟩
theorem XFin.here {P : Program} {v : AV} {M : Mem} {K : AV → Mem → Prop} (h : K v M) : XFin P v M K := XFin.le (Mem.le_refl M) h

/-- A slice of a live block, as a slice that is never written again. -/
def frzL (id : Nat) (rows : List (List Lf)) : Lf → Lf
  | .ms i off len => if i = id ∧ off + len ≤ rows.length then .sl ((rows.drop off).take len) else .ms i off len
  | x => x
def frz1 (id : Nat) (rows : List (List Lf)) : AV → AV
  | .l x => .l (frzL id rows x)
  | .agg cs => .agg (cs.map (frzL id rows))
  | x => x
def frzA (id : Nat) (rows : List (List Lf)) : AV → AV
  | .tup vs => .tup (vs.map (frz1 id rows))
  | x => frz1 id rows x

theorem frzL_conc {g g' : Gh} {w : World} {id b sz cr : Nat} {rows : List (List Lf)} (hx : g.blk id = some (b, sz, cr)) (e : Ev g w g' w)
    (hf : ∀ off len cap, off + len ≤ rows.length → len ≤ cap → Conc g' w (.sl ((rows.drop off).take len)) (.slice (some ⟨b, off * sz, none⟩) len cap)) {x : Lf} {v : Value} (h : Conc g w x v) : Conc g' w (frzL id rows x) v := by
  unfold frzL
  split
  · rename_i i off len
    split
    · rename_i hc
      obtain ⟨rfl, hol⟩ := hc
      cases h with
      | ms hb h1 h2 =>
        rw [hx, Option.some.injEq, Prod.mk.injEq, Prod.mk.injEq] at hb
        obtain ⟨rfl, rfl, rfl⟩ := hb
        exact hf off len _ hol h1
    · exact h.ev e
  · exact h.ev e

theorem frz1_conc {g g' : Gh} {w : World} {id b sz cr : Nat} {rows : List (List Lf)} (hx : g.blk id = some (b, sz, cr)) (e : Ev g w g' w)
    (hf : ∀ off len cap, off + len ≤ rows.length → len ≤ cap → Conc g' w (.sl ((rows.drop off).take len)) (.slice (some ⟨b, off * sz, none⟩) len cap)) {x : AV} {v : Value} (h : ConcA g w x v) : ConcA g' w (frz1 id rows x) v := by
  cases h with
  | l h => exact .l (frzL_conc hx e hf h)
  | agg vs h =>
    refine .agg vs ⟨by simp [h.1], fun i x v hx' hv => ?_⟩
    rw [List.getElem?_map] at hx'
    rename_i cs
    cases hc : cs[i]? with
    | none => rw [hc] at hx'; cases hx'
    | some y =>
      rw [hc] at hx'
      simp only [Option.map_some, Option.some.injEq] at hx'
      subst hx'
      exact frzL_conc hx e hf (h.2 i y v hc hv)
  | tup vs hl h => exact .tup vs hl fun i x v a b => (h i x v a b).ev e
  | any v => exact .any v

theorem frzA_conc {g g' : Gh} {w : World} {id b sz cr : Nat} {rows : List (List Lf)} (hx : g.blk id = some (b, sz, cr)) (e : Ev g w g' w)
    (hf : ∀ off len cap, off + len ≤ rows.length → len ≤ cap → Conc g' w (.sl ((rows.drop off).take len)) (.slice (some ⟨b, off * sz, none⟩) len cap)) {x : AV} {v : Value} (h : ConcA g w x v) : ConcA g' w (frzA id rows x) v := by
  unfold frzA
  split
  · rename_i xs
    cases h with
    | tup vs hl h =>
      refine .tup vs (by simp [hl]) fun i x v hx' hv => ?_
      rw [List.getElem?_map] at hx'
      cases hc : xs[i]? with
      | none => rw [hc] at hx'; cases hx'
      | some y =>
        rw [hc] at hx'
        simp only [Option.map_some, Option.some.injEq] at hx'
        subst hx'
        exact frz1_conc hx e hf (h i y v hc hv)
  · exact frz1_conc hx e hf h

theorem blk_of {g : Gh} {M : Mem} {w : World} (hR : Rel g M w) {id T keep : Nat} {rows : List (List Lf)} (hM : M id = some (.cells T rows keep)) : ∃ b sz cr, g.blk id = some (b, sz, cr) := by
  obtain ⟨b, sz, cr, _, h, _⟩ := hR.blk id _ hM
  exact ⟨b, sz, cr, h⟩

theorem XFin.frz {P : Program} {v : AV} {M : Mem} {K : AV → Mem → Prop} (id : Nat) {T keep : Nat} {rows : List (List Lf)} (hM : M id = some (.cells T rows keep)) (h : XFin P (frzA id rows v) (M.set id (.cells T rows (max keep rows.length))) K) : XFin P v M K := by
  intro g w c hP hc hR
  obtain ⟨b, sz, cr, hx⟩ := blk_of hR hM
  obtain ⟨e, rel, hf⟩ := rel_frz hR hM hx
  obtain ⟨g', v', M', hK, e', hc', hR'⟩ := h _ w c (e.P.trans hP) (frzA_conc hx e hf hc) rel
  exact ⟨g', v', M', hK, e.trans e', hc', hR'⟩

/-- The same ahead of a call. -/
theorem XCalls.frz {P : Program} {f : FuncId} {args : List AV} {M : Mem} {K : AV → Mem → Prop} (id : Nat) {T keep : Nat} {rows : List (List Lf)} (hM : M id = some (.cells T rows keep)) (h : XCalls P f (args.map (frzA id rows)) (M.set id (.cells T rows (max keep rows.length))) K) : XCalls P f args M K := by
  refine ⟨h.1, fun g w vs hP hA hR => ?_⟩
  obtain ⟨b, sz, cr, hx⟩ := blk_of hR hM
  obtain ⟨e, rel, hf⟩ := rel_frz hR hM hx
  refine (h.2 _ w vs (e.P.trans hP) ⟨by simp [hA.1], fun i x v hx' hv => ?_⟩ rel).mono fun e1 w' ⟨rv, v, g', M', h1, h2, h3, h4⟩ => ⟨rv, v, g', M', h1, h2, e.trans h3, h4⟩
  rw [List.getElem?_map] at hx'
  cases hc : args[i]? with
  | none => rw [hc] at hx'; cases hx'
  | some y =>
    rw [hc] at hx'
    simp only [Option.map_some, Option.some.injEq] at hx'
    subst hx'
    exact frzA_conc hx e hf (hA.2 i y v hc hv)

/-- The same within another block's cells. -/
theorem rel_frz_in {g : Gh} {M : Mem} {w : World} (hR : Rel g M w) {id out T keep To keepo : Nat} {rows rowso : List (List Lf)} (hM : M id = some (.cells T rows keep)) (ho : M out = some (.cells To rowso keepo)) (hne : id ≠ out) :
    ∃ g', Ev g w g' w ∧ Rel g' ((M.set id (.cells T rows (max keep rows.length))).set out (.cells To (rowso.map fun r => r.map (frzL id rows)) keepo)) w := by
  obtain ⟨b, sz, cr, hx⟩ := blk_of hR hM
  obtain ⟨e, rel, hf⟩ := rel_frz hR hM hx
  refine ⟨_, e, ?_⟩
  have ho' : (M.set id (.cells T rows (max keep rows.length))) out = some (.cells To rowso keepo) := by rw [Mem.set_app, if_neg hne]; exact ho
  exact {
    blk := fun i bk hbk => by
      rw [Mem.set_app] at hbk
      by_cases hi : out = i
      · subst hi
        rw [if_pos rfl, Option.some.injEq] at hbk
        subst hbk
        obtain ⟨b', sz', cr', cur, g1, g2, g3, g4, g5, g6, g7, g8, g9⟩ := hR.blk out _ ho
        obtain ⟨b2, sz2, cr2, cur2, k1, k2, k3, k4, k5, k6, k7, k8, k9⟩ := rel.blk out _ ho'
        have hg1 := e.blk _ _ g1
        rw [k1, Option.some.injEq, Prod.mk.injEq, Prod.mk.injEq] at hg1
        obtain ⟨rfl, rfl, rfl⟩ := hg1
        rw [g3, Option.some.injEq, Obj.cells.injEq] at k3
        obtain ⟨rfl, _, _⟩ := k3
        refine ⟨b2, sz2, cr2, cur, k1, k2, g3, k4, by simpa using k5, ⟨fun r hr => ?_, fun i j r x hr hx' => ?_⟩, k7, k8, k9⟩
        · obtain ⟨r0, hr0, rfl⟩ := List.mem_map.1 hr
          simp [k6.1 r0 hr0]
        · rw [List.getElem?_map] at hr
          cases hrr : rowso[i]? with
          | none => rw [hrr] at hr; cases hr
          | some r0 =>
            rw [hrr] at hr
            simp only [Option.map_some, Option.some.injEq] at hr
            subst hr
            rw [List.getElem?_map] at hx'
            cases hxx : r0[j]? with
            | none => rw [hxx] at hx'; cases hx'
            | some y =>
              rw [hxx] at hx'
              simp only [Option.map_some, Option.some.injEq] at hx'
              subst hx'
              obtain ⟨u, hu, hcu⟩ := g6.2 i j r0 y hrr hxx
              exact ⟨u, hu, frzL_conc hx e hf hcu⟩
      · rw [if_neg hi] at hbk
        exact rel.blk i bk hbk
    inj := fun i j bi bj hi hj => by
      have key : ∀ k bk, ((M.set id (.cells T rows (max keep rows.length))).set out (.cells To (rowso.map fun r => r.map (frzL id rows)) keepo)) k = some bk → ∃ bk', (M.set id (.cells T rows (max keep rows.length))) k = some bk' := fun k bk hk => by
        rw [Mem.set_app] at hk
        by_cases hi : out = k
        · subst hi; exact ⟨_, ho'⟩
        · rw [if_neg hi] at hk; exact ⟨_, hk⟩
      obtain ⟨b1, h1⟩ := key i bi hi
      obtain ⟨b2, h2⟩ := key j bj hj
      exact rel.inj i j b1 b2 h1 h2
    lt := rel.lt
    fz := rel.fz
    fin := by
      obtain ⟨n, hn⟩ := rel.fin
      refine ⟨n, fun i hi => ⟨(hn i hi).1, ?_, (hn i hi).2.2⟩⟩
      rw [Mem.set_app]
      by_cases hio : out = i
      · subst hio; have := (hn out hi).2.1; rw [ho'] at this; cases this
      · rw [if_neg hio]; exact (hn i hi).2.1
    below := rel.below
    tab := rel.tab }

theorem XCalls.frz_in {P : Program} {f : FuncId} {args : List AV} {M : Mem} {K : AV → Mem → Prop} (id out : Nat) {T keep To keepo : Nat} {rows rowso : List (List Lf)} (hM : M id = some (.cells T rows keep)) (ho : M out = some (.cells To rowso keepo)) (hne : id ≠ out)
    (h : XCalls P f args ((M.set id (.cells T rows (max keep rows.length))).set out (.cells To (rowso.map fun r => r.map (frzL id rows)) keepo)) K) : XCalls P f args M K := by
  refine ⟨h.1, fun g w vs hP hA hR => ?_⟩
  obtain ⟨g', e, rel⟩ := rel_frz_in hR hM ho hne
  exact (h.2 _ w vs (e.P.trans hP) ⟨hA.1, fun i x v a b => (hA.2 i x v a b).ev e⟩ rel).mono fun e1 w' ⟨rv, v, g', M', h1, h2, h3, h4⟩ => ⟨rv, v, g', M', h1, h2, e.trans h3, h4⟩

/-! ### a function's end, and its entry -/
def retA1 (P : Program) (fr : Fr) (M : Mem) : ResultVar → Option AV
  | .tmp t => some (fr t)
  | .cell a t => loadA P M t (fr a)
def retL (P : Program) (fr : Fr) (M : Mem) : List ResultVar → Option (List AV)
  | [] => some []
  | r :: rs => match retA1 P fr M r, retL P fr M rs with
    | some v, some vs => some (v :: vs)
    | _, _ => none
def retA (P : Program) (rs : List ResultVar) (fr : Fr) (M : Mem) : Option AV :=
  match rs with
  | [r] => retA1 P fr M r
  | rs => (retL P fr M rs).map .tup

def retQ (P : Program) (rs : List ResultVar) (K : AV → Mem → Prop) : XE → Fr → Mem → Prop
  | .exit _, _, _ => False
  | .normal, fr, M => optK (retA P rs fr M) fun v => XFin P v M K
  | .ret, fr, M => optK (retA P rs fr M) fun v => XFin P v M K
def rvOk (n : Nat) : ResultVar → Bool
  | .tmp t => decide (t < n)
  | .cell a _ => decide (a < n)

def resRun (P : Program) (a : Array Value) : ResultVar → Sem Value
  | .tmp t => pure (a.getD t undef)
  | .cell x t => do loadVar t (← asAddr (a.getD x undef))

theorem run_ret1 {P : Program} {g : Gh} {M : Mem} {w : World} (hR : Rel g M w) {n : Nat} {fr : Fr} {a : Act} (hF : FrR g w n fr a) {r : ResultVar} (hok : rvOk n r = true) {v : AV} (h : retA1 P fr M r = some v) :
    ∃ c, (resRun P a.tmps r).run P w = .ok c w ∧ ConcA g w v c := by
  cases r with
  | tmp t =>
    simp only [retA1, Option.some.injEq] at h
    subst h
    exact ⟨_, rfl, hF.get t (by simpa [rvOk] using hok)⟩
  | cell x t =>
    simp only [retA1] at h
    have hx := hF.get x (by simpa [rvOk] using hok)
    obtain ⟨c, hr, hc⟩ := run_loadA (P := P) hR hx h
    refine ⟨c, ?_, hc⟩
    simp only [resRun]
    generalize a.tmps.getD x undef = cx at hx hr
    unfold loadA at h
    split at h
    · rename_i i cells hti hfx
      rw [hfx] at hx
      cases hx with
      | l hx =>
        obtain ⟨b, o, rfl, _⟩ := conc_rp hx
        simpa [Instr.loadAt, Instr.sureAddr, asAddr] using hr
    · rename_i i id r c hti hfx
      rw [hfx] at hx
      cases hx with
      | l hx =>
        cases hx with
        | ptr hb => simpa [Instr.loadAt, Instr.sureAddr, asAddr] using hr
    · cases h

theorem run_retL {P : Program} {g : Gh} {M : Mem} {w : World} (hR : Rel g M w) {n : Nat} {fr : Fr} {a : Act} (hF : FrR g w n fr a) : ∀ (rs : List ResultVar) (vs : List AV), rs.all (rvOk n) = true → retL P fr M rs = some vs →
    ∃ cs : List Value, (rs.mapM (resRun P a.tmps)).run P w = .ok cs w ∧ vs.length = cs.length ∧ ∀ (i : Nat) (x : AV) (v : Value), vs[i]? = some x → cs[i]? = some v → ConcA g w x v
  | [], vs, _, h => by
    simp only [retL, Option.some.injEq] at h
    subst h
    exact ⟨[], by simp, rfl, fun i x v hx => by simp at hx⟩
  | r :: rs, vs, hok, h => by
    simp only [List.all_cons, Bool.and_eq_true] at hok
    simp only [retL] at h
    split at h
    · rename_i v vs' hv hvs
      simp only [Option.some.injEq] at h
      subst h
      obtain ⟨c, hr, hc⟩ := run_ret1 (P := P) hR hF hok.1 hv
      obtain ⟨cs, hrs, hl, hcs⟩ := run_retL hR hF rs vs' hok.2 hvs
      refine ⟨c :: cs, by simp [List.mapM_cons, hr, hrs], by simp [hl], fun i x v hx hv => ?_⟩
      cases i with
      | zero => simp only [List.getElem?_cons_zero, Option.some.injEq] at hx hv; subst hx; subst hv; exact hc
      | succ i => exact hcs i x v (by simpa using hx) (by simpa using hv)
    · cases h

theorem run_results {P : Program} {g : Gh} {M : Mem} {w : World} (hR : Rel g M w) {n : Nat} {fr : Fr} {a : Act} (hF : FrR g w n fr a) {fn : Func} (hok : fn.results.toList.all (rvOk n) = true) {v : AV} (h : retA P fn.results.toList fr M = some v) :
    ∃ c, (results fn a.tmps).run P w = .ok c w ∧ ConcA g w v c := by
  have key : ∀ cs : List Value, (fn.results.toList.mapM (resRun P a.tmps)).run P w = .ok cs w → (results fn a.tmps).run P w = .ok (if h : cs.length = 1 then cs[0] else .tuple cs.toArray) w := fun cs hcs => by
    have : (results fn a.tmps) = (do let vs ← fn.results.mapM (resRun P a.tmps); pure (if h : vs.size = 1 then vs[0] else .tuple vs)) := by
      unfold results
      have he : (fun r : ResultVar => match r with
          | .tmp t => pure (a.tmps.getD t undef)
          | .cell x t => do loadVar t (← asAddr (a.tmps.getD x undef)) : ResultVar → Sem Value) = resRun P a.tmps := by
        funext r
        cases r <;> rfl
      rw [← he]
      rfl
    rw [this, Array.mapM_eq_mapM_toList]
    simp [hcs]
  unfold retA at h
  split at h
  · rename_i r hrs
    obtain ⟨c, hr, hc⟩ := run_ret1 (P := P) hR hF (by rw [hrs] at hok; simpa using hok) h
    refine ⟨c, ?_, hc⟩
    rw [key [c] (by rw [hrs]; simp [List.mapM_cons, hr])]
    rfl
  · rename_i hne
    cases hl : retL P fr M fn.results.toList with
    | none => rw [hl] at h; cases h
    | some vs =>
      rw [hl] at h
      simp only [Option.map_some, Option.some.injEq] at h
      subst h
      obtain ⟨cs, hrs, hlen, hcs⟩ := run_retL (P := P) hR hF _ vs hok hl
      refine ⟨_, key cs hrs, ?_⟩
      have hvl : vs.length = fn.results.toList.length := by
        have : ∀ (rs : List ResultVar) (vs : List AV), retL P fr M rs = some vs → vs.length = rs.length := by
          intro rs
          induction rs with
          | nil => intro vs h; simp [retL] at h; simp [← h]
          | cons r rs ih =>
            intro vs h
            simp only [retL] at h
            split at h
            · rename_i v vs' _ hvs
              simp only [Option.some.injEq] at h
              subst h
              simp [ih vs' hvs]
            · cases h
        exact this _ _ hl
      have h1 : ¬ cs.length = 1 := by
        rw [← hlen, hvl]
        intro h1
        obtain ⟨r, hr⟩ := List.length_eq_one_iff.1 h1
        exact hne r hr
      rw [dif_neg h1]
      exact .tup cs hlen hcs

/-- A function's contract, out of its code. -/
theorem xcalls_intro {P : Program} {f : FuncId} {fn : Func} (hf : P.funcs[f]? = some fn) {c : Code} (hb : fn.body = some c) (hbo : bodyOk P f = true) {n : Nat} (hn : fn.ntmps = n) {rs : List ResultVar} (hrs : fn.results.toList = rs) (hok : (codeOk n c && rs.all (rvOk n)) = true) {args : List AV} {M : Mem} {K : AV → Mem → Prop} (hargs : args.length ≤ n)
    (h : vc P n c (retQ P rs K) (argFr args) M) : XCalls P f args M K := by
  subst hn
  subst hrs
  refine ⟨hbo, fun g w vs hP hA hR => ?_⟩
  simp only [Bool.and_eq_true] at hok
  have hsz : vs.size = args.length := hA.1.symm
  have hF : FrR g w fn.ntmps (argFr args) { tmps := vs ++ Array.replicate (fn.ntmps - vs.size) undef, defers := [] } := by
    refine ⟨rfl, by simp; omega, fun i hi => ?_⟩
    unfold argFr
    by_cases hia : i < args.length
    · have hiv : i < vs.size := by omega
      have h1 : args.getD i .any = args[i] := by simp [hia]
      have h2 : (vs ++ Array.replicate (fn.ntmps - vs.size) undef).getD i undef = vs[i] := by
        have : i < (vs ++ Array.replicate (fn.ntmps - vs.size) undef).size := by simp; omega
        rw [Array.getD_eq_getD_getElem?, Array.getElem?_append_left hiv, Array.getElem?_eq_getElem hiv]
        rfl
      rw [h1, h2]
      exact hA.2 i _ _ (List.getElem?_eq_getElem hia) (Array.getElem?_eq_getElem hiv)
    · have : args.getD i .any = .any := by simp [Nat.le_of_not_lt hia]
      rw [this]
      exact .any _
  refine calls_of_wp hf hb (wp_mono (vc_sound c hok.1 _ _ M h g w _ hP hF hR) ?_)
  rintro e a' w' ⟨x, fr', M', g', rfl, hq, he, hF', hR'⟩
  have fin : optK (retA P fn.results.toList fr' M') (fun v => XFin P v M' K) → a'.defers = [] ∧ ∃ v, (results fn a'.tmps).run P w' = .ok v w' ∧ ∃ rv u g'' M'', Ending.returned v = .returned rv ∧ K u M'' ∧ Ev g w g'' w' ∧ ConcA g'' w' u rv ∧ Rel g'' M'' w' := fun hq => by
    obtain ⟨v, hv, hfin⟩ := optK_elim hq
    obtain ⟨c, hr, hc⟩ := run_results (P := P) hR' hF' hok.2 hv
    obtain ⟨g'', v', M'', hK, e'', hc'', hR''⟩ := hfin g' w' c (he.P.trans hP) hc hR'
    exact ⟨hF'.defers, c, hr, c, v', g'', M'', rfl, hK, he.trans e'', hc'', hR''⟩
  cases x with
  | normal => exact fin hq
  | ret => exact fin hq
  | exit id => exact hq.elim

end Go.X
