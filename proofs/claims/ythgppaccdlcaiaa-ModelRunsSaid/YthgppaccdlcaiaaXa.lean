/- The program logic's ground: abstract values, abstract memory, and how they stand for the model's worlds. -/
import Derived.Laws.AppendOwn
import Derived.Laws.MakeOwn
import Derived.Below
import Derived.Tactics
import Derived.Tactics2
import Derived.WalkKit
set_option linter.unusedVariables false
set_option linter.unusedSimpArgs false
set_option linter.unusedSectionVars false
namespace Go.X
open Go.RowKit

/-- One cell's abstract value. 'sl', 'rp': what is never written any more, by value; 'ms', 'ptr', 'mp': of a block of the abstract memory. -/
inductive Lf where
  | int (k : IntKind) (n : Int)
  | bool (b : Bool)
  | str (s : ByteArray)
  | nilp
  | ptr (id row col : Nat)
  | rp (cells : List Lf)
  | nils
  | sl (rows : List (List Lf))
  | ms (id off len : Nat)
  | nilm
  | mp (id : Nat)
  | nilf
  | clo (f : FuncId) (caps : List Lf)
  | nili
  | tok (v : Value)
  deriving Inhabited

inductive AV where
  | l (x : Lf)
  | agg (cs : List Lf)
  | tup (vs : List AV)
  | any
  deriving Inhabited

/-- A live block of the abstract memory. -/
inductive Blk where
  | cells (T : TypeId) (rows : List (List Lf)) (keep : Nat)
  | map (es : List (Lf × Lf))

abbrev Mem := Nat → Option Blk
def Mem.set (M : Mem) (id : Nat) (b : Blk) : Mem := fun i => if id = i then some b else M i
def Mem.del (M : Mem) (id : Nat) : Mem := fun i => if id = i then none else M i
def Mem.le (M M' : Mem) : Prop := ∀ i b, M i = some b → M' i = some b

theorem Mem.set_app (M : Mem) (id : Nat) (b : Blk) (i : Nat) : (M.set id b) i = if id = i then some b else M i := rfl
theorem Mem.del_app (M : Mem) (id : Nat) (i : Nat) : (M.del id) i = if id = i then none else M i := rfl
theorem Mem.le_refl (M : Mem) : M.le M := fun _ _ h => h
theorem Mem.le_trans {A B C : Mem} (h : A.le B) (h' : B.le C) : A.le C := fun _ _ x => h' _ _ (h _ _ x)
theorem Mem.le_set {A M : Mem} {id : Nat} {b : Blk} (h : A.le M) (hn : A id = none) : A.le (M.set id b) := fun i x hx => by
  simp only [Mem.set_app]
  split
  · rename_i e; subst e; rw [hn] at hx; cases hx
  · exact h _ _ hx
theorem Mem.le_del {A M : Mem} {id : Nat} (h : A.le M) (hn : A id = none) : A.le (M.del id) := fun i x hx => by
  simp only [Mem.del_app]
  split
  · rename_i e; subst e; rw [hn] at hx; cases hx
  · exact h _ _ hx

/-- What stands behind the abstract values: which block an id is (and the cells of one of its rows, and its rows); which cells are never written any more; the world in which all began. -/
structure Gh where
  blk : Nat → Option (Nat × Nat × Nat)
  fz : Nat → Nat → Prop
  w0 : World
  P : Program
  res : Nat → Prop

/-- How many cells a type has. -/
def szOf (P : Program) (T : TypeId) : Nat := match P.info? T with | some i => i.size | none => 0

inductive Conc (g : Gh) (w : World) : Lf → Value → Prop
  | int (k n) : Conc g w (.int k n) (.int k n)
  | bool (b) : Conc g w (.bool b) (.bool b)
  | str (s) : Conc g w (.str s) (.string s)
  | nilp : Conc g w .nilp (.pointer none)
  | ptr {id r c b sz cr : Nat} (h : g.blk id = some (b, sz, cr)) : Conc g w (.ptr id r c) (.pointer (some ⟨b, r * sz + c, none⟩))
  | rp {cells : List Lf} {b o : Nat} (cs : Nat → Value) (h : ∀ i, i < cells.length → g.fz b (o + i) ∧ w.cell? ⟨b, o + i, none⟩ = some (cs i))
      (hc : ∀ (i : Nat) (x : Lf), cells[i]? = some x → Conc g w x (cs i)) : Conc g w (.rp cells) (.pointer (some ⟨b, o, none⟩))
  | nils {a : Option Addr} : Conc g w .nils (.slice a 0 0)
  | sl0 {a : Option Addr} {cap : Nat} : Conc g w (.sl []) (.slice a 0 cap)
  | sl {rows : List (List Lf)} {b o sz cap : Nat} (cs : Nat → Value) (hsz : ∀ r ∈ rows, r.length = sz) (hcap : rows.length ≤ cap)
      (h : ∀ i, i < rows.length * sz → g.fz b (o + i) ∧ w.cell? ⟨b, o + i, none⟩ = some (cs i))
      (hc : ∀ (i j : Nat) (r : List Lf) (x : Lf), rows[i]? = some r → r[j]? = some x → Conc g w x (cs (i * sz + j))) :
      Conc g w (.sl rows) (.slice (some ⟨b, o, none⟩) rows.length cap)
  | ms {id off len b sz cr cap : Nat} (h : g.blk id = some (b, sz, cr)) (h1 : len ≤ cap) (h2 : off + cap ≤ cr) : Conc g w (.ms id off len) (.slice (some ⟨b, off * sz, none⟩) len cap)
  | nilm : Conc g w .nilm (.map none)
  | mp {id b sz cr : Nat} (h : g.blk id = some (b, sz, cr)) : Conc g w (.mp id) (.map (some b))
  | nilf : Conc g w .nilf .nilFunc
  | clo {f : FuncId} {caps : List Lf} (cs : List Value) (hl : caps.length = cs.length) (hc : ∀ (i : Nat) (x : Lf) (v : Value), caps[i]? = some x → cs[i]? = some v → Conc g w x v) : Conc g w (.clo f caps) (.func (.func f) #[] cs.toArray)
  | nili : Conc g w .nili .nilIface
  | tok (v) (h : v.oneCell' = true) : Conc g w (.tok v) v

theorem Conc.one {g : Gh} {w : World} {x : Lf} {v : Value} (h : Conc g w x v) : v.oneCell' = true := by
  cases h <;> first | rfl | assumption

/-- From one state of the ghost and the world to a later one. -/
structure Ev (g : Gh) (w : World) (g' : Gh) (w' : World) : Prop where
  w0 : g'.w0 = g.w0
  P : g'.P = g.P
  blk : ∀ id x, g.blk id = some x → g'.blk id = some x
  fz : ∀ b o, g.fz b o → g'.fz b o
  cell : ∀ b o, g.fz b o → w'.cell? ⟨b, o, none⟩ = w.cell? ⟨b, o, none⟩
  res : g'.res = g.res
  rsv : ∀ id, g.res id → g.blk id = none → g'.blk id = none

theorem Ev.refl (g : Gh) (w : World) : Ev g w g w := ⟨rfl, rfl, fun _ _ h => h, fun _ _ h => h, fun _ _ _ => rfl, rfl, fun _ _ h => h⟩
theorem Ev.trans {g g' g'' : Gh} {w w' w'' : World} (h : Ev g w g' w') (h' : Ev g' w' g'' w'') : Ev g w g'' w'' :=
  ⟨h'.w0.trans h.w0, h'.P.trans h.P, fun _ _ x => h'.blk _ _ (h.blk _ _ x), fun _ _ x => h'.fz _ _ (h.fz _ _ x), fun b o x => (h'.cell b o (h.fz b o x)).trans (h.cell b o x), h'.res.trans h.res, fun id hr hb => h'.rsv id (by rw [h.res]; exact hr) (h.rsv id hr hb)⟩

theorem Conc.ev {g g' : Gh} {w w' : World} (e : Ev g w g' w') {x : Lf} {v : Value} (h : Conc g w x v) : Conc g' w' x v := by
  induction h with
  | int k n => exact .int k n
  | bool b => exact .bool b
  | str s => exact .str s
  | nilp => exact .nilp
  | ptr h => exact .ptr (e.blk _ _ h)
  | rp cs h _ ih => exact .rp cs (fun i hi => ⟨e.fz _ _ (h i hi).1, (e.cell _ _ (h i hi).1).trans (h i hi).2⟩) ih
  | nils => exact .nils
  | sl0 => exact .sl0
  | sl cs hsz hcap h _ ih => exact .sl cs hsz hcap (fun i hi => ⟨e.fz _ _ (h i hi).1, (e.cell _ _ (h i hi).1).trans (h i hi).2⟩) ih
  | ms h h1 h2 => exact .ms (e.blk _ _ h) h1 h2
  | nilm => exact .nilm
  | mp h => exact .mp (e.blk _ _ h)
  | nilf => exact .nilf
  | clo cs hl _ ih => exact .clo cs hl ih
  | nili => exact .nili
  | tok v h => exact .tok v h

/-- A list of cells. -/
def ConcL (g : Gh) (w : World) (xs : List Lf) (vs : List Value) : Prop := xs.length = vs.length ∧ ∀ (i : Nat) (x : Lf) (v : Value), xs[i]? = some x → vs[i]? = some v → Conc g w x v

theorem ConcL.ev {g g' : Gh} {w w' : World} (e : Ev g w g' w') {xs : List Lf} {vs : List Value} (h : ConcL g w xs vs) : ConcL g' w' xs vs :=
  ⟨h.1, fun i x v a b => (h.2 i x v a b).ev e⟩
theorem ConcL.nil (g : Gh) (w : World) : ConcL g w [] [] := ⟨rfl, fun i x v h => by simp at h⟩
theorem ConcL.cons {g : Gh} {w : World} {x : Lf} {v : Value} {xs : List Lf} {vs : List Value} (h : Conc g w x v) (hs : ConcL g w xs vs) : ConcL g w (x :: xs) (v :: vs) :=
  ⟨by simp [hs.1], fun i y u a b => by
    cases i with
    | zero => simp only [List.getElem?_cons_zero, Option.some.injEq] at a b; subst a; subst b; exact h
    | succ i => exact hs.2 i y u (by simpa using a) (by simpa using b)⟩
theorem ConcL.one {g : Gh} {w : World} {xs : List Lf} {vs : List Value} (h : ConcL g w xs vs) : ∀ v ∈ vs, v.oneCell' = true := by
  intro v hv
  obtain ⟨i, hi, rfl⟩ := List.getElem_of_mem hv
  have hx : i < xs.length := by rw [h.1]; exact hi
  exact (h.2 i xs[i] vs[i] (List.getElem?_eq_getElem hx) (List.getElem?_eq_getElem hi)).one
theorem ConcL.get {g : Gh} {w : World} {xs : List Lf} {vs : List Value} (h : ConcL g w xs vs) {i : Nat} {x : Lf} (hx : xs[i]? = some x) : ∃ v, vs[i]? = some v ∧ Conc g w x v := by
  have hi : i < vs.length := by
    rw [← h.1]
    exact (List.getElem?_eq_some_iff.1 hx).1
  exact ⟨vs[i], List.getElem?_eq_getElem hi, h.2 i x _ hx (List.getElem?_eq_getElem hi)⟩
theorem ConcL.append {g : Gh} {w : World} {xs ys : List Lf} {us vs : List Value} (h : ConcL g w xs us) (h' : ConcL g w ys vs) : ConcL g w (xs ++ ys) (us ++ vs) := by
  refine ⟨by simp [h.1, h'.1], fun i x v a b => ?_⟩
  by_cases hi : i < xs.length
  · have hi' : i < us.length := by rw [← h.1]; exact hi
    rw [List.getElem?_append_left hi] at a
    rw [List.getElem?_append_left hi'] at b
    exact h.2 i x v a b
  · have hi' : ¬ i < us.length := by rw [← h.1]; exact hi
    rw [List.getElem?_append_right (by omega)] at a
    rw [List.getElem?_append_right (by omega), ← h.1] at b
    exact h'.2 _ x v a b
theorem ConcL.take {g : Gh} {w : World} {xs : List Lf} {vs : List Value} (h : ConcL g w xs vs) (n : Nat) : ConcL g w (xs.take n) (vs.take n) :=
  ⟨by simp [h.1], fun i x v a b => by
    rw [List.getElem?_take] at a b
    split at a
    · rename_i hn
      rw [if_pos hn] at b
      exact h.2 i x v a b
    · cases a⟩
theorem ConcL.drop {g : Gh} {w : World} {xs : List Lf} {vs : List Value} (h : ConcL g w xs vs) (n : Nat) : ConcL g w (xs.drop n) (vs.drop n) :=
  ⟨by simp [h.1], fun i x v a b => by
    rw [List.getElem?_drop] at a b
    exact h.2 _ x v a b⟩

inductive ConcA (g : Gh) (w : World) : AV → Value → Prop
  | l {x : Lf} {v : Value} (h : Conc g w x v) : ConcA g w (.l x) v
  | agg {cs : List Lf} (vs : List Value) (h : ConcL g w cs vs) : ConcA g w (.agg cs) (.agg vs.toArray)
  | tup {xs : List AV} (vs : List Value) (hl : xs.length = vs.length) (h : ∀ (i : Nat) (x : AV) (v : Value), xs[i]? = some x → vs[i]? = some v → ConcA g w x v) : ConcA g w (.tup xs) (.tuple vs.toArray)
  | any (v) : ConcA g w .any v

theorem ConcA.ev {g g' : Gh} {w w' : World} (e : Ev g w g' w') {x : AV} {v : Value} (h : ConcA g w x v) : ConcA g' w' x v := by
  induction h with
  | l h => exact .l (h.ev e)
  | agg vs h => exact .agg vs (h.ev e)
  | tup vs hl _ ih => exact .tup vs hl ih
  | any v => exact .any v

/-- A live block, as it lies. -/
def RowsAt (g : Gh) (w : World) (rows : List (List Lf)) (sz : Nat) (cur : Array Value) : Prop :=
  (∀ r ∈ rows, r.length = sz) ∧ ∀ (i j : Nat) (r : List Lf) (x : Lf), rows[i]? = some r → r[j]? = some x → ∃ v, cur[i * sz + j]? = some v ∧ Conc g w x v

def BlkAt (g : Gh) (w : World) (id : Nat) : Blk → Prop
  | .cells T rows keep => ∃ b sz cr cur, g.blk id = some (b, sz, cr) ∧ g.w0.heap.size ≤ b ∧ w.heap[b]? = some (.cells cur T (0, 0)) ∧ cur.size = cr * sz ∧ rows.length ≤ cr ∧ RowsAt g w rows sz cur ∧ (∀ o, g.fz b o → o < keep * sz) ∧ cr ≤ maxLen ∧ sz = szOf g.P T
  | .map es => ∃ b sz cr ents clock, g.blk id = some (b, sz, cr) ∧ g.w0.heap.size ≤ b ∧ w.heap[b]? = some (.map ents clock) ∧ ents.size = es.length ∧
      ∀ (i : Nat) (p : Lf × Lf) (e : MapEntry), es[i]? = some p → ents[i]? = some e → Conc g w p.1 e.key ∧ Conc g w p.2 e.val

structure Rel (g : Gh) (M : Mem) (w : World) : Prop where
  blk : ∀ id b, M id = some b → BlkAt g w id b
  inj : ∀ i j bi bj, M i = some bi → M j = some bj → ∀ x y, g.blk i = some x → g.blk j = some y → x.1 = y.1 → i = j
  lt : ∀ id x, g.blk id = some x → x.1 < w.heap.size
  fz : ∀ b o, g.fz b o → ∃ v, w.cell? ⟨b, o, none⟩ = some v
  fin : ∃ n, ∀ id, n ≤ id → g.blk id = none ∧ M id = none ∧ ¬ g.res id
  below : Below g.w0.heap.size g.w0 w

theorem Rel.le {g : Gh} {M M' : Mem} {w : World} (h : Rel g M w) (hle : M'.le M) : Rel g M' w where
  blk id b hb := h.blk id b (hle _ _ hb)
  inj i j bi bj hi hj := h.inj i j bi bj (hle _ _ hi) (hle _ _ hj)
  lt := h.lt
  fz := h.fz
  fin := by
    obtain ⟨n, hn⟩ := h.fin
    refine ⟨n, fun id hid => ⟨(hn id hid).1, ?_, (hn id hid).2.2⟩⟩
    cases hM : M' id with
    | none => rfl
    | some b => have := hle _ _ hM; rw [(hn id hid).2.1] at this; cases this
  below := h.below

theorem Rel.free {g : Gh} {M : Mem} {w : World} (h : Rel g M w) : ∃ id, g.blk id = none ∧ M id = none ∧ ¬ g.res id := by
  obtain ⟨n, hn⟩ := h.fin
  exact ⟨n, hn n (Nat.le_refl _)⟩

end Go.X
