/- The program logic: the set's own records as rows of cells, and what helps a walk along. -/
import Derived.Test.YthgppaccdlcaiaaXr
set_option linter.unusedVariables false
set_option linter.unusedSimpArgs false
set_option linter.unusedSectionVars false
namespace Go.X
open Go.RowKit

structure Pr where
  key : Int
  val : Int
  deriving DecidableEq, Inhabited
def Pr.row (p : Pr) : List Lf := [.int .i64 p.key, .int .i64 p.val]
structure Opn where
  kind : Int
  key : Int
  to : Int
  val : Int
  deriving DecidableEq, Inhabited
def Opn.row (o : Opn) : List Lf := [.int .i64 o.kind, .int .i64 o.key, .int .i64 o.to, .int .i64 o.val]
structure Ans where
  err : Int
  ok : Bool
  pair : Pr
  n : Int
  pairs : List Pr
  deriving DecidableEq, Inhabited
def Ans.row (a : Ans) : List Lf := [.int .i64 a.err, .bool a.ok, .int .i64 a.pair.key, .int .i64 a.pair.val, .int .i64 a.n, .sl (a.pairs.map Pr.row)]
structure Evt where
  who : Int
  ret : Bool
  op : Opn
  ans : Ans
  deriving DecidableEq, Inhabited
def Evt.row (e : Evt) : List Lf := [.int .i64 e.who, .bool e.ret, .int .i64 e.op.kind, .int .i64 e.op.key, .int .i64 e.op.to, .int .i64 e.op.val,
  .int .i64 e.ans.err, .bool e.ans.ok, .int .i64 e.ans.pair.key, .int .i64 e.ans.pair.val, .int .i64 e.ans.n, .sl (e.ans.pairs.map Pr.row)]
structure Cl where
  who : Int
  beg : Int
  fin : Int
  op : Opn
  ans : Ans
  deriving DecidableEq, Inhabited
def Cl.row (c : Cl) : List Lf := [.int .i64 c.who, .int .i64 c.beg, .int .i64 c.fin, .int .i64 c.op.kind, .int .i64 c.op.key, .int .i64 c.op.to, .int .i64 c.op.val,
  .int .i64 c.ans.err, .bool c.ans.ok, .int .i64 c.ans.pair.key, .int .i64 c.ans.pair.val, .int .i64 c.ans.n, .sl (c.ans.pairs.map Pr.row)]

def irow (n : Int) : List Lf := [.int .i64 n]
def oprow (l : List Opn) : List Lf := [.sl (l.map Opn.row)]
structure Pol where
  high : Int
  low : Int
  cont : Int
  unc : Int
  multi : Int
  deriving DecidableEq, Inhabited
def Pol.row (p : Pol) : List Lf := [.int .i64 p.high, .int .i64 p.low, .int .i64 p.cont, .int .i64 p.unc, .int .i64 p.multi]
structure Scr where
  threads : Int
  cells : Int
  pol : Pol
  beg : List Pr
  ops : List (List Opn)
  picks : List Int
  deriving DecidableEq, Inhabited
def Scr.row (s : Scr) : List Lf := [.int .i64 s.threads, .int .i64 s.cells, .int .i64 s.pol.high, .int .i64 s.pol.low, .int .i64 s.pol.cont, .int .i64 s.pol.unc, .int .i64 s.pol.multi,
  .sl (s.beg.map Pr.row), .sl (s.ops.map oprow), .sl (s.picks.map irow)]

theorem row_pr (p : Pr) : p.row = [.int .i64 p.key, .int .i64 p.val] := rfl
theorem row_opn (o : Opn) : o.row = [.int .i64 o.kind, .int .i64 o.key, .int .i64 o.to, .int .i64 o.val] := rfl
theorem row_ans (a : Ans) : a.row = [.int .i64 a.err, .bool a.ok, .int .i64 a.pair.key, .int .i64 a.pair.val, .int .i64 a.n, .sl (a.pairs.map Pr.row)] := rfl
theorem row_evt (e : Evt) : e.row = [.int .i64 e.who, .bool e.ret, .int .i64 e.op.kind, .int .i64 e.op.key, .int .i64 e.op.to, .int .i64 e.op.val,
  .int .i64 e.ans.err, .bool e.ans.ok, .int .i64 e.ans.pair.key, .int .i64 e.ans.pair.val, .int .i64 e.ans.n, .sl (e.ans.pairs.map Pr.row)] := rfl
theorem row_cl (c : Cl) : c.row = [.int .i64 c.who, .int .i64 c.beg, .int .i64 c.fin, .int .i64 c.op.kind, .int .i64 c.op.key, .int .i64 c.op.to, .int .i64 c.op.val,
  .int .i64 c.ans.err, .bool c.ans.ok, .int .i64 c.ans.pair.key, .int .i64 c.ans.pair.val, .int .i64 c.ans.n, .sl (c.ans.pairs.map Pr.row)] := rfl
theorem row_i (n : Int) : irow n = [.int .i64 n] := rfl
theorem row_ops (l : List Opn) : oprow l = [.sl (l.map Opn.row)] := rfl
theorem row_pol (p : Pol) : p.row = [.int .i64 p.high, .int .i64 p.low, .int .i64 p.cont, .int .i64 p.unc, .int .i64 p.multi] := rfl
theorem row_scr (s : Scr) : s.row = [.int .i64 s.threads, .int .i64 s.cells, .int .i64 s.pol.high, .int .i64 s.pol.low, .int .i64 s.pol.cont, .int .i64 s.pol.unc, .int .i64 s.pol.multi,
  .sl (s.beg.map Pr.row), .sl (s.ops.map oprow), .sl (s.picks.map irow)] := rfl

/-- An element of a list of rows, at an index that is an integer. -/
theorem ia_rows {α : Type} (row : α → List Lf) (d : α) (sz : Nat) (hrow : ∀ x, (row x).length = sz) (P : Program) (M : Mem) (t : TypeId) (l : List α) (k : IntKind) (n : Int) (h0 : 0 ≤ n) (h1 : n < l.length) :
    indexAddrA P M t (.l (.sl (l.map row))) (.l (.int k n)) = (match tiOf P t with
      | some ti => match ti.d with
        | .slice e => match tiOf P e with
          | some te => if sz = te.size then some (.l (.rp (row (l.getD n.toNat d)))) else none
          | none => none
        | _ => none
      | none => none) := by
  have hlt : n.toNat < l.length := by omega
  have hget : (l.map row)[n.toNat]? = some (row (l.getD n.toNat d)) := by
    rw [List.getElem?_map, List.getElem?_eq_getElem hlt, List.getD_eq_getElem?_getD, List.getElem?_eq_getElem hlt]; rfl
  unfold indexAddrA
  cases hti : tiOf P t with
  | none => rfl
  | some ti =>
    cases ti with
    | mk s a b z d =>
      cases d with
      | slice e =>
        simp only
        cases hte : tiOf P e with
        | none => rfl
        | some te =>
          simp only [List.length_map, hget, hrow]
          rw [if_pos ⟨h0, h1⟩]
      | array len e =>
        simp only
        cases hte : tiOf P e <;> rfl
      | _ => rfl

theorem ia_pr (P : Program) (M : Mem) (t : TypeId) (l : List Pr) (k : IntKind) (n : Int) (h0 : 0 ≤ n) (h1 : n < l.length) :
    indexAddrA P M t (.l (.sl (l.map Pr.row))) (.l (.int k n)) = (match tiOf P t with
      | some ti => match ti.d with
        | .slice e => match tiOf P e with
          | some te => if 2 = te.size then some (.l (.rp (Pr.row (l.getD n.toNat default)))) else none
          | none => none
        | _ => none
      | none => none) := ia_rows Pr.row default 2 (fun _ => rfl) P M t l k n h0 h1
theorem ia_opn (P : Program) (M : Mem) (t : TypeId) (l : List Opn) (k : IntKind) (n : Int) (h0 : 0 ≤ n) (h1 : n < l.length) :
    indexAddrA P M t (.l (.sl (l.map Opn.row))) (.l (.int k n)) = (match tiOf P t with
      | some ti => match ti.d with
        | .slice e => match tiOf P e with
          | some te => if 4 = te.size then some (.l (.rp (Opn.row (l.getD n.toNat default)))) else none
          | none => none
        | _ => none
      | none => none) := ia_rows Opn.row default 4 (fun _ => rfl) P M t l k n h0 h1
theorem ia_ans (P : Program) (M : Mem) (t : TypeId) (l : List Ans) (k : IntKind) (n : Int) (h0 : 0 ≤ n) (h1 : n < l.length) :
    indexAddrA P M t (.l (.sl (l.map Ans.row))) (.l (.int k n)) = (match tiOf P t with
      | some ti => match ti.d with
        | .slice e => match tiOf P e with
          | some te => if 6 = te.size then some (.l (.rp (Ans.row (l.getD n.toNat default)))) else none
          | none => none
        | _ => none
      | none => none) := ia_rows Ans.row default 6 (fun _ => rfl) P M t l k n h0 h1
theorem ia_evt (P : Program) (M : Mem) (t : TypeId) (l : List Evt) (k : IntKind) (n : Int) (h0 : 0 ≤ n) (h1 : n < l.length) :
    indexAddrA P M t (.l (.sl (l.map Evt.row))) (.l (.int k n)) = (match tiOf P t with
      | some ti => match ti.d with
        | .slice e => match tiOf P e with
          | some te => if 12 = te.size then some (.l (.rp (Evt.row (l.getD n.toNat default)))) else none
          | none => none
        | _ => none
      | none => none) := ia_rows Evt.row default 12 (fun _ => rfl) P M t l k n h0 h1
theorem ia_cl (P : Program) (M : Mem) (t : TypeId) (l : List Cl) (k : IntKind) (n : Int) (h0 : 0 ≤ n) (h1 : n < l.length) :
    indexAddrA P M t (.l (.sl (l.map Cl.row))) (.l (.int k n)) = (match tiOf P t with
      | some ti => match ti.d with
        | .slice e => match tiOf P e with
          | some te => if 13 = te.size then some (.l (.rp (Cl.row (l.getD n.toNat default)))) else none
          | none => none
        | _ => none
      | none => none) := ia_rows Cl.row default 13 (fun _ => rfl) P M t l k n h0 h1
theorem ia_i (P : Program) (M : Mem) (t : TypeId) (l : List Int) (k : IntKind) (n : Int) (h0 : 0 ≤ n) (h1 : n < l.length) :
    indexAddrA P M t (.l (.sl (l.map irow))) (.l (.int k n)) = (match tiOf P t with
      | some ti => match ti.d with
        | .slice e => match tiOf P e with
          | some te => if 1 = te.size then some (.l (.rp (irow (l.getD n.toNat default)))) else none
          | none => none
        | _ => none
      | none => none) := ia_rows irow default 1 (fun _ => rfl) P M t l k n h0 h1
theorem ia_ops (P : Program) (M : Mem) (t : TypeId) (l : List (List Opn)) (k : IntKind) (n : Int) (h0 : 0 ≤ n) (h1 : n < l.length) :
    indexAddrA P M t (.l (.sl (l.map oprow))) (.l (.int k n)) = (match tiOf P t with
      | some ti => match ti.d with
        | .slice e => match tiOf P e with
          | some te => if 1 = te.size then some (.l (.rp (oprow (l.getD n.toNat default)))) else none
          | none => none
        | _ => none
      | none => none) := ia_rows oprow default 1 (fun _ => rfl) P M t l k n h0 h1
theorem ia_ms (P : Program) (M : Mem) (t : TypeId) (id off len : Nat) (k : IntKind) (n : Int) (h0 : 0 ≤ n) (h1 : n < len) :
    indexAddrA P M t (.l (.ms id off len)) (.l (.int k n)) = (match tiOf P t with
      | some ti => match ti.d with
        | .slice e => match tiOf P e with
          | some te => (match M id with
            | some (.cells T _ _) => if T = e then some (.l (.ptr id (off + n.toNat) 0)) else none
            | _ => none)
          | none => none
        | _ => none
      | none => none) := by
  unfold indexAddrA
  cases hti : tiOf P t with
  | none => rfl
  | some ti =>
    cases ti with
    | mk s a b z d =>
      cases d with
      | slice e =>
        simp only
        cases hte : tiOf P e with
        | none => rfl
        | some te =>
          simp only
          rw [if_pos ⟨h0, h1⟩]
          rfl
      | array len e =>
        simp only
        cases hte : tiOf P e <;> rfl
      | _ => rfl
theorem ia_ptr (P : Program) (M : Mem) (t : TypeId) (id r c : Nat) (k : IntKind) (n : Int) :
    indexAddrA P M t (.l (.ptr id r c)) (.l (.int k n)) = (match tiOf P t with
      | some ti => match ti.d with
        | .array len e => match tiOf P e with
          | some te => if 0 ≤ n ∧ n < len then some (.l (.ptr id r (c + n.toNat * te.size))) else none
          | none => none
        | _ => none
      | none => none) := by
  unfold indexAddrA
  cases hti : tiOf P t with
  | none => rfl
  | some ti =>
    cases ti with
    | mk s a b z d =>
      cases d with
      | slice e =>
        simp only
        cases hte : tiOf P e <;> rfl
      | array len e =>
        simp only
        cases hte : tiOf P e <;> rfl
      | _ => rfl

theorem rg_pr (l : List Pr) (i : Nat) (h : i < l.length) : (l.map Pr.row)[i]? = some (Pr.row (l.getD i default)) := by
  rw [List.getElem?_map, List.getElem?_eq_getElem h, List.getD_eq_getElem?_getD, List.getElem?_eq_getElem h]; rfl
theorem rg_opn (l : List Opn) (i : Nat) (h : i < l.length) : (l.map Opn.row)[i]? = some (Opn.row (l.getD i default)) := by
  rw [List.getElem?_map, List.getElem?_eq_getElem h, List.getD_eq_getElem?_getD, List.getElem?_eq_getElem h]; rfl
theorem rg_ans (l : List Ans) (i : Nat) (h : i < l.length) : (l.map Ans.row)[i]? = some (Ans.row (l.getD i default)) := by
  rw [List.getElem?_map, List.getElem?_eq_getElem h, List.getD_eq_getElem?_getD, List.getElem?_eq_getElem h]; rfl
theorem rg_evt (l : List Evt) (i : Nat) (h : i < l.length) : (l.map Evt.row)[i]? = some (Evt.row (l.getD i default)) := by
  rw [List.getElem?_map, List.getElem?_eq_getElem h, List.getD_eq_getElem?_getD, List.getElem?_eq_getElem h]; rfl
theorem rg_cl (l : List Cl) (i : Nat) (h : i < l.length) : (l.map Cl.row)[i]? = some (Cl.row (l.getD i default)) := by
  rw [List.getElem?_map, List.getElem?_eq_getElem h, List.getD_eq_getElem?_getD, List.getElem?_eq_getElem h]; rfl
theorem rg_i (l : List Int) (i : Nat) (h : i < l.length) : (l.map irow)[i]? = some (irow (l.getD i default)) := by
  rw [List.getElem?_map, List.getElem?_eq_getElem h, List.getD_eq_getElem?_getD, List.getElem?_eq_getElem h]; rfl
theorem rg_ops (l : List (List Opn)) (i : Nat) (h : i < l.length) : (l.map oprow)[i]? = some (oprow (l.getD i default)) := by
  rw [List.getElem?_map, List.getElem?_eq_getElem h, List.getD_eq_getElem?_getD, List.getElem?_eq_getElem h]; rfl
theorem set_get_map {α : Type} (row : α → List Lf) (l : List α) (i : Nat) (r : List Lf) (h : i < l.length) : ((l.map row).set i r)[i]? = some r := by
  rw [List.getElem?_set_self (by simpa using h)]
theorem set_map_row {α : Type} (row : α → List Lf) (l : List α) (i : Nat) (x : α) (r : List Lf) (h : r = row x) : (l.map row).set i r = (l.set i x).map row := by
  rw [h, List.map_set]
theorem condI_prop {p : Prop} [Decidable p] {A B : Prop} (h : p → A) (h' : ¬ p → B) : @condI (.l (.bool (decide p))) ⟨A⟩ ⟨B⟩ :=
  ⟨fun e => h (of_decide_eq_true e), fun e => h' (of_decide_eq_false e)⟩
theorem gI_prop {p : Prop} [Decidable p] {A B : Prop} (h : p → A) (h' : ¬ p → B) : @gI (.l (.bool (decide p))) true ⟨A⟩ ⟨B⟩ :=
  ⟨fun e => h (of_decide_eq_true e), fun e => h' (of_decide_eq_false e)⟩
theorem gI_prop_f {p : Prop} [Decidable p] {A B : Prop} (h : ¬ p → A) (h' : p → B) : @gI (.l (.bool (decide p))) false ⟨A⟩ ⟨B⟩ :=
  ⟨fun e => h (of_decide_eq_false e), fun e => h' (of_decide_eq_true e)⟩
theorem gI_t {b : Bool} {A B : Prop} (h : b = true → A) (h' : b = false → B) : @gI (.l (.bool b)) true ⟨A⟩ ⟨B⟩ := ⟨h, h'⟩
theorem gI_f {b : Bool} {A B : Prop} (h : b = false → A) (h' : b = true → B) : @gI (.l (.bool b)) false ⟨A⟩ ⟨B⟩ := ⟨h, h'⟩

theorem toNat_pred (i : Nat) : ((i : Int) - 1).toNat = i - 1 := by omega
theorem toNat_succ (i : Nat) : ((i : Int) + 1).toNat = i + 1 := by omega
theorem bnd_new {M : Mem} {id id2 : Nat} {b : Blk} (h : ∀ j, id2 ≤ j → (M.set id b) j = none) : id < id2 ∧ ∀ j, id2 ≤ j → M j = none := by
  have key : ∀ j, id2 ≤ j → id ≠ j ∧ M j = none := fun j hj => by
    have := h j hj
    rw [Mem.set_app] at this
    split at this
    · cases this
    · rename_i hne; exact ⟨hne, this⟩
  refine ⟨?_, fun j hj => (key j hj).2⟩
  rcases Nat.lt_or_ge id id2 with h' | h'
  · exact h'
  · exact absurd rfl (key id h').1
theorem le_new {A M : Mem} {id : Nat} {b : Blk} (h : A.le M) (hb : ∀ j, id ≤ j → A j = none) : A.le (M.set id b) := Mem.le_set h (hb id (Nat.le_refl id))
/-- A claim as a Bool. -/
noncomputable def bof (p : Prop) : Bool := @decide p (Classical.propDecidable p)
theorem bof_iff {p : Prop} : bof p = true ↔ p := @decide_eq_true_iff p (Classical.propDecidable p)
theorem bof_not {p : Prop} : bof p = false ↔ ¬ p := @decide_eq_false_iff_not p (Classical.propDecidable p)
theorem bof_true {p : Prop} (h : p) : bof p = true := bof_iff.2 h
theorem bof_false {p : Prop} (h : ¬ p) : bof p = false := bof_not.2 h
theorem bof_congr {p q : Prop} (h : p ↔ q) : bof p = bof q := by rw [propext h]
theorem fin_ok {P : Program} {v : AV} {M : Mem} {K : AV → Mem → Prop} {M' : Mem} (hle : M'.le M) (h : K v M') : @finI P v M ⟨K⟩ := finI_of (XFin.le hle h)

theorem eql_agg_t (P : Program) (t : TypeId) (x : Operand) (u : Tmp) (xs ys : List Lf) (K : AV → Prop) : @binI P .eql t x (.tmp u) (.agg xs) (.agg ys) ⟨K⟩ = @optI _ (eqA P t (.agg xs) (.agg ys)) ⟨fun r => K (.l (.bool r))⟩ := eql_agg P t x _ xs ys rfl K
theorem neq_agg_t (P : Program) (t : TypeId) (x : Operand) (u : Tmp) (xs ys : List Lf) (K : AV → Prop) : @binI P .neq t x (.tmp u) (.agg xs) (.agg ys) ⟨K⟩ = @optI _ (eqA P t (.agg xs) (.agg ys)) ⟨fun r => K (.l (.bool (!r)))⟩ := neq_agg P t x _ xs ys rfl K
theorem eql_bool_t (P : Program) (t : TypeId) (x : Operand) (u : Tmp) (a b : Bool) (K : AV → Prop) : @binI P .eql t x (.tmp u) (.l (.bool a)) (.l (.bool b)) ⟨K⟩ = @optI _ (eqA P t (.l (.bool a)) (.l (.bool b))) ⟨fun r => K (.l (.bool r))⟩ := eql_bool P t x _ a b rfl K
theorem neq_bool_t (P : Program) (t : TypeId) (x : Operand) (u : Tmp) (a b : Bool) (K : AV → Prop) : @binI P .neq t x (.tmp u) (.l (.bool a)) (.l (.bool b)) ⟨K⟩ = @optI _ (eqA P t (.l (.bool a)) (.l (.bool b))) ⟨fun r => K (.l (.bool (!r)))⟩ := neq_bool P t x _ a b rfl K
theorem eql_ptr (P : Program) (t : TypeId) (x : Operand) (id r c : Nat) (K : AV → Prop) : @binI P .eql t x (.const (.pointer none)) (.l (.ptr id r c)) (.l .nilp) ⟨K⟩ = @optI _ (eqA P t (.l (.ptr id r c)) (.l .nilp)) ⟨fun r => K (.l (.bool r))⟩ := eql_nilp P t x _ _ rfl (fun _ _ h => by cases h) K
theorem neq_ptr (P : Program) (t : TypeId) (x : Operand) (id r c : Nat) (K : AV → Prop) : @binI P .neq t x (.const (.pointer none)) (.l (.ptr id r c)) (.l .nilp) ⟨K⟩ = @optI _ (eqA P t (.l (.ptr id r c)) (.l .nilp)) ⟨fun r => K (.l (.bool (!r)))⟩ := neq_nilp P t x _ _ rfl (fun _ _ h => by cases h) K
theorem eql_rp (P : Program) (t : TypeId) (x : Operand) (cs : List Lf) (K : AV → Prop) : @binI P .eql t x (.const (.pointer none)) (.l (.rp cs)) (.l .nilp) ⟨K⟩ = @optI _ (eqA P t (.l (.rp cs)) (.l .nilp)) ⟨fun r => K (.l (.bool r))⟩ := eql_nilp P t x _ _ rfl (fun _ _ h => by cases h) K
theorem eql_nil2 (P : Program) (t : TypeId) (x : Operand) (K : AV → Prop) : @binI P .eql t x (.const (.pointer none)) (.l .nilp) (.l .nilp) ⟨K⟩ = @optI _ (eqA P t (.l .nilp) (.l .nilp)) ⟨fun r => K (.l (.bool r))⟩ := eql_nilp P t x _ _ rfl (fun _ _ h => by cases h) K

/-! ### the nil slice is a slice without rows -/
def wkL : Lf → Lf
  | .nils => .sl []
  | x => x
theorem wkL_conc {g : Gh} {w : World} {x : Lf} {v : Value} (h : Conc g w x v) : Conc g w (wkL x) v := by
  cases h with
  | nils => exact .sl0
  | int k n => exact .int k n
  | bool b => exact .bool b
  | str s => exact .str s
  | nilp => exact .nilp
  | ptr h => exact .ptr h
  | rp cs h hc => exact .rp cs h hc
  | sl0 => exact .sl0
  | sl cs hsz hcap h hc => exact .sl cs hsz hcap h hc
  | ms h h1 h2 => exact .ms h h1 h2
  | nilm => exact .nilm
  | mp h => exact .mp h
  | nilf => exact .nilf
  | clo cs hl hc => exact .clo cs hl hc
  | nili => exact .nili
  | tok v h => exact .tok v h
def wkA : AV → AV
  | .l x => .l (wkL x)
  | .agg cs => .agg (cs.map wkL)
  | x => x
def wkT : AV → AV
  | .tup vs => .tup (vs.map wkA)
  | x => wkA x
theorem wkA_conc {g : Gh} {w : World} {x : AV} {v : Value} (h : ConcA g w x v) : ConcA g w (wkA x) v := by
  cases h with
  | l h => exact .l (wkL_conc h)
  | agg vs h =>
    refine .agg vs ⟨by simp [h.1], fun i x v a b => ?_⟩
    rw [List.getElem?_map] at a
    obtain ⟨y, hy, rfl⟩ := Option.map_eq_some_iff.1 a
    exact wkL_conc (h.2 i y v hy b)
  | tup vs hl h => exact .tup vs hl h
  | any v => exact .any v
theorem wkT_conc {g : Gh} {w : World} {x : AV} {v : Value} (h : ConcA g w x v) : ConcA g w (wkT x) v := by
  cases h with
  | tup vs hl h =>
    refine .tup vs (by simp [hl]) fun i x v a b => ?_
    rw [List.getElem?_map] at a
    obtain ⟨y, hy, rfl⟩ := Option.map_eq_some_iff.1 a
    exact wkA_conc (h i y v hy b)
  | l h => exact wkA_conc (.l h)
  | agg vs h => exact wkA_conc (.agg vs h)
  | any v => exact .any v
theorem XFin.wk {P : Program} {v : AV} {M : Mem} {K : AV → Mem → Prop} (h : XFin P (wkT v) M K) : XFin P v M K := fun g w c hP hc hR => h g w c hP (wkT_conc hc) hR
theorem XCalls.wk {P : Program} {f : FuncId} {args : List AV} {M : Mem} {K : AV → Mem → Prop} (h : XCalls P f (args.map wkA) M K) : XCalls P f args M K :=
  ⟨by simpa using h.1, fun g w vs hP hA hR => h.2 g w vs hP ⟨by simpa using hA.1, fun i x v a b => by
    rw [List.getElem?_map] at a
    obtain ⟨y, hy, rfl⟩ := Option.map_eq_some_iff.1 a
    exact wkA_conc (hA.2 i y v hy b)⟩ hR⟩
end Go.X
