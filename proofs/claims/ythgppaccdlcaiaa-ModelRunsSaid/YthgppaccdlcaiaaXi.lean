/- The program logic: operators, conversions, parts, maps. -/
import Derived.Test.YthgppaccdlcaiaaXh
set_option linter.unusedVariables false
set_option linter.unusedSimpArgs false
set_option linter.unusedSectionVars false
namespace Go.X
open Go.RowKit

/-! ### operators -/
def unA (op : UnOp) (x : AV) : Option AV :=
  match op, x with
  | .not, .l (.bool b) => some (.l (.bool (!b)))
  | .neg, .l (.int k n) => some (.l (.int k (k.wrap (0 - n))))
  | _, _ => none

theorem run_unA {P : Program} {g : Gh} {w : World} {op : UnOp} {x v : AV} {cx : Value} (hx : ConcA g w x cx) (h : unA op x = some v) : ∃ c, (Op.unary op cx).run P w = .ok c w ∧ ConcA g w v c := by
  unfold unA at h
  split at h
  · simp only [Option.some.injEq] at h
    subst h
    have := conc_bool hx
    subst this
    exact ⟨_, rfl, .l (.bool _)⟩
  · simp only [Option.some.injEq] at h
    subst h
    have := conc_int hx
    subst this
    exact ⟨_, rfl, .l (.int _ _)⟩
  · cases h

def convA (P : Program) (s d : TypeId) (x : AV) : Option AV :=
  match tiOf P s, tiOf P d, x with
  | some _, some td, .l (.int _ n) => match td.d with
    | .int k => some (.l (.int k (k.wrap n)))
    | _ => none
  | some ts, some td, .l (.str b) => if ts.d = .string ∧ td.d = .string then some (.l (.str b)) else none
  | _, _, _ => none

theorem run_convA {P : Program} {g : Gh} {w : World} {s d : TypeId} {x v : AV} {cx : Value} (hx : ConcA g w x cx) (h : convA P s d x = some v) : ∃ c, (convert s d cx).run P w = .ok c w ∧ ConcA g w v c := by
  unfold convA at h
  split at h
  · rename_i ts td k n hts htd
    obtain ⟨_, ds, _, _, hds, _, _, _, _, _, _⟩ := ti_spec hts
    obtain ⟨_, dd, _, _, hdd, _, _, _, _, _, hd⟩ := ti_spec htd
    have := conc_int hx
    subst this
    split at h
    · rename_i k' hk'
      rw [hd] at hk'
      have := tdOf_int hk'
      subst this
      simp only [Option.some.injEq] at h
      subst h
      refine ⟨_, ?_, .l (.int _ _)⟩
      simp only [convert, Sem.run_bind, run_underlying hds, run_underlying hdd, Result.andThen_ok]
      cases ds <;> rfl
    · cases h
  · rename_i ts td b hts htd
    obtain ⟨_, ds, _, _, hds, _, _, _, _, _, hd1⟩ := ti_spec hts
    obtain ⟨_, dd, _, _, hdd, _, _, _, _, _, hd⟩ := ti_spec htd
    have := conc_str hx
    subst this
    split at h
    · rename_i hc
      simp only [Option.some.injEq] at h
      subst h
      rw [hd1, hd] at hc
      have h1 := tdOf_string hc.1
      have h2 := tdOf_string hc.2
      subst h1; subst h2
      refine ⟨.string b, ?_, .l (.str _)⟩
      simp [convert, run_underlying hds, run_underlying hdd]
    · cases h
  · cases h

/-- A plain type: whole numbers, bools, strings. -/
def plainT (P : Program) (t : TypeId) : Bool := match P.underlying t with | some (.int _) => true | some .bool => true | some .string => true | _ => false
/-- A struct of n plain cells, none nameless, by the table. -/
def flatEq (P : Program) (t : TypeId) (n : Nat) : Bool :=
  match P.underlying t with
  | some (.struct fs) => !P.stoodInHeld t && !P.eqGuardType P.depth t && fs.toList.all (fun f => f.name != "_" && plainT P f.type) && fs.toList.zipIdx.all (fun x => x.1.offset == x.2) && fs.size == n
  | _ => false

/-- The kind of a plain type, as the table has it. -/
def fitL (d : TD) (x : Lf) : Bool :=
  match d, x with
  | .int _, .int _ _ => true
  | .bool, .bool _ => true
  | .string, .str _ => true
  | _, _ => false

theorem beq_dec {α : Type} [BEq α] [LawfulBEq α] [DecidableEq α] (a b : α) : (a == b) = decide (a = b) := by
  by_cases h : a = b <;> simp [h]

theorem bytes_dec (a b : ByteArray) : (a.toList == b.toList) = decide (a = b) := by
  rw [beq_dec, ByteArray.toList_eq, ByteArray.toList_eq]
  obtain ⟨⟨x⟩⟩ := a
  obtain ⟨⟨y⟩⟩ := b
  simp

theorem run_equalIn_ptr_nil {P : Program} (w : World) (d : Nat) {t e : TypeId} (a : Option Addr) (h : P.underlying t = some (.pointer e)) : (Op.equalIn (d + 1) t (.pointer a) (.pointer none)).run P w = .ok a.isNone w := by
  cases a <;> simp [Op.equalIn, run_underlying h]
theorem run_eql_ptr_nil {P : Program} (w : World) {t e : TypeId} (a : Option Addr) (h : P.underlying t = some (.pointer e)) : (binOp .eql t (.pointer a) (.pointer none)).run P w = .ok (.bool a.isNone) w := by
  simp only [binOp]
  simp [Op.equal, Op.maxDepth, run_equalIn_ptr_nil w 9999 a h]
theorem run_neq_ptr_nil {P : Program} (w : World) {t e : TypeId} (a : Option Addr) (h : P.underlying t = some (.pointer e)) : (binOp .neq t (.pointer a) (.pointer none)).run P w = .ok (.bool (!a.isNone)) w := by
  simp only [binOp]
  simp [Op.equal, Op.maxDepth, run_equalIn_ptr_nil w 9999 a h]

theorem eqL_run {P : Program} {g : Gh} {w : World} {x y : Lf} {cx cy : Value} {b : Bool} {t : TypeId} {i : TI} (dep : Nat) (hx : Conc g w x cx) (hy : Conc g w y cy) (h : eqL x y = some b) (hi : tiOf P t = some i) (hfit : fitL i.d x = true) :
    (Op.equalIn (dep + 1) t cx cy).run P w = .ok b w := by
  obtain ⟨_, d, _, _, hd, _, _, _, _, _, hdd⟩ := ti_spec hi
  rw [hdd] at hfit
  cases hx with
  | int k n =>
    cases hy with
    | int k' m =>
      simp only [eqL] at h
      split at h
      · rename_i hk
        subst hk
        simp only [Option.some.injEq] at h
        subst h
        cases d <;> simp [tdOf, fitL] at hfit
        rw [run_equalIn_int w dep t _ _ _ _ hd, beq_dec]
      · cases h
    | _ => simp [eqL] at h
  | bool a =>
    cases hy with
    | bool a' =>
      simp only [eqL, Option.some.injEq] at h
      subst h
      cases d <;> simp [tdOf, fitL] at hfit
      exact run_equalIn_bool w dep t _ _ hd
    | _ => simp [eqL] at h
  | str a =>
    cases hy with
    | str a' =>
      simp only [eqL, Option.some.injEq] at h
      subst h
      cases d <;> simp [tdOf, fitL] at hfit
      rw [run_equalIn_string w dep t _ _ hd, bytes_dec]
    | _ => simp [eqL] at h
  | _ => simp [eqL] at h

def fitC (P : Program) : List (Nat × Nat) → List Lf → Bool
  | [], [] => true
  | (_, t) :: fs, x :: xs => (match tiOf P t with | some i => fitL i.d x | none => false) && fitC P fs xs
  | _, _ => false

theorem run_eqFields_flat {P : Program} {g : Gh} {w : World} (dep : Nat) (xs ys : Array Value) : ∀ (fs : List Field) (k : Nat) (as bs : List Lf) (b : Bool), (fs.all fun f => f.name != "_" && plainT P f.type) = true → ((fs.zipIdx k).all fun x => x.1.offset == x.2) = true →
    fitC P (fs.map fun f => (f.offset, f.type)) as = true → ConcL g w as (xs.toList.drop k) → ConcL g w bs (ys.toList.drop k) → eqCells as bs = some b → (Op.eqFields (dep + 1) xs ys fs).run P w = .ok b w
  | [], k, as, bs, b, _, _, hf, hx, hy, he => by
    cases as with
    | cons a as => simp [fitC] at hf
    | nil =>
      cases bs with
      | nil => simp [eqCells] at he; subst he; rfl
      | cons => simp [eqCells] at he
  | f :: fs, k, as, bs, b, hall, hoff, hf, hx, hy, he => by
    cases as with
    | nil => simp [fitC] at hf
    | cons a as =>
      cases bs with
      | nil => simp [eqCells] at he
      | cons a' bs =>
        simp only [List.all_cons, Bool.and_eq_true, List.zipIdx_cons] at hall hoff
        obtain ⟨⟨hn, hp⟩, hall⟩ := hall
        obtain ⟨ho, hoff⟩ := hoff
        have hok : f.offset = k := by simpa using ho
        simp only [List.map_cons, fitC, Bool.and_eq_true] at hf
        obtain ⟨hfit, hf⟩ := hf
        obtain ⟨v, hv, hcv⟩ := hx.get (i := 0) (x := a) rfl
        obtain ⟨v', hv', hcv'⟩ := hy.get (i := 0) (x := a') rfl
        rw [List.getElem?_drop, Nat.add_zero] at hv hv'
        have hx' : ConcL g w as (xs.toList.drop (k + 1)) := by
          have := hx.drop 1
          simpa [List.drop_drop, Nat.add_comm] using this
        have hy' : ConcL g w bs (ys.toList.drop (k + 1)) := by
          have := hy.drop 1
          simpa [List.drop_drop, Nat.add_comm] using this
        simp only [eqCells] at he
        split at he
        · rename_i p q hpq hq
          simp only [Option.some.injEq] at he
          subst he
          have hund : ∃ i d, tiOf P f.type = some i ∧ fitL i.d a = true ∧ P.underlying f.type = some d ∧ tdAgg d = false := by
            cases hi : tiOf P f.type with
            | none => rw [hi] at hfit; cases hfit
            | some i =>
              rw [hi] at hfit
              obtain ⟨_, d, _, _, hd, _, _, _, _, _, hdd⟩ := ti_spec hi
              refine ⟨i, d, rfl, hfit, hd, ?_⟩
              simp only at hfit
              rw [hdd] at hfit
              cases d <;> first | rfl | (simp [tdOf, fitL] at hfit)
          obtain ⟨i, d, hi, hfi, hd, hag⟩ := hund
          have hpx : (part f.type xs f.offset).run P w = .ok v w := by
            have : xs[k]? = some v := by simpa using hv
            simp [part, run_isAgg' hd, hag, hok, this]
          have hpy : (part f.type ys f.offset).run P w = .ok v' w := by
            have : ys[k]? = some v' := by simpa using hv'
            simp [part, run_isAgg' hd, hag, hok, this]
          have hr := eqL_run (P := P) dep hcv hcv' hpq hi hfi
          have ih := run_eqFields_flat dep xs ys fs (k + 1) as bs q hall hoff hf hx' hy' hq
          have hne : f.name ≠ "_" := by simpa using hn
          simp only [Op.eqFields, if_pos hne, Sem.run_bind, hpx, hpy, hr, Result.andThen_ok, Sem.run_ite]
          cases p with
          | false => rfl
          | true => simpa using ih
        · cases he

/-- What '==' tells of two values (none: this logic doesn't know). -/
def eqA (P : Program) (t : TypeId) (x y : AV) : Option Bool :=
  match x, y with
  | .l (.bool a), .l (.bool b) => match tiOf P t with | some i => if i.d = .bool then some (a == b) else none | none => none
  | .l (.str a), .l (.str b) => some (decide (a = b))
  | .agg xs, .agg ys => match tiOf P t with
    | some i => match i.d with
      | .struct fs => if flatEq P t xs.length = true ∧ fitC P fs xs = true then eqCells xs ys else none
      | _ => none
    | none => none
  | .l .nilp, .l .nilp => match tiOf P t with | some i => (match i.d with | .pointer _ => some true | _ => none) | none => none
  | .l (.ptr _ _ _), .l .nilp => match tiOf P t with | some i => (match i.d with | .pointer _ => some false | _ => none) | none => none
  | .l (.rp _), .l .nilp => match tiOf P t with | some i => (match i.d with | .pointer _ => some false | _ => none) | none => none
  | _, _ => none

theorem run_eqA {P : Program} {g : Gh} {w : World} {t : TypeId} {x y : AV} {cx cy : Value} {b : Bool} (o1 o2 : Operand) (hx : ConcA g w x cx) (hy : ConcA g w y cy) (h : eqA P t x y = some b) :
    (do eqGuard .eql t o1 o2 cx cy; binOp .eql t cx cy : Sem Value).run P w = .ok (.bool b) w ∧ (do eqGuard .neq t o1 o2 cx cy; binOp .neq t cx cy : Sem Value).run P w = .ok (.bool (!b)) w := by
  unfold eqA at h
  split at h
  · have h1 := conc_bool hx
    have h2 := conc_bool hy
    subst h1; subst h2
    split at h
    · rename_i i hi
      obtain ⟨_, d, _, _, hd, _, _, _, _, _, hdd⟩ := ti_spec hi
      split at h
      · rename_i hb
        simp only [Option.some.injEq] at h
        subst h
        rw [hdd] at hb
        have := tdOf_bool hb
        subst this
        constructor <;> simp [eqGuard, run_eql_bool w t _ _ hd, run_neq_bool w t _ _ hd]
      · cases h
    · cases h
  · have h1 := conc_str hx
    have h2 := conc_str hy
    subst h1; subst h2
    simp only [Option.some.injEq] at h
    subst h
    constructor <;> simp [eqGuard, binOp, Op.stringOp, bytes_dec]
  · rename_i xs ys
    split at h
    · rename_i i hi
      obtain ⟨_, d, _, _, hd, _, _, _, _, _, hdd⟩ := ti_spec hi
      split at h
      · rename_i fs hfs
        rw [hdd] at hfs
        obtain ⟨fields, rfl, rfl⟩ := tdOf_struct hfs
        split at h
        · rename_i hc
          obtain ⟨hfl, hfit⟩ := hc
          unfold flatEq at hfl
          rw [hd] at hfl
          simp only [Bool.and_eq_true, Bool.not_eq_true'] at hfl
          obtain ⟨⟨⟨⟨hst, hgt⟩, hall⟩, hoff⟩, hn⟩ := hfl
          cases hx with
          | agg vs hv =>
            cases hy with
            | agg vs' hv' =>
              have hft : P.underlying t = some (.struct (P.fieldsOf t)) := by rw [hd]; simp [Program.fieldsOf, hd]
              have hff : (P.fieldsOf t) = fields := by simp [Program.fieldsOf, hd]
              have hrun : (Op.equalIn 10000 t (.agg vs.toArray) (.agg vs'.toArray)).run P w = .ok b w := by
                rw [show (10000 : Nat) = 9999 + 1 from rfl, run_equalIn_struct w 9999 t _ _ hft hst, hff]
                exact run_eqFields_flat 9998 vs.toArray vs'.toArray fields.toList 0 xs ys b hall hoff hfit (by simpa using hv) (by simpa using hv') h
              constructor
              · rw [Sem.run_bind, run_eqGuard_agg w .eql t o1 o2 _ _ hgt, Result.andThen_ok, run_eql_struct, hrun, Result.andThen_ok]
              · rw [Sem.run_bind, run_eqGuard_agg w .neq t o1 o2 _ _ hgt, Result.andThen_ok, run_neq_struct, hrun, Result.andThen_ok]
        · cases h
      · cases h
    · cases h
  · split at h
    · rename_i i hi
      obtain ⟨_, d, _, _, hd, _, _, _, _, _, hdd⟩ := ti_spec hi
      split at h
      · rename_i e he
        rw [hdd] at he
        have := tdOf_pointer he
        subst this
        simp only [Option.some.injEq] at h
        subst h
        cases hx with | l hx => cases hx; cases hy with | l hy => cases hy; constructor <;> simp [eqGuard, run_eql_ptr_nil w _ hd, run_neq_ptr_nil w _ hd]
      · cases h
    · cases h
  · split at h
    · rename_i i hi
      obtain ⟨_, d, _, _, hd, _, _, _, _, _, hdd⟩ := ti_spec hi
      split at h
      · rename_i e he
        rw [hdd] at he
        have := tdOf_pointer he
        subst this
        simp only [Option.some.injEq] at h
        subst h
        cases hx with | l hx => cases hx; cases hy with | l hy => cases hy; constructor <;> simp [eqGuard, run_eql_ptr_nil w _ hd, run_neq_ptr_nil w _ hd]
      · cases h
    · cases h
  · split at h
    · rename_i i hi
      obtain ⟨_, d, _, _, hd, _, _, _, _, _, hdd⟩ := ti_spec hi
      split at h
      · rename_i e he
        rw [hdd] at he
        have := tdOf_pointer he
        subst this
        simp only [Option.some.injEq] at h
        subst h
        cases hx with | l hx => cases hx; cases hy with | l hy => cases hy; constructor <;> simp [eqGuard, run_eql_ptr_nil w _ hd, run_neq_ptr_nil w _ hd]
      · cases h
    · cases h
  · cases h

def isNilS : Operand → Bool
  | .const (.slice none 0 0) => true
  | _ => false

/-- x against the nil slice. -/
def nilSK (neq : Bool) (x : AV) (K : AV → Prop) : Prop :=
  match x with
  | .l (.sl rows) => (rows = [] → ∀ b, K (.l (.bool b))) ∧ (rows ≠ [] → K (.l (.bool neq)))
  | .l .nils => ∀ b, K (.l (.bool b))
  | .l (.ms _ _ _) => K (.l (.bool neq))
  | _ => False

def binK (P : Program) (op : BinOp) (t : TypeId) (x y : Operand) (a b : AV) (K : AV → Prop) : Prop :=
  match a, b with
  | .l (.int k n), .l (.int k' m) => if k = k' then optK (arithA op k n m) fun v => K (.l v) else optK (shiftA op k n m) fun v => K (.l v)
  | a, b => match op with
    | .eql => if isNilS y then (match tiOf P t with | some i => (match i.d with | .slice _ => nilSK false a K | _ => False) | none => False) else optK (eqA P t a b) fun r => K (.l (.bool r))
    | .neq => if isNilS y then (match tiOf P t with | some i => (match i.d with | .slice _ => nilSK true a K | _ => False) | none => False) else optK (eqA P t a b) fun r => K (.l (.bool (!r)))
    | .add => match a, b with
      | .l (.str s), .l (.str s') => s.size + s'.size ≤ 9223372036854775807 ∧ K (.l (.str (s ++ s')))
      | _, _ => False
    | _ => False

theorem run_shift {P : Program} {w : World} {op : BinOp} {k k' : IntKind} {n m : Int} {v : Lf} (h : shiftA op k n m = some v) (t : TypeId) : ∃ c, (binOp op t (.int k n) (.int k' m)).run P w = .ok c w ∧ ∀ g, Conc g w v c := by
  cases op <;> simp only [shiftA, reduceCtorEq] at h
  case shl =>
    split at h
    · cases h
    · rename_i h0
      simp only [Option.some.injEq] at h; subst h; exact ⟨_, by simp [binOp, Op.shift, h0], fun g => .int _ _⟩
  case shr =>
    split at h
    · cases h
    · rename_i h0
      simp only [Option.some.injEq] at h; subst h; exact ⟨_, by simp [binOp, Op.shift, h0], fun g => .int _ _⟩
theorem run_arith {P : Program} {w : World} {op : BinOp} {k : IntKind} {n m : Int} {v : Lf} (h : arithA op k n m = some v) (t : TypeId) : ∃ c, (binOp op t (.int k n) (.int k m)).run P w = .ok c w ∧ ∀ g, Conc g w v c := by
  cases op <;> simp only [arithA, cmpA, Option.map_some, Option.map_none, Option.some.injEq, reduceCtorEq] at h
  case add => subst h; exact ⟨_, by simp [binOp, Op.intArith], fun g => .int _ _⟩
  case sub => subst h; exact ⟨_, by simp [binOp, Op.intArith], fun g => .int _ _⟩
  case mul => subst h; exact ⟨_, by simp [binOp, Op.intArith], fun g => .int _ _⟩
  case quo =>
    split at h
    · cases h
    · rename_i h0
      simp only [Option.some.injEq] at h; subst h; exact ⟨_, by simp [binOp, Op.intDiv, h0], fun g => .int _ _⟩
  case rem =>
    split at h
    · cases h
    · rename_i h0
      simp only [Option.some.injEq] at h; subst h; exact ⟨_, by simp [binOp, Op.intDiv, h0], fun g => .int _ _⟩
  case and => subst h; exact ⟨_, by simp [binOp, Op.intBits, bitsA], fun g => .int _ _⟩
  case or => subst h; exact ⟨_, by simp [binOp, Op.intBits, bitsA], fun g => .int _ _⟩
  case xor => subst h; exact ⟨_, by simp [binOp, Op.intBits, bitsA], fun g => .int _ _⟩
  case andNot => subst h; exact ⟨_, by simp [binOp, Op.intBits, bitsA], fun g => .int _ _⟩
  case shl => exact run_shift h t
  case shr => exact run_shift h t
  case eql => subst h; exact ⟨.bool (n == m), by simp [binOp, Op.intCmp], fun g => by rw [beq_dec]; exact .bool _⟩
  case neq => subst h; exact ⟨.bool (n != m), by simp [binOp, Op.intCmp], fun g => by rw [bne, beq_dec, show (!decide (n = m)) = decide (n ≠ m) by simp]; exact .bool _⟩
  case lss => subst h; exact ⟨_, by simp [binOp, Op.intCmp], fun g => .bool _⟩
  case leq => subst h; exact ⟨_, by simp [binOp, Op.intCmp], fun g => .bool _⟩
  case gtr => subst h; exact ⟨.bool (decide (n > m)), by simp [binOp, Op.intCmp], fun g => .bool _⟩
  case geq => subst h; exact ⟨.bool (decide (n ≥ m)), by simp [binOp, Op.intCmp], fun g => .bool _⟩

theorem run_binK {P : Program} {g : Gh} {w : World} {op : BinOp} {t : TypeId} {x y : Operand} {a b : AV} {ca cb : Value} (hx : ConcA g w a ca) (hy : ConcA g w b cb) (hyc : isNilS y = true → cb = .slice none 0 0) {K : AV → Prop}
    (h : binK P op t x y a b K) : ∃ c v, (do eqGuard op t x y ca cb; binOp op t ca cb : Sem Value).run P w = .ok c w ∧ K v ∧ ConcA g w v c := by
  unfold binK at h
  split at h
  · rename_i k n k' m
    have h1 := conc_int hx
    have h2 := conc_int hy
    subst h1; subst h2
    split at h
    · rename_i hk
      subst hk
      unfold optK at h
      split at h
      · rename_i v hv
        obtain ⟨c, hr, hc⟩ := run_arith (P := P) (w := w) hv t
        refine ⟨c, _, ?_, h, .l (hc g)⟩
        have : (eqGuard op t x y (.int k n) (.int k m)).run P w = .ok () w := by cases op <;> rfl
        rw [Sem.run_bind, this, Result.andThen_ok, hr]
      · exact h.elim
    · unfold optK at h
      split at h
      · rename_i v hv
        obtain ⟨c, hr, hc⟩ := run_shift (P := P) (w := w) (k' := k') hv t
        refine ⟨c, _, ?_, h, .l (hc g)⟩
        have : (eqGuard op t x y (.int k n) (.int k' m)).run P w = .ok () w := by cases op <;> rfl
        rw [Sem.run_bind, this, Result.andThen_ok, hr]
      · exact h.elim
  · have nilcase : ∀ (op' : BinOp) (neq : Bool) (i : TI) (e : Nat), tiOf P t = some i → i.d = .slice e → isNilS y = true → nilSK neq a K → (op' = .eql ∧ neq = false) ∨ (op' = .neq ∧ neq = true) →
        ∃ c v, (do eqGuard op' t x y ca cb; binOp op' t ca cb : Sem Value).run P w = .ok c w ∧ K v ∧ ConcA g w v c := by
      intro op' neq i e hi he hn hk hop
      have := hyc hn
      subst this
      obtain ⟨_, d, _, _, hd, _, _, _, _, _, hdd⟩ := ti_spec hi
      rw [hdd] at he
      have := tdOf_slice he
      subst this
      have hrun : ∀ (ao : Option Addr) (l c : Nat), (do eqGuard op' t x y (.slice ao l c) (.slice none 0 0); binOp op' t (.slice ao l c) (.slice none 0 0) : Sem Value).run P w = .ok (.bool (if neq then !ao.isNone else ao.isNone)) w := by
        intro ao l c
        rcases hop with ⟨rfl, rfl⟩ | ⟨rfl, rfl⟩
        · have : (eqGuard .eql t x y (.slice ao l c) (.slice none 0 0)).run P w = .ok () w := rfl
          rw [Sem.run_bind, this, Result.andThen_ok, Lib.run_eql_slice_nil w t e ao l c 0 0 hd]; simp
        · have : (eqGuard .neq t x y (.slice ao l c) (.slice none 0 0)).run P w = .ok () w := rfl
          rw [Sem.run_bind, this, Result.andThen_ok, run_neq_slice_nil_any w t e ao l c 0 0 hd]; simp
      unfold nilSK at hk
      split at hk
      · rename_i rows _
        cases hx with
        | l hx =>
          by_cases hne : rows = []
          · obtain ⟨ao, cap, rfl, _⟩ := conc_sl hx
            exact ⟨_, _, hrun _ _ _, hk.1 hne _, .l (.bool _)⟩
          · obtain ⟨r0, hr0⟩ := List.exists_mem_of_ne_nil rows hne
            obtain ⟨k, hk1, hk'⟩ := List.getElem_of_mem hr0
            obtain ⟨b, o, cap, rfl, _, _⟩ := conc_sl_row hx (List.getElem?_eq_getElem hk1)
            refine ⟨_, _, hrun _ _ _, hk.2 hne, ?_⟩
            cases neq <;> exact .l (.bool _)
      · cases hx with
        | l hx => cases hx with | nils => exact ⟨_, _, hrun _ _ _, hk _, .l (.bool _)⟩
      · cases hx with
        | l hx =>
          cases hx with
          | ms hb h1 h2 =>
            refine ⟨_, _, hrun _ _ _, hk, ?_⟩
            cases neq <;> exact .l (.bool _)
      · exact hk.elim
    split at h
    · split at h
      · rename_i hn
        split at h
        · rename_i i hi
          split at h
          · rename_i e he
            exact nilcase .eql false i e hi he hn h (.inl ⟨rfl, rfl⟩)
          · exact h.elim
        · exact h.elim
      · unfold optK at h
        split at h
        · rename_i r hr
          exact ⟨_, _, (run_eqA x y hx hy hr).1, h, .l (.bool _)⟩
        · exact h.elim
    · split at h
      · rename_i hn
        split at h
        · rename_i i hi
          split at h
          · rename_i e he
            exact nilcase .neq true i e hi he hn h (.inr ⟨rfl, rfl⟩)
          · exact h.elim
        · exact h.elim
      · unfold optK at h
        split at h
        · rename_i r hr
          exact ⟨_, _, (run_eqA x y hx hy hr).2, h, .l (.bool _)⟩
        · exact h.elim
    · split at h
      · rename_i s s' _
        have h1 := conc_str hx
        have h2 := conc_str hy
        subst h1; subst h2
        refine ⟨.string (s ++ s'), _, ?_, h.2, .l (.str _)⟩
        have hle : ¬ (9223372036854775807 < (s.size : Int) + (s'.size : Int)) := by omega
        simp [eqGuard, binOp, Op.stringOp, IntKind.max, IntKind.bits, IntKind.signed, hle]
      · exact h.elim
    · exact h.elim


/-! ### maps -/
def sameK : Lf → Lf → Option Bool
  | .int k a, .int k' b => if k = k' then some (decide (a = b)) else none
  | .str a, .str b => some (decide (a = b))
  | _, _ => none

/-- The place and the value of a key (the outer none: this logic doesn't know). -/
def findA (key : Lf) : List (Lf × Lf) → Nat → Option (Option (Nat × Lf))
  | [], _ => some none
  | (k, v) :: es, i => match sameK key k with
    | some true => some (some (i, v))
    | some false => findA key es (i + 1)
    | none => none

def keyT (d : TD) (key : Lf) : Bool := match d, key with | .int _, .int _ _ => true | .string, .str _ => true | _, _ => false

theorem sameNow_of {g : Gh} {w : World} {d : TypeDesc} {x y : Lf} {cx cy : Value} {b : Bool} (hx : Conc g w x cx) (hy : Conc g w y cy) (hk : keyT (tdOf d) x = true) (h : sameK x y = some b) : Instr.sameNow d cx cy = some b ∧ (b = true → Instr.sameBits 10000 cy cx = true) := by
  cases hx with
  | int k n =>
    cases hy with
    | int k' m =>
      simp only [sameK] at h
      split at h
      · rename_i he
        subst he
        simp only [Option.some.injEq] at h
        subst h
        cases d <;> simp [tdOf, keyT] at hk
        refine ⟨by simp [Instr.sameNow, beq_dec], fun hb => ?_⟩
        have : n = m := of_decide_eq_true hb
        subst this
        simp [Instr.sameBits]
      · cases h
    | _ => simp [sameK] at h
  | str a =>
    cases hy with
    | str a' =>
      simp only [sameK, Option.some.injEq] at h
      subst h
      cases d <;> simp [tdOf, keyT] at hk
      refine ⟨?_, fun hb => ?_⟩
      · have := bytes_dec a a'
        rw [← beq_toListBytes] at this
        simp [Instr.sameNow, this]
      · have : a = a' := of_decide_eq_true hb
        subst this
        have hs := bytes_dec a a
        rw [← beq_toListBytes] at hs
        simp [Instr.sameBits, hs]
    | _ => simp [sameK] at h
  | _ => cases d <;> simp [tdOf, keyT] at hk

theorem findNow_of {g : Gh} {w : World} {d : TypeDesc} {key : Lf} {ck : Value} (hkey : Conc g w key ck) (hk : keyT (tdOf d) key = true) : ∀ (es : List (Lf × Lf)) (ents : List MapEntry) (i : Nat) (r : Option (Nat × Lf)), es.length = ents.length →
    (∀ (j : Nat) (p : Lf × Lf) (e : MapEntry), es[j]? = some p → ents[j]? = some e → Conc g w p.1 e.key ∧ Conc g w p.2 e.val) → findA key es i = some r →
    (r = none ∧ Instr.findNow d ck ents i = some none) ∨ (∃ j v p e, r = some (i + j, v) ∧ es[j]? = some p ∧ ents[j]? = some e ∧ v = p.2 ∧ Instr.findNow d ck ents i = some (some (i + j, e.val)) ∧ Instr.sameBits 10000 e.key ck = true)
  | [], [], i, r, _, _, h => by
    simp only [findA, Option.some.injEq] at h
    exact .inl ⟨h.symm, rfl⟩
  | [], _ :: _, _, _, hl, _, _ => by simp at hl
  | _ :: _, [], _, _, hl, _, _ => by simp at hl
  | (k, v) :: es, e :: ents, i, r, hl, hp, h => by
    have h0 := hp 0 (k, v) e rfl rfl
    simp only [findA] at h
    split at h
    · rename_i hs
      simp only [Option.some.injEq] at h
      obtain ⟨h1, h2⟩ := sameNow_of hkey h0.1 hk hs
      exact .inr ⟨0, v, (k, v), e, h.symm, rfl, rfl, rfl, by simp [Instr.findNow, h1], h2 rfl⟩
    · rename_i hs
      obtain ⟨h1, _⟩ := sameNow_of hkey h0.1 hk hs
      rcases findNow_of hkey hk es ents (i + 1) r (by simpa using hl) (fun j p e a b => hp (j + 1) p e (by simpa using a) (by simpa using b)) h with ⟨rfl, h3⟩ | ⟨j, v', p, e', rfl, h4, h5, h6, h7, h8⟩
      · exact .inl ⟨rfl, by simp [Instr.findNow, h1, h3]⟩
      · exact .inr ⟨j + 1, v', p, e', by rw [show i + (j + 1) = i + 1 + j by omega], by simpa using h4, by simpa using h5, h6, by rw [show i + (j + 1) = i + 1 + j by omega]; simp [Instr.findNow, h1, h7], h8⟩
    · cases h

def entsA (M : Mem) (m : AV) : Option (List (Lf × Lf)) :=
  match m with
  | .l .nilm => some []
  | .l (.mp id) => match M id with
    | some (.map es) => some es
    | _ => none
  | _ => none

def lookupA (P : Program) (M : Mem) (t : TypeId) (m key : AV) (ok : Bool) : Option AV :=
  match tiOf P t, entsA M m, key with
  | some ti, some es, .l k => match ti.d with
    | .map K E => match tiOf P K, tiOf P E with
      | some tk, some te => if keyT tk.d k = true then (match findA k es 0, te.zero with
        | some (some (_, v)), _ => some (if ok then .tup [.l v, .l (.bool true)] else .l v)
        | some none, .l z => some (if ok then .tup [.l z, .l (.bool false)] else .l z)
        | _, _ => none) else none
      | _, _ => none
    | _ => none
  | _, _, _ => none

theorem run_checkKey {P : Program} {w : World} {K : TypeId} {d : TypeDesc} (hd : P.underlying K = some d) {k : Lf} (hk : keyT (tdOf d) k = true) (b : Bool) (n : Nat) (v : Value) : (Instr.checkKey b (n + 1) K v).run P w = .ok () w := by
  cases d <;> cases k <;> simp [tdOf, keyT] at hk <;> (cases v <;> simp [Instr.checkKey, run_underlying hd])

theorem run_findKey {P : Program} {g : Gh} {w : World} {K : TypeId} {d : TypeDesc} (hd : P.underlying K = some d) {ck : Value} {ents : List MapEntry} {r : Option (Nat × Value)} (h : Instr.findNow d ck ents 0 = some r) : (Instr.findKey K ck ents).run P w = .ok r w := by
  simp [Instr.findKey, run_underlying hd, h]

theorem ents_spec {P : Program} {g : Gh} {M : Mem} {w : World} (hR : Rel g M w) {m : AV} {cm : Value} {es : List (Lf × Lf)} (hm : ConcA g w m cm) (h : entsA M m = some es) :
    ∃ ents : Array MapEntry, ((cm = .map none ∧ ents = #[]) ∨ ∃ b clock, cm = .map (some b) ∧ (getObj b).run P w = .ok (.map ents clock) w) ∧ es.length = ents.toList.length ∧
      ∀ (j : Nat) (p : Lf × Lf) (e : MapEntry), es[j]? = some p → ents.toList[j]? = some e → Conc g w p.1 e.key ∧ Conc g w p.2 e.val := by
  unfold entsA at h
  split at h
  · simp only [Option.some.injEq] at h
    subst h
    cases hm with
    | l hm => cases hm; exact ⟨#[], .inl ⟨rfl, rfl⟩, rfl, fun j p e hp => by simp at hp⟩
  · rename_i id
    split at h
    · rename_i es' hM
      simp only [Option.some.injEq] at h
      subst h
      cases hm with
      | l hm =>
        cases hm with
        | mp hx =>
          rename_i b sz cr
          obtain ⟨b', sz', cr', ents, clock, g1, g2, g3, g4, g5⟩ := hR.blk id _ hM
          rw [hx, Option.some.injEq, Prod.mk.injEq, Prod.mk.injEq] at g1
          obtain ⟨rfl, rfl, rfl⟩ := g1
          have hg : (getObj b).run P w = .ok (.map ents clock) w := by simp [getObj, Sem.run, g3]
          exact ⟨ents, .inr ⟨b, clock, rfl, hg⟩, by simp [g4], fun j p e hp he => g5 j p e hp (by simpa using he)⟩
    · cases h
  · cases h

theorem run_lookupA {P : Program} {g : Gh} {M : Mem} {w : World} (hR : Rel g M w) {t : TypeId} {m key v : AV} {cm ck : Value} {ok : Bool} (hm : ConcA g w m cm) (hkey : ConcA g w key ck) (h : lookupA P M t m key ok = some v) :
    ∃ c, (Instr.lookup t cm ck ok).run P w = .ok c w ∧ ConcA g w v c := by
  unfold lookupA at h
  split at h
  · rename_i ti es k hti hes
    obtain ⟨_, d, _, _, hd, _, _, _, _, _, hdd⟩ := ti_spec hti
    split at h
    · rename_i K E hKE
      rw [hdd] at hKE
      have := tdOf_map hKE
      subst this
      split at h
      · rename_i tk te htk hte
        obtain ⟨_, dk, _, _, hdk, _, _, _, _, _, hddk⟩ := ti_spec htk
        obtain ⟨infe, de, ze, hinfe, hde, hze, _, _, _, hzea, hdde⟩ := ti_spec hte
        split at h
        · rename_i hk
          rw [hddk] at hk
          obtain ⟨ents, hget, hlen, hents⟩ := ents_spec (P := P) hR hm hes
          cases hkey with
          | l hkey =>
            have hck : ∀ b, (Instr.checkKey b 10000 K ck).run P w = .ok () w := fun b => run_checkKey hdk hk b 9999 ck
            split at h
            · rename_i j v' z hf
              simp only [Option.some.injEq] at h
              subst h
              rcases findNow_of hkey hk es ents.toList 0 _ hlen hents hf with ⟨hr, _⟩ | ⟨j', v'', p, e, hr, h4, h5, h6, h7, h8⟩
              · cases hr
              · simp only [Option.some.injEq, Prod.mk.injEq] at hr
                obtain ⟨_, rfl⟩ := hr
                have hcv := (hents _ _ _ h4 h5).2
                rw [← h6] at hcv
                have hfk := run_findKey (P := P) (g := g) (w := w) hdk h7
                cases ok
                · exact ⟨e.val, by (rcases hget with ⟨rfl, rfl⟩ | ⟨bb, clock, rfl, hg⟩); (· simp at h5); (· simp [Instr.lookup, run_underlying hd, hg, hck, hfk]), .l hcv⟩
                · refine ⟨.tuple #[e.val, .bool true], by (rcases hget with ⟨rfl, rfl⟩ | ⟨bb, clock, rfl, hg⟩); (· simp at h5); (· simp [Instr.lookup, run_underlying hd, hg, hck, hfk]), ?_⟩
                  exact .tup [e.val, .bool true] rfl (fun i x v hx hv => by
                    match i with
                    | 0 => simp at hx hv; subst hx; subst hv; exact .l hcv
                    | 1 => simp at hx hv; subst hx; subst hv; exact .l (.bool _)
                    | (n + 2) => simp at hx)
            · rename_i z hf hz
              simp only [Option.some.injEq] at h
              subst h
              have hcz := conc_absV g w ze
              rw [← hzea, hz] at hcz
              rcases findNow_of hkey hk es ents.toList 0 _ hlen hents hf with ⟨hr, h7⟩ | ⟨j', v'', p, e, hr, h4, h5, h6, h7, h8⟩
              · have hfk := run_findKey (P := P) (g := g) (w := w) hdk h7
                cases ok
                · exact ⟨ze, by (rcases hget with ⟨rfl, rfl⟩ | ⟨bb, clock, rfl, hg⟩); (· have hfk2 : (Instr.findKey K ck []).run P w = .ok none w := hfk; simp [Instr.lookup, run_underlying hd, hck, hfk2, run_zeroValue' hinfe hze]); (· simp [Instr.lookup, run_underlying hd, hg, hck, hfk, run_zeroValue' hinfe hze]), hcz⟩
                · refine ⟨.tuple #[ze, .bool false], by (rcases hget with ⟨rfl, rfl⟩ | ⟨bb, clock, rfl, hg⟩); (· have hfk2 : (Instr.findKey K ck []).run P w = .ok none w := hfk; simp [Instr.lookup, run_underlying hd, hck, hfk2, run_zeroValue' hinfe hze]); (· simp [Instr.lookup, run_underlying hd, hg, hck, hfk, run_zeroValue' hinfe hze]), ?_⟩
                  exact .tup [ze, .bool false] rfl (fun i x v hx hv => by
                    match i with
                    | 0 => simp at hx hv; subst hx; subst hv; exact hcz
                    | 1 => simp at hx hv; subst hx; subst hv; exact .l (.bool _)
                    | (n + 2) => simp at hx)
              · cases hr
            · cases h
        · cases h
      · cases h
    · cases h
  · cases h

def mapUpdA (P : Program) (M : Mem) (t : TypeId) (m key v : AV) : Option Mem :=
  match tiOf P t, m, key, v with
  | some ti, .l (.mp id), .l k, .l x => match ti.d, M id with
    | .map K _, some (.map es) => match tiOf P K with
      | some tk => if keyT tk.d k = true then (match findA k es 0 with
        | some (some (i, _)) => some (M.set id (.map (es.set i (k, x))))
        | some none => some (M.set id (.map (es ++ [(k, x)])))
        | none => none) else none
      | none => none
    | _, _ => none
  | _, _, _, _ => none

theorem rel_map {g : Gh} {M : Mem} {w : World} (hR : Rel g M w) {id b sz cr : Nat} {es es' : List (Lf × Lf)} (hM : M id = some (.map es)) (hx : g.blk id = some (b, sz, cr)) {ents' : Array MapEntry} {clock' : Nat}
    (hl : ents'.size = es'.length) (hc : ∀ (i : Nat) (p : Lf × Lf) (e : MapEntry), es'[i]? = some p → ents'[i]? = some e → Conc g w p.1 e.key ∧ Conc g w p.2 e.val) :
    Ev g w g { w with heap := w.heap.setIfInBounds b (.map ents' clock') } ∧ Rel g (M.set id (.map es')) { w with heap := w.heap.setIfInBounds b (.map ents' clock') } := by
  obtain ⟨b', sz', cr', ents, clock, g1, g2, g3, g4, g5⟩ := hR.blk id _ hM
  rw [hx, Option.some.injEq, Prod.mk.injEq, Prod.mk.injEq] at g1
  obtain ⟨rfl, rfl, rfl⟩ := g1
  have hlt : b < w.heap.size := (Array.getElem?_eq_some_iff.1 g3).1
  have hnf : ∀ o', ¬ g.fz b o' := fun o' hf => by
    obtain ⟨v, hv⟩ := hR.fz b o' hf
    simp [World.cell?, g3] at hv
  exact rel_wrote hR hM hx (Wrote.setObj hlt (.map ents' clock')) (fun o' hf => absurd hf (hnf o'))
    fun g' w' e h1 h2 h3 h4 => ⟨b, sz, cr, ents', clock', h1, h2, h3, hl, fun i p en hp he => ⟨(hc i p en hp he).1.ev e, (hc i p en hp he).2.ev e⟩⟩

theorem run_mapUpdA {P : Program} {g : Gh} {M M' : Mem} {w : World} (hR : Rel g M w) {t : TypeId} {m key v : AV} {cm ck cv : Value} (hm : ConcA g w m cm) (hkey : ConcA g w key ck) (hv : ConcA g w v cv) (h : mapUpdA P M t m key v = some M') :
    ∃ w', (Instr.mapUpdate t cm ck cv).run P w = .ok () w' ∧ Ev g w g w' ∧ Rel g M' w' := by
  unfold mapUpdA at h
  split at h
  · rename_i ti id k x hti
    obtain ⟨_, d, _, _, hd, _, _, _, _, _, hdd⟩ := ti_spec hti
    split at h
    · rename_i K E es hKE hM
      rw [hdd] at hKE
      have := tdOf_map hKE
      subst this
      split at h
      · rename_i tk htk
        obtain ⟨_, dk, _, _, hdk, _, _, _, _, _, hddk⟩ := ti_spec htk
        split at h
        · rename_i hk
          rw [hddk] at hk
          cases hm with
          | l hm =>
            cases hm with
            | mp hx =>
              rename_i b sz cr
              obtain ⟨b', sz', cr', ents, clock, g1, g2, g3, g4, g5⟩ := hR.blk id _ hM
              rw [hx, Option.some.injEq, Prod.mk.injEq, Prod.mk.injEq] at g1
              obtain ⟨rfl, rfl, rfl⟩ := g1
              have hlt : b < w.heap.size := (Array.getElem?_eq_some_iff.1 g3).1
              have hg : (getObj b).run P w = .ok (.map ents clock) w := by simp [getObj, Sem.run, g3]
              have hset : ∀ o : Obj, (setObj b o).run P w = .ok () { w with heap := w.heap.setIfInBounds b o } := fun o => by simp [setObj, Sem.run, g3]
              cases hkey with
              | l hkey =>
                cases hv with
                | l hv =>
                  have hck : ∀ bb, (Instr.checkKey bb 10000 K ck).run P w = .ok () w := fun bb => run_checkKey hdk hk bb 9999 ck
                  have hents : ∀ (j : Nat) (p : Lf × Lf) (e : MapEntry), es[j]? = some p → ents.toList[j]? = some e → Conc g w p.1 e.key ∧ Conc g w p.2 e.val := fun j p e hp he => g5 j p e hp (by simpa using he)
                  split at h
                  · rename_i j v' hf
                    simp only [Option.some.injEq] at h
                    subst h
                    rcases findNow_of hkey hk es ents.toList 0 _ (by simp [g4]) hents hf with ⟨hr, _⟩ | ⟨j', v'', p, e, hr, h4, h5, h6, h7, h8⟩
                    · cases hr
                    · simp only [Option.some.injEq, Prod.mk.injEq, Nat.zero_add] at hr h7
                      obtain ⟨rfl, _⟩ := hr
                      have hfk := run_findKey (P := P) (g := g) (w := w) hdk h7
                      have hej : ents[j]? = some e := by simpa using h5
                      obtain ⟨ev, rel⟩ := rel_map hR hM hx (ents' := ents.modify j fun e => { e with key := ck, val := cv }) (clock' := clock) (es' := es.set j (k, x)) (by simp [g4]) (fun i q en hq hen => by
                        rw [Array.getElem?_modify] at hen
                        by_cases hij : j = i
                        · subst hij
                          rw [if_pos rfl, hej] at hen
                          simp only [Option.map_some, Option.some.injEq] at hen
                          have hjl := (List.getElem?_eq_some_iff.1 h4).1
                          rw [List.getElem?_set_self hjl, Option.some.injEq] at hq
                          subst hq; subst hen
                          exact ⟨hkey, hv⟩
                        · rw [if_neg hij] at hen
                          rw [List.getElem?_set_ne hij] at hq
                          exact g5 i q en hq hen)
                      refine ⟨_, ?_, ev, rel⟩
                      have hkts : (Instr.keyThatStays e.key ck).run P w = .ok ck w := by simp [Instr.keyThatStays, h8]
                      simp [Instr.mapUpdate, run_underlying hd, hg, hck, hfk, hej, hkts, hset]
                  · rename_i hf
                    simp only [Option.some.injEq] at h
                    subst h
                    rcases findNow_of hkey hk es ents.toList 0 _ (by simp [g4]) hents hf with ⟨_, h7⟩ | ⟨j', v'', p, e, hr, h4, h5, h6, h7, h8⟩
                    · have hfk := run_findKey (P := P) (g := g) (w := w) hdk h7
                      obtain ⟨ev, rel⟩ := rel_map hR hM hx (ents' := ents.push { key := ck, val := cv, born := clock }) (clock' := clock + 1) (es' := es ++ [(k, x)]) (by simp [g4]) (fun i q en hq hen => by
                        rw [Array.getElem?_push] at hen
                        by_cases hie : i = ents.size
                        · rw [if_pos hie, Option.some.injEq] at hen
                          rw [List.getElem?_append_right (by omega), hie, g4, Nat.sub_self] at hq
                          simp only [List.getElem?_cons_zero, Option.some.injEq] at hq
                          subst hq; subst hen
                          exact ⟨hkey, hv⟩
                        · rw [if_neg hie] at hen
                          have hil := (Array.getElem?_eq_some_iff.1 hen).1
                          rw [List.getElem?_append_left (by omega)] at hq
                          exact g5 i q en hq hen)
                      refine ⟨_, ?_, ev, rel⟩
                      simp [Instr.mapUpdate, run_underlying hd, hg, hck, hfk, hset]
                    · cases hr
                  · cases h
        · cases h
      · cases h
    · cases h
  · cases h

def mapDelA (P : Program) (M : Mem) (t : TypeId) (m key : AV) : Option Mem :=
  match tiOf P t, m, key with
  | some ti, .l (.mp id), .l k => match ti.d, M id with
    | .map K _, some (.map es) => match tiOf P K with
      | some tk => if keyT tk.d k = true then (match findA k es 0 with
        | some (some (i, _)) => some (M.set id (.map (es.eraseIdx i)))
        | some none => some (M.set id (.map es))
        | none => none) else none
      | none => none
    | _, _ => none
  | _, _, _ => none

theorem run_mapDelA {P : Program} {g : Gh} {M M' : Mem} {w : World} (hR : Rel g M w) {t t' ty : TypeId} {m key : AV} {cm ck : Value} (hm : ConcA g w m cm) (hkey : ConcA g w key ck) (h : mapDelA P M t m key = some M') :
    ∃ c w', (Builtin.delete_ #[t, t'] ty #[cm, ck]).run P w = .ok c w' ∧ Ev g w g w' ∧ Rel g M' w' := by
  unfold mapDelA at h
  split at h
  · rename_i ti id k hti
    obtain ⟨_, d, _, _, hd, _, _, _, _, _, hdd⟩ := ti_spec hti
    split at h
    · rename_i K E es hKE hM
      rw [hdd] at hKE
      have := tdOf_map hKE
      subst this
      split at h
      · rename_i tk htk
        obtain ⟨_, dk, _, _, hdk, _, _, _, _, _, hddk⟩ := ti_spec htk
        split at h
        · rename_i hk
          rw [hddk] at hk
          cases hm with
          | l hm =>
            cases hm with
            | mp hx =>
              rename_i b sz cr
              obtain ⟨b', sz', cr', ents, clock, g1, g2, g3, g4, g5⟩ := hR.blk id _ hM
              rw [hx, Option.some.injEq, Prod.mk.injEq, Prod.mk.injEq] at g1
              obtain ⟨rfl, rfl, rfl⟩ := g1
              have hg : (getObj b).run P w = .ok (.map ents clock) w := by simp [getObj, Sem.run, g3]
              have hset : ∀ o : Obj, (setObj b o).run P w = .ok () { w with heap := w.heap.setIfInBounds b o } := fun o => by simp [setObj, Sem.run, g3]
              cases hkey with
              | l hkey =>
                have hck : ∀ bb, (Instr.checkKey bb 10000 K ck).run P w = .ok () w := fun bb => run_checkKey hdk hk bb 9999 ck
                have hents : ∀ (j : Nat) (p : Lf × Lf) (e : MapEntry), es[j]? = some p → ents.toList[j]? = some e → Conc g w p.1 e.key ∧ Conc g w p.2 e.val := fun j p e hp he => g5 j p e hp (by simpa using he)
                split at h
                · rename_i j v' hf
                  simp only [Option.some.injEq] at h
                  subst h
                  rcases findNow_of hkey hk es ents.toList 0 _ (by simp [g4]) hents hf with ⟨hr, _⟩ | ⟨j', v'', p, e, hr, h4, h5, h6, h7, h8⟩
                  · cases hr
                  · simp only [Option.some.injEq, Prod.mk.injEq, Nat.zero_add] at hr h7
                    obtain ⟨rfl, _⟩ := hr
                    have hfk := run_findKey (P := P) (g := g) (w := w) hdk h7
                    have hjl := (List.getElem?_eq_some_iff.1 h4).1
                    have hjs : j < ents.size := by omega
                    obtain ⟨ev, rel⟩ := rel_map hR hM hx (ents' := ents.eraseIdxIfInBounds j) (clock' := clock) (es' := es.eraseIdx j) (by rw [Array.eraseIdxIfInBounds, dif_pos hjs, List.length_eraseIdx, if_pos hjl, Array.size_eraseIdx, g4]) (fun i q en hq hen => by
                      have hen' : (ents.toList.eraseIdx j)[i]? = some en := by
                        rw [Array.eraseIdxIfInBounds, dif_pos hjs] at hen
                        rw [← Array.toList_eraseIdx]
                        simpa using hen
                      rw [List.getElem?_eraseIdx] at hq hen'
                      split at hq
                      · rename_i hij
                        rw [if_pos hij] at hen'
                        exact hents i q en hq hen'
                      · rename_i hij
                        rw [if_neg hij] at hen'
                        exact hents (i + 1) q en hq hen')
                    refine ⟨.tuple #[], _, ?_, ev, rel⟩
                    simp [Builtin.delete_, run_underlying hd, hg, hck, hfk, hset]
                · rename_i hf
                  simp only [Option.some.injEq] at h
                  subst h
                  rcases findNow_of hkey hk es ents.toList 0 _ (by simp [g4]) hents hf with ⟨_, h7⟩ | ⟨j', v'', p, e, hr, h4, h5, h6, h7, h8⟩
                  · have hfk := run_findKey (P := P) (g := g) (w := w) hdk h7
                    obtain ⟨ev, rel⟩ := rel_map hR hM hx (ents' := ents) (clock' := clock) (es' := es) g4 g5
                    refine ⟨.tuple #[], _, ?_, ev, rel⟩
                    simp [Builtin.delete_, run_underlying hd, hg, hck, hfk, hset]
                  · cases hr
                · cases h
        · cases h
      · cases h
    · cases h
  · cases h

end Go.X
