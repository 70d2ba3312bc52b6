/- The program logic: calls, code; what 'vc' says holds of the machine. -/
import Derived.Test.YthgppaccdlcaiaaXi
import Derived.Orders
set_option linter.unusedVariables false
set_option linter.unusedSimpArgs false
set_option linter.unusedSectionVars false
namespace Go.X
open Go.RowKit

/-! ### calls -/
def ArgsR (g : Gh) (w : World) (args : List AV) (vs : Array Value) : Prop := args.length = vs.size ∧ ∀ (i : Nat) (x : AV) (v : Value), args[i]? = some x → vs[i]? = some v → ConcA g w x v

def CallsX (P : Program) (f : FuncId) (vs : Array Value) (g : Gh) (w : World) (K : AV → Mem → Prop) : Prop :=
  Calls P f vs w fun e w' => ∃ rv v g' M', e = .returned rv ∧ K v M' ∧ Ev g w g' w' ∧ ConcA g' w' v rv ∧ Rel g' M' w'

def bodyOk (P : Program) (f : FuncId) : Bool := match P.funcs[f]? with | some fn => fn.body.isSome && fn.name != "runtime.NumGoroutine" | none => false

def XCalls (P : Program) (f : FuncId) (args : List AV) (M : Mem) (K : AV → Mem → Prop) : Prop :=
  bodyOk P f = true ∧ ∀ g w vs, g.P = P → ArgsR g w args vs → Rel g M w → CallsX P f vs g w K

theorem XCalls.mono {P : Program} {f : FuncId} {args : List AV} {M : Mem} {K K' : AV → Mem → Prop} (h : XCalls P f args M K) (hk : ∀ v M', K v M' → K' v M') : XCalls P f args M K' :=
  ⟨h.1, fun g w vs hP ha hR => (h.2 g w vs hP ha hR).mono fun e w' ⟨rv, v, g', M', h1, h2, h3⟩ => ⟨rv, v, g', M', h1, hk _ _ h2, h3⟩⟩
theorem XCalls.le {P : Program} {f : FuncId} {args : List AV} {M M' : Mem} {K : AV → Mem → Prop} (h : XCalls P f args M K) (hle : M.le M') : XCalls P f args M' K :=
  ⟨h.1, fun g w vs hP ha hR => h.2 g w vs hP ha (hR.le hle)⟩
theorem XCalls_congr {P : Program} {f f' : FuncId} {args args' : List AV} {M M' : Mem} {K : AV → Mem → Prop} (hf : f = f') (ha : args = args') (hM : M = M') : XCalls P f args M K = XCalls P f' args' M' K := by subst hf; subst ha; subst hM; rfl

/-! ### an operation -/
def OpX (P : Program) (s : Sem Next) (g : Gh) (w : World) (K : AV → Mem → Prop) : Prop :=
  (∃ c w' g' v M', (s.run P w = .ok (.value c) w' ∨ (s.run P w = .ok .skip w' ∧ c = undef)) ∧ K v M' ∧ Ev g w g' w' ∧ ConcA g' w' v c ∧ Rel g' M' w') ∨
  (∃ f vs, s.run P w = .ok (.enter f vs) w ∧ CallsX P f vs g w K)

theorem opx_wp {P : Program} {o : Oper} {a : Act} {g : Gh} {w : World} {K : AV → Mem → Prop} {Kc : Act → World → Prop} {Qc : Exit → Act → World → Prop} (h : OpX P (execOp a.eval o) g w K)
    (hk : ∀ v c g' M' w', K v M' → Ev g w g' w' → ConcA g' w' v c → Rel g' M' w' → Kc (a.put o.dst c) w') : o.wp P a w Kc Qc := by
  unfold Oper.wp
  rcases h with ⟨c, w', g', v, M', hrun, h1, h2, h3, h4⟩ | ⟨f, vs, hrun, hc⟩
  · rcases hrun with hrun | ⟨hrun, rfl⟩
    · rw [hrun]
      exact hk v c g' M' w' h1 h2 h3 h4
    · rw [hrun]
      exact hk v undef g' M' w' h1 h2 h3 h4
  · rw [hrun]
    refine hc.mono fun e w' ⟨rv, v, g', M', he, h1, h2, h3, h4⟩ => ?_
    subst he
    exact hk v rv g' M' w' h1 h2 h3 h4

/-! ### frames -/
structure FrR (g : Gh) (w : World) (n : Nat) (fr : Fr) (a : Act) : Prop where
  defers : a.defers = []
  size : a.tmps.size = n
  get : ∀ i, i < n → ConcA g w (fr i) (a.tmps.getD i undef)

def opndOk (n : Nat) : Operand → Bool
  | .tmp t => decide (t < n)
  | _ => true
def operOk (n : Nat) (o : Oper) : Bool := o.op.operands.toList.all (opndOk n) && (match o.dst with | some d => decide (d < n) | none => true)

theorem FrR.eval {g : Gh} {w : World} {n : Nat} {fr : Fr} {a : Act} (h : FrR g w n fr a) {x : Operand} (hx : opndOk n x = true) : ConcA g w (ev fr x) (a.eval x) := by
  cases x with
  | tmp t => exact h.get t (by simpa [opndOk] using hx)
  | const v => exact conc_absV g w v
  | global _ => exact .any _
  | func f => exact .l (.clo [] rfl (fun i x v hx => by simp at hx))

theorem FrR.ev {g g' : Gh} {w w' : World} {n : Nat} {fr : Fr} {a : Act} (h : FrR g w n fr a) (e : Ev g w g' w') : FrR g' w' n fr a := ⟨h.defers, h.size, fun i hi => (h.get i hi).ev e⟩

theorem FrR.put {g : Gh} {w : World} {n : Nat} {fr : Fr} {a : Act} (h : FrR g w n fr a) {d : Option Nat} {v : AV} {c : Value} (hc : ConcA g w v c) : FrR g w n (updO fr d v) (a.put d c) := by
  cases d with
  | none => exact h
  | some d =>
    refine ⟨h.defers, by simp [Act.put, h.size], fun i hi => ?_⟩
    simp only [updO, upd, Act.put]
    split
    · rename_i hd
      subst hd
      have : d < a.tmps.size := by rw [h.size]; exact hi
      simp [this]
      exact hc
    · rename_i hd
      have := h.get i hi
      simpa [Array.getElem?_setIfInBounds, hd] using this

/-! ### the operations' rule -/
def pickA (t : Bool) (x y : AV) : AV := if t then x else y
def pickK (c x y : AV) (K : AV → Prop) : Prop := match c with | .l (.bool t) => K (pickA t x y) | _ => False
def nilChk : AV → Option AV
  | .l (.ptr id r c) => some (.l (.ptr id r c))
  | .l (.rp cs) => some (.l (.rp cs))
  | .l (.clo f cs) => some (.l (.clo f cs))
  | _ => none
def capsA : List AV → Option (List Lf)
  | [] => some []
  | .l x :: r => (capsA r).map (x :: ·)
  | _ :: _ => none
def extractA : AV → Nat → Option AV
  | .tup vs, i => vs[i]?
  | _, _ => none
def fieldA (P : Program) (t : TypeId) (x : AV) (f : Nat) : Option AV :=
  match tiOf P t, x with
  | some i, .agg cs => match i.d with
    | .struct fs => match fs[f]? with
      | some (off, ft) => match tiOf P ft with
        | some j => packV j.agg j.size (cs.drop off)
        | none => none
      | none => none
    | _ => none
  | _, _ => none
def indexA (P : Program) (t : TypeId) (x i : AV) : Option AV :=
  match tiOf P t, x, i with
  | some ti, .l (.str s), .l (.int _ n) => match ti.d with
    | .string => if 0 ≤ n then (match s.data[n.toNat]? with | some b => some (.l (.int .u8 b.toNat)) | none => none) else none
    | _ => none
  | some ti, .agg cs, .l (.int _ n) => match ti.d with
    | .array len e => match tiOf P e with
      | some te => if 0 ≤ n ∧ n < len then packV te.agg te.size (cs.drop (n.toNat * te.size)) else none
      | none => none
    | _ => none
  | _, _, _ => none

def builtG (N : (Nat → Prop) → Prop) (P : Program) (b : Builtin) (ts : List TypeId) (xs : List AV) (M : Mem) (K : AV → Mem → Prop) : Prop :=
  match b, ts, xs with
  | .len, [t], [x] => optK (lenA P M t x) fun v => K v M
  | .append, [t, tx], [s, x] => appendA N P M t tx s x K
  | .clear, [t], [x] => optK (clearA P M t x) fun M' => K .any M'
  | .cap, [t], [.l .nils] => (match tiOf P t with | some i => (match i.d with | .slice _ => K (.l (.int .i64 0)) M | _ => False) | none => False)
  | .delete, t :: _, [m, k] => optK (mapDelA P M t m k) fun M' => K .any M'
  | .min, [_, _], [.l (.int k x), .l (.int _ y)] => K (.l (.int k (if y < x then y else x))) M
  | .max, [_, _], [.l (.int k x), .l (.int _ y)] => K (.l (.int k (if y > x then y else x))) M
  | _, _, _ => False

def dynK (P : Program) (t : AV) (args : List AV) (M : Mem) (K : AV → Mem → Prop) : Prop := match t with | .l (.clo f cs) => XCalls P f (args ++ cs.map .l) M K | _ => False
theorem dynK_congr {P : Program} {t t' : AV} {args args' : List AV} {M M' : Mem} {K : AV → Mem → Prop} (h : t = t') (h' : args = args') (h'' : M = M') : dynK P t args M K = dynK P t' args' M' K := by rw [h, h', h'']

def callG (N : (Nat → Prop) → Prop) (P : Program) (c : Call) (fr : Fr) (M : Mem) (K : AV → Mem → Prop) : Prop :=
  match c.callee with
  | .value (.func f) => XCalls P f (c.args.toList.map (ev fr)) M K
  | .value (.tmp t) => dynK P (fr t) (c.args.toList.map (ev fr)) M K
  | .builtin b => builtG N P b c.argTypes.toList (c.args.toList.map (ev fr)) M K
  | _ => False

def vopcG (N : (Nat → Prop) → Prop) (P : Program) (op : Op) (fr : Fr) (M : Mem) (K : AV → Mem → Prop) : Prop :=
  match op with
  | .move x => K (ev fr x) M
  | .assign x => K (ev fr x) M
  | .pick c a b => pickK (ev fr c) (ev fr a) (ev fr b) fun v => K v M
  | .alloc T => optK (tiOf P T) fun i => optK (avCells i.zero) fun cs => cs.length = i.size ∧ N fun id => K (.l (.ptr id 0 0)) (M.set id (.cells T [cs] 0))
  | .box T x => optK (tiOf P T) fun i => optK (avCells (ev fr x)) fun cs => cs.length = i.size ∧ N fun id => K (.l (.ptr id 0 0)) (M.set id (.cells T [cs] 0))
  | .build t parts => optK (buildA P t (parts.toList.map fun p => (p.1, ev fr p.2))) fun v => K v M
  | .buildSlice t len parts => optK (buildSliceA P t len (parts.toList.map fun p => (p.1, ev fr p.2))) fun r => N fun id => K (.l (.ms id 0 len)) (M.set id (.cells r.1 r.2 0))
  | .load t x => optK (loadA P M t (ev fr x)) fun v => K v M
  | .store t x v => optK (storeA P M t (ev fr x) (ev fr v)) fun M' => K .any M'
  | .nilCheck x => optK (nilChk (ev fr x)) fun v => K v M
  | .binOp op t x y _ => binK P op t x y (ev fr x) (ev fr y) fun v => K v M
  | .unOp op _ x => optK (unA op (ev fr x)) fun v => K v M
  | .convert s d x => optK (convA P s d (ev fr x)) fun v => K v M
  | .makeFunc fn first caps => (match fn with | .func f => first.size = 0 ∧ optK (capsA (caps.toList.map (ev fr))) fun cs => K (.l (.clo f cs)) M | _ => False)
  | .makeSlice t l c => optK (makeSliceA P t (ev fr l) (ev fr c)) fun r => N fun id => K (.l (.ms id 0 r.2.length)) (M.set id (.cells r.1 r.2 0))
  | .makeMap _ r => (match r with | none => N fun id => K (.l (.mp id)) (M.set id (.map [])) | some _ => False)
  | .slice t x lo hi mx => optK (sliceA P M t (ev fr x) (lo.map (ev fr)) (hi.map (ev fr)) (mx.map (ev fr))) fun v => K v M
  | .fieldAddr s x f => optK (fieldAddrA P s (ev fr x) f) fun v => K v M
  | .field t x f => optK (fieldA P t (ev fr x) f) fun v => K v M
  | .indexAddr t x i => optK (indexAddrA P M t (ev fr x) (ev fr i)) fun v => K v M
  | .index t x i => optK (indexA P t (ev fr x) (ev fr i)) fun v => K v M
  | .lookup t m k ok => optK (lookupA P M t (ev fr m) (ev fr k) ok) fun v => K v M
  | .mapUpdate t m k v => optK (mapUpdA P M t (ev fr m) (ev fr k) (ev fr v)) fun M' => K .any M'
  | .extract x i => optK (extractA (ev fr x) i) fun v => K v M
  | .call c => callG N P c fr M K
  | _ => False
def builtK (P : Program) (b : Builtin) (ts : List TypeId) (xs : List AV) (M : Mem) (K : AV → Mem → Prop) : Prop := builtG (newK M) P b ts xs M K
def callK (P : Program) (c : Call) (fr : Fr) (M : Mem) (K : AV → Mem → Prop) : Prop := callG (newK M) P c fr M K
def vopc (P : Program) (op : Op) (fr : Fr) (M : Mem) (K : AV → Mem → Prop) : Prop := vopcG (newK M) P op fr M K


theorem optK_elim {α : Type} {o : Option α} {K : α → Prop} (h : optK o K) : ∃ a, o = some a ∧ K a := by
  cases o with
  | none => exact h.elim
  | some a => exact ⟨a, rfl, h⟩

theorem OpX.val {P : Program} {s : Sem Value} {g : Gh} {w : World} {K : AV → Mem → Prop} {c : Value} {w' : World} {g' : Gh} {v : AV} {M' : Mem} (hr : s.run P w = .ok c w') (hk : K v M') (e : Ev g w g' w') (hc : ConcA g' w' v c) (hR : Rel g' M' w') :
    OpX P (do pure (.value (← s))) g w K := .inl ⟨c, w', g', v, M', .inl (by simp [hr]), hk, e, hc, hR⟩
theorem OpX.unit {P : Program} {s : Sem Unit} {g : Gh} {w : World} {K : AV → Mem → Prop} {w' : World} {g' : Gh} {v : AV} {M' : Mem} (hr : s.run P w = .ok () w') (hk : K v M') (e : Ev g w g' w') (hc : ConcA g' w' v undef) (hR : Rel g' M' w') :
    OpX P (do s; pure .skip) g w K := .inl ⟨undef, w', g', v, M', .inr ⟨by simp [hr], rfl⟩, hk, e, hc, hR⟩

theorem map_get {fr : Fr} {l : List Operand} {i : Nat} {x : AV} (h : (l.map (ev fr))[i]? = some x) : ∃ o, l[i]? = some o ∧ x = ev fr o := by
  rw [List.getElem?_map] at h
  cases ho : l[i]? with
  | none => rw [ho] at h; cases h
  | some o => rw [ho] at h; simp only [Option.map_some, Option.some.injEq] at h; exact ⟨o, rfl, h.symm⟩

theorem args_eval {g : Gh} {w : World} {n : Nat} {fr : Fr} {a : Act} (h : FrR g w n fr a) (xs : Array Operand) (hx : xs.toList.all (opndOk n) = true) : ArgsR g w (xs.toList.map (ev fr)) (xs.map a.eval) := by
  refine ⟨by simp, fun i x v hi hv => ?_⟩
  obtain ⟨o, ho, rfl⟩ := map_get hi
  have hv' : v = a.eval o := by
    have ho' : xs[i]? = some o := by simpa using ho
    rw [Array.getElem?_map, ho'] at hv
    simpa using hv.symm
  subst hv'
  exact h.eval (List.all_eq_true.1 hx o (List.mem_of_getElem? ho))

theorem capsA_spec {g : Gh} {w : World} {n : Nat} {fr : Fr} {a : Act} (h : FrR g w n fr a) : ∀ (xs : List Operand) (cs : List Lf), xs.all (opndOk n) = true → capsA (xs.map (ev fr)) = some cs → cs.length = (xs.map a.eval).length ∧
    ∀ (i : Nat) (x : Lf) (v : Value), cs[i]? = some x → (xs.map a.eval)[i]? = some v → Conc g w x v
  | [], cs, _, hc => by simp [capsA] at hc; subst hc; exact ⟨rfl, fun i x v hx => by simp at hx⟩
  | o :: xs, cs, hok, hc => by
    simp only [List.all_cons, Bool.and_eq_true] at hok
    simp only [List.map_cons] at hc
    have he := h.eval hok.1
    generalize hev : ev fr o = eo at hc he
    cases eo with
    | l x =>
      simp only [capsA] at hc
      cases hr : capsA (xs.map (ev fr)) with
      | none => rw [hr] at hc; cases hc
      | some r =>
        rw [hr] at hc
        simp only [Option.map_some, Option.some.injEq] at hc
        subst hc
        obtain ⟨h1, h2⟩ := capsA_spec h xs r hok.2 hr
        refine ⟨by simp [h1], fun i y v hy hv => ?_⟩
        cases i with
        | zero =>
          simp only [List.getElem?_cons_zero, Option.some.injEq, List.map_cons] at hy hv
          subst hy; subst hv
          cases he with | l he => exact he
        | succ i => exact h2 i y v (by simpa using hy) (by simpa using hv)
    | agg _ => simp [capsA] at hc
    | tup _ => simp [capsA] at hc
    | any => simp [capsA] at hc

theorem run_callFunc {P : Program} {f : FuncId} {w : World} (h : bodyOk P f = true) (vs : Array Value) : (callFunc f vs).run P w = .ok (.enter f vs) w := by
  unfold bodyOk at h
  split at h
  · rename_i fn hfn
    simp only [Bool.and_eq_true, bne_iff_ne, ne_eq] at h
    obtain ⟨h1, h2⟩ := h
    have h3 : fn.body.isNone = false := by
      cases hb : fn.body with
      | none => rw [hb] at h1; cases h1
      | some _ => rfl
    have h4 : fn.body ≠ none := by intro hn; rw [hn] at h3; cases h3
    simp [callFunc, hfn, h2, h4]
  · cases h

theorem len1 {α : Type} {l : List α} (h : 1 = l.length) : ∃ a, l = [a] := List.length_eq_one_iff.1 h.symm
theorem len2 {α : Type} {l : List α} (h : 2 = l.length) : ∃ a b, l = [a, b] := by
  match l, h with
  | [a, b], _ => exact ⟨a, b, rfl⟩

theorem builtG_sound {P : Program} {g : Gh} {M : Mem} {w : World} (hP : g.P = P) (hR : Rel g M w) {N : (Nat → Prop) → Prop} (hN : ∀ F : Nat → Prop, N F → ∃ id, g.blk id = none ∧ M id = none ∧ ¬ g.res id ∧ F id) {b : Builtin} {ts : List TypeId} {ty : TypeId} {cs : Array Bool} {xs : List AV} {vs : List Value} {K : AV → Mem → Prop}
    (hl : xs.length = vs.length) (hx : ∀ (i : Nat) (x : AV) (v : Value), xs[i]? = some x → vs[i]? = some v → ConcA g w x v) (h : builtG N P b ts xs M K) : OpX P (builtin b ts.toArray ty cs vs.toArray) g w K := by
  unfold builtG at h
  split at h
  · obtain ⟨v, hv, hk⟩ := optK_elim h
    obtain ⟨c, rfl⟩ := len1 hl
    obtain ⟨c', hr, hcc⟩ := run_lenA (P := P) (ty := ty) hR (hx 0 _ c rfl rfl) hv
    exact OpX.val hr hk (Ev.refl _ _) hcc hR
  · obtain ⟨c1, c2, rfl⟩ := len2 hl
    obtain ⟨c', w', g', v, M', hr, hk, e, hcc, hR'⟩ := run_appendA (P := P) (ty := ty) hP hR (hx 0 _ c1 rfl rfl) (hx 1 _ c2 rfl rfl) hN h
    exact OpX.val hr hk e hcc hR'
  · obtain ⟨M', hv, hk⟩ := optK_elim h
    obtain ⟨c, rfl⟩ := len1 hl
    obtain ⟨c', w', hr, e, hR'⟩ := run_clearA (P := P) (ty := ty) hP hR (hx 0 _ c rfl rfl) hv
    exact OpX.val hr hk e (.any _) hR'
  · split at h
    · rename_i ti hti
      obtain ⟨_, d, _, _, hd, _, _, _, _, _, hdd⟩ := ti_spec hti
      split at h
      · rename_i e he
        rw [hdd] at he
        have := tdOf_slice he
        subst this
        obtain ⟨c, rfl⟩ := len1 hl
        have hcc := hx 0 _ c rfl rfl
        cases hcc with
        | l hcc =>
          cases hcc with
          | nils => exact OpX.val (c := .int .i64 0) (by simp [Builtin.cap_, run_underlying hd, goInt]) h (Ev.refl _ _) (.l (.int _ _)) hR
      · exact h.elim
    · exact h.elim
  · rename_i t rest m k
    obtain ⟨M', hv, hk⟩ := optK_elim h
    obtain ⟨c1, c2, rfl⟩ := len2 hl
    have key : ∃ c w', (Builtin.delete_ (t :: rest).toArray ty #[c1, c2]).run P w = .ok c w' ∧ Ev g w g w' ∧ Rel g M' w' := by
      obtain ⟨c', w', hr, e, hR'⟩ := run_mapDelA (P := P) (t' := t) (ty := ty) hR (hx 0 m c1 rfl rfl) (hx 1 k c2 rfl rfl) hv
      refine ⟨c', w', ?_, e, hR'⟩
      rw [← hr]
      simp [Builtin.delete_]
    obtain ⟨c', w', hr, e, hR'⟩ := key
    exact OpX.val hr hk e (.any _) hR'
  · obtain ⟨c1, c2, rfl⟩ := len2 hl
    have e1 := conc_int (hx 0 _ c1 rfl rfl)
    have e2 := conc_int (hx 1 _ c2 rfl rfl)
    subst e1; subst e2
    exact OpX.val (run_min_int2 w _ ty _ _ _ _) h (Ev.refl _ _) (.l (.int _ _)) hR
  · obtain ⟨c1, c2, rfl⟩ := len2 hl
    have e1 := conc_int (hx 0 _ c1 rfl rfl)
    have e2 := conc_int (hx 1 _ c2 rfl rfl)
    subst e1; subst e2
    exact OpX.val (run_max_int2 w _ ty _ _ _ _) h (Ev.refl _ _) (.l (.int _ _)) hR
  · exact h.elim

/-! ### an operation's rule is true -/
theorem callG_sound {P : Program} {g : Gh} {M : Mem} {w : World} (hP : g.P = P) (hR : Rel g M w) {N : (Nat → Prop) → Prop} (hN : ∀ F : Nat → Prop, N F → ∃ id, g.blk id = none ∧ M id = none ∧ ¬ g.res id ∧ F id) {n : Nat} {fr : Fr} {a : Act} (hF : FrR g w n fr a) {c : Call} {ty : TypeId} (hok : c.operands.toList.all (opndOk n) = true) {K : AV → Mem → Prop} (h : callG N P c fr M K) :
    OpX P (do let d ← resolve a.eval c ty; invoke d.target d.args) g w K := by
  have hargs : c.args.toList.all (opndOk n) = true := by
    refine List.all_eq_true.2 fun x hx => List.all_eq_true.1 hok x ?_
    simp only [Call.operands, Array.toList_append, List.mem_append]
    exact .inr hx
  have hA := args_eval hF c.args hargs
  unfold callG at h
  split at h
  · rename_i f hc
    refine .inr ⟨f, c.args.map a.eval, ?_, h.2 g w _ hP hA hR⟩
    simp [resolve, hc, Deferred.ofValue, Act.eval, invoke, run_callFunc h.1]
  · rename_i t hc
    unfold dynK at h
    split at h
    · rename_i f cs hfr
      have ht : opndOk n (.tmp t) = true := List.all_eq_true.1 hok _ (by simp [Call.operands, hc])
      have hv := hF.eval ht
      simp only [ev, hfr] at hv
      cases hv with
      | l hv =>
        generalize he : a.eval (.tmp t) = cv at hv
        cases hv with
        | clo vs hl hcc =>
          refine .inr ⟨f, c.args.map a.eval ++ vs.toArray, ?_, h.2 g w _ hP ⟨by simp [hA.1, hl], fun i x v hx hv => ?_⟩ hR⟩
          · simp [resolve, hc, Deferred.ofValue, he, invoke, run_callFunc h.1]
          · by_cases hi : i < c.args.size
            · rw [List.getElem?_append_left (by simpa using hi)] at hx
              rw [Array.getElem?_append_left (by simpa using hi)] at hv
              exact hA.2 i x v hx hv
            · rw [List.getElem?_append_right (by simpa using hi)] at hx
              rw [Array.getElem?_append_right (by simpa using hi)] at hv
              simp only [List.length_map, Array.length_toList, List.getElem?_map, Array.size_map, List.getElem?_toArray] at hx hv
              cases hx' : cs[i - c.args.size]? with
              | none => rw [hx'] at hx; cases hx
              | some y =>
                rw [hx'] at hx
                simp only [Option.map_some, Option.some.injEq] at hx
                subst hx
                exact .l (hcc _ y v hx' hv)
    · exact h.elim
  · rename_i b hc
    have := builtG_sound (cs := c.args.map fun | .const _ => true | _ => false) (ty := ty) hP hR hN (vs := (c.args.map a.eval).toList) (by simp) (fun i x v hx hv => hA.2 i x v hx (by simpa using hv)) h
    have e1 : (c.args.map a.eval).toList.toArray = c.args.map a.eval := Array.toArray_toList
    have e2 : c.argTypes.toList.toArray = c.argTypes := by simp
    rw [e1, e2] at this
    simp only [resolve, hc]
    exact this
  · exact h.elim

theorem parts_eval {g : Gh} {w : World} {n : Nat} {fr : Fr} {a : Act} (hF : FrR g w n fr a) {parts : Array (Nat × Operand)} (hok : (parts.toList.map (·.2)).all (opndOk n) = true) (k : Nat) (p : Nat × AV) (q : Nat × Value)
    (hp : (parts.toList.map fun p => (p.1, ev fr p.2))[k]? = some p) (hq : (parts.map fun x : Nat × Operand => (x.1, a.eval x.2)).toList[k]? = some q) : p.1 = q.1 ∧ ConcA g w p.2 q.2 := by
  rw [Array.toList_map, List.getElem?_map] at hq
  rw [List.getElem?_map] at hp
  cases hx : parts.toList[k]? with
  | none => rw [hx] at hp; cases hp
  | some x =>
    rw [hx] at hp hq
    simp only [Option.map_some, Option.some.injEq] at hp hq
    subst hp; subst hq
    exact ⟨rfl, hF.eval (List.all_eq_true.1 hok _ (List.mem_map.2 ⟨x, List.mem_of_getElem? hx, rfl⟩))⟩

theorem vopcG_sound {P : Program} {g : Gh} {M : Mem} {w : World} (hP : g.P = P) (hR : Rel g M w) {N : (Nat → Prop) → Prop} (hN : ∀ F : Nat → Prop, N F → ∃ id, g.blk id = none ∧ M id = none ∧ ¬ g.res id ∧ F id) {n : Nat} {fr : Fr} {a : Act} (hF : FrR g w n fr a) {o : Oper} (hok : o.op.operands.toList.all (opndOk n) = true) {K : AV → Mem → Prop} (h : vopcG N P o.op fr M K) :
    OpX P (execOp a.eval o) g w K := by
  obtain ⟨dst, op, type, pos, after, guard⟩ := o
  simp only at hok h
  have E : ∀ x, x ∈ op.operands.toList → ConcA g w (ev fr x) (a.eval x) := fun x hx => hF.eval (List.all_eq_true.1 hok x hx)
  unfold execOp
  cases op with
  | move x => exact .inl ⟨_, w, g, _, M, .inl rfl, h, Ev.refl _ _, E x (by simp [Op.operands]), hR⟩
  | assign x => exact .inl ⟨_, w, g, _, M, .inl rfl, h, Ev.refl _ _, E x (by simp [Op.operands]), hR⟩
  | pick c x y =>
    have hc := E c (by simp [Op.operands])
    have hx := E x (by simp [Op.operands])
    have hy := E y (by simp [Op.operands])
    simp only [vopcG] at h
    unfold pickK at h
    split at h
    · rename_i t ht
      rw [ht] at hc
      have := conc_bool hc
      refine .inl ⟨if t then a.eval x else a.eval y, w, g, _, M, .inl ?_, h, Ev.refl _ _, ?_, hR⟩
      · simp [this, asBool]
      · cases t
        · exact hy
        · exact hx
    · exact h.elim
  | alloc T =>
    simp only [vopcG] at h
    obtain ⟨i, hi, h⟩ := optK_elim h
    obtain ⟨cs, hcs, hsz, h⟩ := optK_elim h
    obtain ⟨id, hg, hM, hr0, hk⟩ := hN _ h
    obtain ⟨vs, hv, hr⟩ := run_alloc' hi hcs g w
    obtain ⟨inf, _, _, hinf, _, _, hs, _⟩ := ti_spec hi
    obtain ⟨e, rel, hc⟩ := rel_box hR hg hM hr0 T hv (by rw [hP, hsz, hs]; simp [szOf, hinf])
    exact OpX.val hr hk e (.l hc) rel
  | box T x =>
    simp only [vopcG] at h
    obtain ⟨i, hi, h⟩ := optK_elim h
    obtain ⟨cs, hcs, hsz, h⟩ := optK_elim h
    obtain ⟨id, hg, hM, hr0, hk⟩ := hN _ h
    have hv := avCells_conc (E x (by simp [Op.operands])) hcs
    obtain ⟨inf, _, _, hinf, _, _, hs, _⟩ := ti_spec hi
    obtain ⟨e, rel, hc⟩ := rel_box hR hg hM hr0 T hv (by rw [hP, hsz, hs]; simp [szOf, hinf])
    exact OpX.val (run_box' T g w _) hk e (.l hc) rel
  | build t parts =>
    simp only [vopcG] at h
    obtain ⟨v, hv, hk⟩ := optK_elim h
    obtain ⟨c, hr, hc⟩ := run_buildA (P := P) (w := w) (cparts := parts.map fun x : Nat × Operand => (x.1, a.eval x.2)) (by simp) (parts_eval hF (by simpa [Op.operands] using hok)) hv
    exact OpX.val hr hk (Ev.refl _ _) hc hR
  | buildSlice t len parts =>
    simp only [vopcG] at h
    obtain ⟨⟨e, rows⟩, hv, h⟩ := optK_elim h
    obtain ⟨id, hg, hM, hr0, hk⟩ := hN _ h
    obtain ⟨c, w', g', hr, ev, hc, hR'⟩ := run_buildSliceA (P := P) (w := w) (cparts := parts.map fun x : Nat × Operand => (x.1, a.eval x.2)) hP hR (by simp) (parts_eval hF (by simpa [Op.operands] using hok)) hv hg hM hr0
    exact OpX.val hr hk ev (.l hc) hR'
  | load t x =>
    simp only [vopcG] at h
    obtain ⟨v, hv, hk⟩ := optK_elim h
    obtain ⟨c, hr, hc⟩ := run_loadA (P := P) hR (E x (by simp [Op.operands])) hv
    exact OpX.val hr hk (Ev.refl _ _) hc hR
  | store t x y =>
    simp only [vopcG] at h
    obtain ⟨M', hv, hk⟩ := optK_elim h
    obtain ⟨w', hr, ev, hR'⟩ := run_storeA (P := P) hR (E x (by simp [Op.operands])) (E y (by simp [Op.operands])) hv
    exact OpX.unit hr hk ev (.any _) hR'
  | nilCheck x =>
    simp only [vopcG] at h
    obtain ⟨v, hv, hk⟩ := optK_elim h
    have hx := E x (by simp [Op.operands])
    generalize ev fr x = ex at hv hx
    generalize hcx : a.eval x = cx at hx
    unfold nilChk at hv
    split at hv
    · simp only [Option.some.injEq] at hv
      subst hv
      cases hx with
      | l hx =>
        cases hx with
        | ptr hb => exact .inl ⟨_, w, g, _, M, .inl (by simp only [hcx]; rfl), hk, Ev.refl _ _, .l (.ptr hb), hR⟩
    · simp only [Option.some.injEq] at hv
      subst hv
      cases hx with
      | l hx =>
        obtain ⟨b, o, rfl, _⟩ := conc_rp hx
        exact .inl ⟨_, w, g, _, M, .inl (by simp only [hcx]; rfl), hk, Ev.refl _ _, .l hx, hR⟩
    · simp only [Option.some.injEq] at hv
      subst hv
      cases hx with
      | l hx =>
        cases hx with
        | clo cs hl hc => exact .inl ⟨_, w, g, _, M, .inl (by simp only [hcx]; rfl), hk, Ev.refl _ _, .l (.clo cs hl hc), hR⟩
    · cases hv
  | binOp op t x y yt =>
    simp only [vopcG] at h
    obtain ⟨c, v, hr, hk, hc⟩ := run_binK (P := P) (E x (by simp [Op.operands])) (E y (by simp [Op.operands])) (fun hn => by
      unfold isNilS at hn
      split at hn
      · rfl
      · cases hn) h
    exact OpX.val hr hk (Ev.refl _ _) hc hR
  | unOp op t x =>
    simp only [vopcG] at h
    obtain ⟨v, hv, hk⟩ := optK_elim h
    obtain ⟨c, hr, hc⟩ := run_unA (P := P) (E x (by simp [Op.operands])) hv
    exact OpX.val hr hk (Ev.refl _ _) hc hR
  | convert s d x =>
    simp only [vopcG] at h
    obtain ⟨v, hv, hk⟩ := optK_elim h
    obtain ⟨c, hr, hc⟩ := run_convA (P := P) (E x (by simp [Op.operands])) hv
    exact OpX.val hr hk (Ev.refl _ _) hc hR
  | makeFunc fn first caps =>
    simp only [vopcG] at h
    split at h
    · rename_i f
      obtain ⟨h0, h⟩ := h
      obtain ⟨cs, hcs, hk⟩ := optK_elim h
      have hf : first = #[] := Array.eq_empty_of_size_eq_zero h0
      subst hf
      obtain ⟨h1, h2⟩ := capsA_spec hF caps.toList cs (by simpa [Op.operands] using hok) hcs
      refine OpX.val (c := .func (.func f) #[] (caps.map a.eval)) (by simp [Instr.makeFunc]) hk (Ev.refl _ _) (.l ?_) hR
      have := Conc.clo (g := g) (w := w) (f := f) (caps := cs) (caps.toList.map a.eval) h1 h2
      have e1 : (caps.toList.map a.eval).toArray = caps.map a.eval := by apply Array.ext'; simp
      rw [e1] at this
      exact this
    · exact h.elim
  | makeSlice t l c =>
    simp only [vopcG] at h
    obtain ⟨⟨e, rows⟩, hv, h⟩ := optK_elim h
    obtain ⟨id, hg, hM, hr0, hk⟩ := hN _ h
    obtain ⟨c', w', g', hr, ev, hc, hR'⟩ := run_makeSliceA (P := P) (w := w) hP hR (E l (by simp [Op.operands])) (E c (by simp [Op.operands])) hv hg hM hr0
    exact OpX.val hr hk ev (.l hc) hR'
  | makeMap t r =>
    simp only [vopcG] at h
    split at h
    · obtain ⟨id, hg, hM, hr0, hk⟩ := hN _ h
      obtain ⟨ev, rel⟩ := rel_new_map hR hg hM hr0 (Grow1.alloc w (.map #[] 0))
      exact OpX.val (c := .map (some w.heap.size)) (w' := w.alloc (.map #[] 0)) (by simp [Instr.makeMap]) hk ev (.l (.mp (Gh.put_same g id (w.heap.size, 0, 0)))) rel
    · exact h.elim
  | slice t x lo hi mx =>
    simp only [vopcG] at h
    obtain ⟨v, hv, hk⟩ := optK_elim h
    have ho : ∀ (z : Option Operand), (∀ y, z = some y → y ∈ (Op.slice t x lo hi mx).operands.toList) → (z.map (ev fr) = none ↔ z.map a.eval = none) ∧ ∀ p q, z.map (ev fr) = some p → z.map a.eval = some q → ConcA g w p q := fun z hm => by
      cases z with
      | none => exact ⟨by simp, fun p q hp => by simp at hp⟩
      | some y => exact ⟨by simp, fun p q hp hq => by simp only [Option.map_some, Option.some.injEq] at hp hq; subst hp; subst hq; exact E y (hm y rfl)⟩
    obtain ⟨n1, c1⟩ := ho lo (fun y hy => by subst hy; simp [Op.operands])
    obtain ⟨n2, c2⟩ := ho hi (fun y hy => by subst hy; simp [Op.operands])
    obtain ⟨n3, c3⟩ := ho mx (fun y hy => by subst hy; simp [Op.operands])
    obtain ⟨c, hr, hc⟩ := run_sliceA (P := P) hP hR (E x (by simp [Op.operands])) n1 c1 n2 c2 n3 hv
    exact OpX.val hr hk (Ev.refl _ _) hc hR
  | fieldAddr s x f =>
    simp only [vopcG] at h
    obtain ⟨v, hv, hk⟩ := optK_elim h
    obtain ⟨c, hr, hc⟩ := run_fieldAddrA (P := P) (E x (by simp [Op.operands])) hv
    exact OpX.val hr hk (Ev.refl _ _) hc hR
  | field t x f =>
    simp only [vopcG] at h
    obtain ⟨v, hv, hk⟩ := optK_elim h
    have hx := E x (by simp [Op.operands])
    generalize ev fr x = ex at hv hx
    unfold fieldA at hv
    split at hv
    · rename_i i cs hi
      obtain ⟨_, d, _, _, hd, _, _, _, _, _, hdd⟩ := ti_spec hi
      split at hv
      · rename_i fs hfs
        rw [hdd] at hfs
        obtain ⟨fields, rfl, rfl⟩ := tdOf_struct hfs
        split at hv
        · rename_i off ft hf
          split at hv
          · rename_i j hj
            obtain ⟨infj, dj, _, hinfj, hdj, _, hsj, _, haj, _, _⟩ := ti_spec hj
            cases hxx : a.eval x with
            | agg vals =>
              rw [hxx] at hx
              cases hx with
              | agg vs hvs =>
                rw [List.getElem?_map] at hf
                cases hff : fields.toList[f]? with
                | none => rw [hff] at hf; cases hf
                | some fl =>
                  rw [hff] at hf
                  simp only [Option.map_some, Option.some.injEq, Prod.mk.injEq] at hf
                  obtain ⟨rfl, rfl⟩ := hf
                  have hfa : fields[f]? = some fl := by simpa using hff
                  unfold packV at hv
                  rw [haj] at hv
                  split at hv
                  · rename_i hag
                    split at hv
                    · rename_i hle
                      simp only [Option.some.injEq] at hv
                      subst hv
                      refine OpX.val (c := .agg (vs.toArray.extract fl.offset (fl.offset + infj.size))) ?_ hk (Ev.refl _ _) ?_ hR
                      · simp [Instr.field, run_underlying hd, hfa, part, run_isAgg' hdj, hag, asAgg, hxx, run_sizeOf' hinfj]
                      · have := ConcA.agg ((vs.drop fl.offset).take j.size) ((hvs.drop fl.offset).take j.size)
                        have he : (vs.toArray.extract fl.offset (fl.offset + infj.size)) = ((vs.drop fl.offset).take j.size).toArray := by
                          rw [hsj]
                          apply Array.ext'
                          simp [List.extract]
                        rw [he]
                        exact this
                    · cases hv
                  · rename_i hag
                    cases hcd : cs.drop fl.offset with
                    | nil => rw [hcd] at hv; cases hv
                    | cons y ys =>
                      rw [hcd] at hv
                      simp only [List.head?_cons, Option.map_some, Option.some.injEq] at hv
                      subst hv
                      have hy : cs[fl.offset]? = some y := by
                        have : (cs.drop fl.offset)[0]? = some y := by rw [hcd]; rfl
                        rw [List.getElem?_drop] at this
                        simpa using this
                      obtain ⟨u, hu, hcu⟩ := hvs.get hy
                      have hu' : vs.toArray[fl.offset]? = some u := by simpa using hu
                      have hag' : tdAgg dj = false := by simpa using hag
                      refine OpX.val (c := u) ?_ hk (Ev.refl _ _) (.l hcu) hR
                      simp [Instr.field, run_underlying hd, hfa, part, run_isAgg' hdj, hag', asAgg, hxx, hu]
            | _ => rw [hxx] at hx; cases hx
          · cases hv
        · cases hv
      · cases hv
    · cases hv
  | indexAddr t x i =>
    simp only [vopcG] at h
    obtain ⟨v, hv, hk⟩ := optK_elim h
    obtain ⟨c, hr, hc⟩ := run_indexAddrA (P := P) hP hR (E x (by simp [Op.operands])) (E i (by simp [Op.operands])) hv
    exact OpX.val hr hk (Ev.refl _ _) hc hR
  | index t x i =>
    simp only [vopcG] at h
    obtain ⟨v, hv, hk⟩ := optK_elim h
    have hx := E x (by simp [Op.operands])
    have hi := E i (by simp [Op.operands])
    generalize ev fr x = ex at hv hx
    generalize ev fr i = ei at hv hi
    unfold indexA at hv
    split at hv
    · rename_i ti s k m hti
      obtain ⟨_, d, _, _, hd, _, _, _, _, _, hdd⟩ := ti_spec hti
      have h1 := conc_str hx
      have h2 := conc_int hi
      split at hv
      · rename_i hs
        rw [hdd] at hs
        have := tdOf_string hs
        subst this
        split at hv
        · rename_i h0
          split at hv
          · rename_i b hb
            simp only [Option.some.injEq] at hv
            subst hv
            have hb' : s[m.toNat]? = some b := hb
            exact OpX.val (c := .int .u8 b.toNat) (by simp [Instr.index, h1, h2, asIntOf, run_underlying hd, h0, hb']) hk (Ev.refl _ _) (.l (.int _ _)) hR
          · cases hv
        · cases hv
      · cases hv
    · rename_i ti cs k m hti
      obtain ⟨_, d, _, _, hd, _, _, _, _, _, hdd⟩ := ti_spec hti
      have h2 := conc_int hi
      split at hv
      · rename_i len e he
        rw [hdd] at he
        have := tdOf_array he
        subst this
        split at hv
        · rename_i te hte
          obtain ⟨infj, dj, _, hinfj, hdj, _, hsj, _, haj, _, _⟩ := ti_spec hte
          split at hv
          · rename_i hb
            cases hxx : a.eval x with
            | agg vals =>
              rw [hxx] at hx
              cases hx with
              | agg vs hvs =>
                unfold packV at hv
                rw [haj] at hv
                split at hv
                · rename_i hag
                  split at hv
                  · simp only [Option.some.injEq] at hv
                    subst hv
                    refine OpX.val (c := .agg (vs.toArray.extract (m.toNat * infj.size) (m.toNat * infj.size + infj.size))) ?_ hk (Ev.refl _ _) ?_ hR
                    · simp [Instr.index, hxx, h2, asIntOf, run_underlying hd, hb, run_sizeOf' hinfj, part, run_isAgg' hdj, hag]
                    · have := ConcA.agg ((vs.drop (m.toNat * te.size)).take te.size) ((hvs.drop (m.toNat * te.size)).take te.size)
                      have he : (vs.toArray.extract (m.toNat * infj.size) (m.toNat * infj.size + infj.size)) = ((vs.drop (m.toNat * te.size)).take te.size).toArray := by
                        rw [hsj]
                        apply Array.ext'
                        simp [List.extract]
                      rw [he]
                      exact this
                  · cases hv
                · rename_i hag
                  cases hcd : cs.drop (m.toNat * te.size) with
                  | nil => rw [hcd] at hv; cases hv
                  | cons y ys =>
                    rw [hcd] at hv
                    simp only [List.head?_cons, Option.map_some, Option.some.injEq] at hv
                    subst hv
                    have hy : cs[m.toNat * te.size]? = some y := by
                      have : (cs.drop (m.toNat * te.size))[0]? = some y := by rw [hcd]; rfl
                      rw [List.getElem?_drop] at this
                      simpa using this
                    obtain ⟨u, hu, hcu⟩ := hvs.get hy
                    rw [hsj] at hu
                    have hag' : tdAgg dj = false := by simpa using hag
                    refine OpX.val (c := u) ?_ hk (Ev.refl _ _) (.l hcu) hR
                    simp [Instr.index, hxx, h2, asIntOf, run_underlying hd, hb, run_sizeOf' hinfj, part, run_isAgg' hdj, hag', hu]
            | _ => rw [hxx] at hx; cases hx
          · cases hv
        · cases hv
      · cases hv
    · cases hv
  | lookup t m k ok =>
    simp only [vopcG] at h
    obtain ⟨v, hv, hk⟩ := optK_elim h
    obtain ⟨c, hr, hc⟩ := run_lookupA (P := P) hR (E m (by simp [Op.operands])) (E k (by simp [Op.operands])) hv
    exact OpX.val hr hk (Ev.refl _ _) hc hR
  | mapUpdate t m k x =>
    simp only [vopcG] at h
    obtain ⟨M', hv, hk⟩ := optK_elim h
    obtain ⟨w', hr, ev, hR'⟩ := run_mapUpdA (P := P) hR (E m (by simp [Op.operands])) (E k (by simp [Op.operands])) (E x (by simp [Op.operands])) hv
    exact OpX.unit hr hk ev (.any _) hR'
  | extract x i =>
    simp only [vopcG] at h
    obtain ⟨v, hv, hk⟩ := optK_elim h
    have hx := E x (by simp [Op.operands])
    generalize ev fr x = ex at hv hx
    generalize hcx : a.eval x = cx at hx
    cases ex with
    | tup xs =>
      simp only [extractA] at hv
      cases hx with
      | tup vs hl hc =>
        have hi := (List.getElem?_eq_some_iff.1 hv).1
        have hvi : vs[i]? = some (vs[i]'(by omega)) := List.getElem?_eq_getElem (by omega)
        exact OpX.val (c := vs[i]'(by omega)) (by simp [hcx, Instr.extract, hvi]) hk (Ev.refl _ _) (hc i v _ hv hvi) hR
    | l _ => cases hv
    | agg _ => cases hv
    | any => cases hv
  | call c =>
    simp only [vopcG] at h
    exact callG_sound hP hR hN hF (by simpa [Op.operands] using hok) h
  | _ => exact absurd h (by simp [vopcG])

theorem vopc_sound {P : Program} {g : Gh} {M : Mem} {w : World} (hP : g.P = P) (hR : Rel g M w) {n : Nat} {fr : Fr} {a : Act} (hF : FrR g w n fr a) {o : Oper} (hok : o.op.operands.toList.all (opndOk n) = true) {K : AV → Mem → Prop} (h : vopc P o.op fr M K) :
    OpX P (execOp a.eval o) g w K := vopcG_sound hP hR (fun _ hF => newK_pick hR hF) hF hok h

end Go.X
