/- The program logic: further operations: addresses, slices, lengths, literals. -/
import Derived.Test.YthgppaccdlcaiaaXd
set_option linter.unusedVariables false
set_option linter.unusedSimpArgs false
set_option linter.unusedSectionVars false
namespace Go.X
open Go.RowKit

theorem conc_int {g : Gh} {w : World} {k : IntKind} {n : Int} {v : Value} (h : ConcA g w (.l (.int k n)) v) : v = .int k n := by
  cases h with | l h => cases h; rfl
theorem conc_bool {g : Gh} {w : World} {b : Bool} {v : Value} (h : ConcA g w (.l (.bool b)) v) : v = .bool b := by
  cases h with | l h => cases h; rfl
theorem conc_str {g : Gh} {w : World} {s : ByteArray} {v : Value} (h : ConcA g w (.l (.str s)) v) : v = .string s := by
  cases h with | l h => cases h; rfl

theorem conc_rp_drop {g : Gh} {w : World} {cells : List Lf} {b o : Nat} (h : Conc g w (.rp cells) (.pointer (some ⟨b, o, none⟩))) (n : Nat) : Conc g w (.rp (cells.drop n)) (.pointer (some ⟨b, o + n, none⟩)) := by
  cases h with
  | rp cs h hc =>
    refine .rp (fun i => cs (n + i)) (fun i hi => ?_) (fun i x hx => ?_)
    · rw [List.length_drop] at hi
      rw [Nat.add_assoc]
      exact h (n + i) (by omega)
    · rw [List.getElem?_drop] at hx
      exact hc _ _ hx

/-! ### field addresses -/
def fieldAddrA (P : Program) (s : TypeId) (a : AV) (f : Nat) : Option AV :=
  match tiOf P s, a with
  | some i, .l (.rp cells) => match i.d with
    | .struct fs => match fs[f]? with
      | some (off, ft) => match tiOf P ft with
        | some j => if j.size = 0 then none else some (.l (.rp (cells.drop off)))
        | none => none
      | none => none
    | _ => none
  | some i, .l (.ptr id r c) => match i.d with
    | .struct fs => match fs[f]? with
      | some (off, ft) => match tiOf P ft with
        | some j => if j.size = 0 then none else some (.l (.ptr id r (c + off)))
        | none => none
      | none => none
    | _ => none
  | _, _ => none

theorem tdOf_struct {d : TypeDesc} {fs : List (Nat × Nat)} (h : tdOf d = .struct fs) : ∃ fields, d = .struct fields ∧ fs = fields.toList.map fun f => (f.offset, f.type) := by
  cases d <;> simp [tdOf] at h
  exact ⟨_, rfl, h.symm⟩
theorem tdOf_slice {d : TypeDesc} {e : Nat} (h : tdOf d = .slice e) : d = .slice e := by
  cases d <;> simp [tdOf] at h
  rw [h]
theorem tdOf_pointer {d : TypeDesc} {e : Nat} (h : tdOf d = .pointer e) : d = .pointer e := by
  cases d <;> simp [tdOf] at h
  rw [h]
theorem tdOf_array {d : TypeDesc} {n e : Nat} (h : tdOf d = .array n e) : d = .array n e := by
  cases d <;> simp [tdOf] at h
  rw [h.1, h.2]
theorem tdOf_map {d : TypeDesc} {k e : Nat} (h : tdOf d = .map k e) : d = .map k e := by
  cases d <;> simp [tdOf] at h
  rw [h.1, h.2]
theorem tdOf_int {d : TypeDesc} {k : IntKind} (h : tdOf d = .int k) : d = .int k := by
  cases d <;> simp [tdOf] at h
  rw [h]
theorem tdOf_string {d : TypeDesc} (h : tdOf d = .string) : d = .string := by
  cases d <;> simp [tdOf] at h
  rfl
theorem tdOf_bool {d : TypeDesc} (h : tdOf d = .bool) : d = .bool := by
  cases d <;> simp [tdOf] at h
  rfl

theorem run_fieldAt' {P : Program} {s ft : TypeId} {fields : Array Field} (hd : P.underlying s = some (.struct fields)) {f off : Nat} (hf : (fields.toList.map fun f => (f.offset, f.type))[f]? = some (off, ft)) {j : TI} (hj : tiOf P ft = some j) (h0 : ¬ j.size = 0) (b o : Nat) (w : World) :
    (Instr.fieldAt s (.pointer (some ⟨b, o, none⟩)) f).run P w = .ok (.pointer (some ⟨b, o + off, none⟩)) w := by
  obtain ⟨inf, d, z, hinf, hd', hz, hs, _, _, _, _⟩ := ti_spec hj
  rw [List.getElem?_map] at hf
  cases hff : fields.toList[f]? with
  | none => rw [hff] at hf; cases hf
  | some fl =>
    rw [hff] at hf
    simp only [Option.map_some, Option.some.injEq, Prod.mk.injEq] at hf
    obtain ⟨rfl, rfl⟩ := hf
    have hfa : fields[f]? = some fl := by simpa using hff
    have hne : ¬ inf.size = 0 := by rw [← hs]; exact h0
    simp [Instr.fieldAt, run_underlying hd, hfa, Instr.sureAddr, fieldPlace, run_sizeOf' hinf, hne, addr_add]

theorem run_fieldAddrA {P : Program} {g : Gh} {w : World} {s : TypeId} {a v : AV} {ca : Value} {f : Nat} (hc : ConcA g w a ca) (h : fieldAddrA P s a f = some v) :
    ∃ c, (Instr.fieldAt s ca f).run P w = .ok c w ∧ ConcA g w v c := by
  unfold fieldAddrA at h
  split at h
  · rename_i i cells hti
    obtain ⟨inf, d, z, hinf, hd, hz, _, _, _, _, hdd⟩ := ti_spec hti
    split at h
    · rename_i fs hfs
      split at h
      · rename_i off ft hf
        split at h
        · rename_i j hj
          split at h
          · cases h
          · rename_i h0
            simp only [Option.some.injEq] at h
            subst h
            rw [hdd] at hfs
            obtain ⟨fields, rfl, rfl⟩ := tdOf_struct hfs
            cases hc with
            | l hc =>
              obtain ⟨b, o, rfl, _⟩ := conc_rp hc
              exact ⟨_, run_fieldAt' hd hf hj h0 b o w, .l (conc_rp_drop hc off)⟩
        · cases h
      · cases h
    · cases h
  · rename_i i id r c hti
    obtain ⟨inf, d, z, hinf, hd, hz, _, _, _, _, hdd⟩ := ti_spec hti
    split at h
    · rename_i fs hfs
      split at h
      · rename_i off ft hf
        split at h
        · rename_i j hj
          split at h
          · cases h
          · rename_i h0
            simp only [Option.some.injEq] at h
            subst h
            rw [hdd] at hfs
            obtain ⟨fields, rfl, rfl⟩ := tdOf_struct hfs
            cases hc with
            | l hc =>
              cases hc with
              | ptr hx =>
                rename_i b sz cr
                refine ⟨_, run_fieldAt' hd hf hj h0 b _ w, .l ?_⟩
                rw [Nat.add_assoc]
                exact .ptr hx
        · cases h
      · cases h
    · cases h
  · cases h

/-! ### an element's address -/
def indexAddrA (P : Program) (M : Mem) (t : TypeId) (a i : AV) : Option AV :=
  match tiOf P t, i with
  | some ti, .l (.int _ n) =>
    match ti.d with
    | .slice e => match tiOf P e, a with
      | some te, .l (.sl rows) => if 0 ≤ n ∧ n < rows.length then (match rows[n.toNat]? with | some r => if r.length = te.size then some (.l (.rp r)) else none | none => none) else none
      | some te, .l (.ms id off len) => if 0 ≤ n ∧ n < len then (match M id with
        | some (.cells T _ _) => if T = e then some (.l (.ptr id (off + n.toNat) 0)) else none
        | _ => none) else none
      | _, _ => none
    | .array len e => match tiOf P e, a with
      | some te, .l (.ptr id r c) => if 0 ≤ n ∧ n < len then some (.l (.ptr id r (c + n.toNat * te.size))) else none
      | some te, .l (.rp cells) => if 0 ≤ n ∧ n < len then some (.l (.rp (cells.drop (n.toNat * te.size)))) else none
      | _, _ => none
    | _ => none
  | _, _ => none

theorem run_indexAt_slice {P : Program} {t e : TypeId} {inf : TypeInfo} (hd : P.underlying t = some (.slice e)) (hi : P.info? e = some inf) (w : World) (k : IntKind) (n : Int) (b o len cap : Nat) (h0 : 0 ≤ n) (h1 : n < len) :
    (Instr.indexAt t (.slice (some ⟨b, o, none⟩) len cap) (.int k n)).run P w = .ok (.pointer (some ⟨b, o + n.toNat * inf.size, none⟩)) w := by
  simp [Instr.indexAt, asIntOf, run_underlying hd, run_sizeOf' hi, h0, h1, addr_add]

theorem run_indexAt_array {P : Program} {t e : TypeId} {len : Nat} {inf : TypeInfo} (hd : P.underlying t = some (.array len e)) (hi : P.info? e = some inf) (w : World) (k : IntKind) (n : Int) (b o : Nat) (h0 : 0 ≤ n) (h1 : n < len) :
    (Instr.indexAt t (.pointer (some ⟨b, o, none⟩)) (.int k n)).run P w = .ok (.pointer (some ⟨b, o + n.toNat * inf.size, none⟩)) w := by
  simp [Instr.indexAt, asIntOf, run_underlying hd, run_sizeOf' hi, h0, h1, addr_add, Instr.sureAddr]

theorem run_indexAddrA {P : Program} {g : Gh} {M : Mem} {w : World} (hP : g.P = P) (hR : Rel g M w) {t : TypeId} {a i v : AV} {ca ci : Value} (hca : ConcA g w a ca) (hci : ConcA g w i ci) (h : indexAddrA P M t a i = some v) :
    ∃ c, (Instr.indexAt t ca ci).run P w = .ok c w ∧ ConcA g w v c := by
  unfold indexAddrA at h
  split at h
  · rename_i ti k n hti
    have := conc_int hci
    subst this
    obtain ⟨inf, d, z, hinf, hd, hz, _, _, _, _, hdd⟩ := ti_spec hti
    split at h
    · rename_i e he
      rw [hdd] at he
      have := tdOf_slice he
      subst this
      split at h
      · rename_i te rows hte
        obtain ⟨infe, de, ze, hinfe, hde, hze, hse, _, _, _, hdde⟩ := ti_spec hte
        split at h
        · rename_i hb
          split at h
          · rename_i r hr
            split at h
            · rename_i hl
              simp only [Option.some.injEq] at h
              subst h
              cases hca with
              | l hca =>
                obtain ⟨b, o, cap, rfl, hrow, _⟩ := conc_sl_row hca hr
                refine ⟨_, run_indexAt_slice hd hinfe w k n b o _ cap hb.1 hb.2, .l ?_⟩
                rw [← hse, ← hl]
                exact hrow
            · cases h
          · cases h
        · cases h
      · rename_i te id off len hte
        obtain ⟨infe, de, ze, hinfe, hde, hze, hse, _, _, _, hdde⟩ := ti_spec hte
        split at h
        · rename_i hb
          split at h
          · rename_i T rows keep hM
            split at h
            · rename_i hT
              subst hT
              simp only [Option.some.injEq] at h
              subst h
              cases hca with
              | l hca =>
                cases hca with
                | ms hx h1 h2 =>
                  rename_i b sz cr cap
                  obtain ⟨b', sz', cr', cur, g1, g2, g3, g4, g5, g6, g7, g8, g9⟩ := hR.blk id _ hM
                  rw [hx, Option.some.injEq, Prod.mk.injEq, Prod.mk.injEq] at g1
                  obtain ⟨rfl, rfl, rfl⟩ := g1
                  have hrl : sz = infe.size := by rw [g9, hP]; simp [szOf, hinfe]
                  refine ⟨_, run_indexAt_slice hd hinfe w k n b (off * sz) _ cap hb.1 hb.2, .l ?_⟩
                  have := Conc.ptr (w := w) (r := off + n.toNat) (c := 0) hx
                  rw [Nat.add_zero, Nat.add_mul, hrl] at this
                  rw [hrl]
                  exact this
            · cases h
          · cases h
        · cases h
      · cases h
    · rename_i len e he
      rw [hdd] at he
      have := tdOf_array he
      subst this
      split at h
      · rename_i te id r c hte
        obtain ⟨infe, de, ze, hinfe, hde, hze, hse, _, _, _, hdde⟩ := ti_spec hte
        split at h
        · rename_i hb
          simp only [Option.some.injEq] at h
          subst h
          cases hca with
          | l hca =>
            cases hca with
            | ptr hx =>
              rename_i b sz cr
              refine ⟨_, run_indexAt_array hd hinfe w k n b _ hb.1 hb.2, .l ?_⟩
              rw [← hse, Nat.add_assoc]
              exact .ptr hx
        · cases h
      · rename_i te cells hte
        obtain ⟨infe, de, ze, hinfe, hde, hze, hse, _, _, _, hdde⟩ := ti_spec hte
        split at h
        · rename_i hb
          simp only [Option.some.injEq] at h
          subst h
          cases hca with
          | l hca =>
            obtain ⟨b, o, rfl, _⟩ := conc_rp hca
            refine ⟨_, run_indexAt_array hd hinfe w k n b o hb.1 hb.2, .l ?_⟩
            rw [← hse]
            exact conc_rp_drop hca _
        · cases h
      · cases h
    · cases h
  · cases h

/-! ### lengths -/
def lenA (P : Program) (M : Mem) (t : TypeId) (a : AV) : Option AV :=
  match tiOf P t with
  | some ti => match ti.d, a with
    | .slice _, .l (.sl rows) => some (.l (.int .i64 rows.length))
    | .slice _, .l .nils => some (.l (.int .i64 0))
    | .slice _, .l (.ms _ _ len) => some (.l (.int .i64 len))
    | .string, .l (.str s) => some (.l (.int .i64 s.size))
    | .array n _, _ => some (.l (.int .i64 n))
    | .map _ _, .l .nilm => some (.l (.int .i64 0))
    | .map _ _, .l (.mp id) => match M id with
      | some (.map es) => some (.l (.int .i64 es.length))
      | _ => none
    | _, _ => none
  | none => none

theorem run_lenA {P : Program} {g : Gh} {M : Mem} {w : World} (hR : Rel g M w) {t ty : TypeId} {a v : AV} {ca : Value} (hca : ConcA g w a ca) (h : lenA P M t a = some v) :
    ∃ c, (Builtin.len_ #[t] ty #[ca]).run P w = .ok c w ∧ ConcA g w v c := by
  unfold lenA at h
  split at h
  · rename_i ti hti
    obtain ⟨inf, d, z, hinf, hd, hz, _, _, _, _, hdd⟩ := ti_spec hti
    rw [hdd] at h
    split at h
    · rename_i e rows he
      have := tdOf_slice he
      subst this
      simp only [Option.some.injEq] at h
      subst h
      cases hca with
      | l hca =>
        obtain ⟨a, cap, rfl, _⟩ := conc_sl hca
        exact ⟨_, by simp [Builtin.len_, run_underlying hd, goInt], .l (.int _ _)⟩
    · rename_i e he
      have := tdOf_slice he
      subst this
      simp only [Option.some.injEq] at h
      subst h
      cases hca with
      | l hca =>
        cases hca
        exact ⟨_, by simp [Builtin.len_, run_underlying hd, goInt], .l (.int _ _)⟩
    · rename_i e id off len he
      have := tdOf_slice he
      subst this
      simp only [Option.some.injEq] at h
      subst h
      cases hca with
      | l hca =>
        cases hca
        exact ⟨_, by simp [Builtin.len_, run_underlying hd, goInt], .l (.int _ _)⟩
    · rename_i s he
      have := tdOf_string he
      subst this
      simp only [Option.some.injEq] at h
      subst h
      have := conc_str hca
      subst this
      exact ⟨_, by simp [Builtin.len_, run_underlying hd, goInt], .l (.int _ _)⟩
    · rename_i n e he
      have := tdOf_array he
      subst this
      simp only [Option.some.injEq] at h
      subst h
      exact ⟨_, by simp [Builtin.len_, run_underlying hd, goInt], .l (.int _ _)⟩
    · rename_i k e he
      have := tdOf_map he
      subst this
      simp only [Option.some.injEq] at h
      subst h
      cases hca with
      | l hca =>
        cases hca
        exact ⟨_, by simp [Builtin.len_, run_underlying hd, goInt], .l (.int _ _)⟩
    · rename_i k e id he
      have := tdOf_map he
      subst this
      split at h
      · rename_i es hM
        simp only [Option.some.injEq] at h
        subst h
        cases hca with
        | l hca =>
          cases hca with
          | mp hx =>
            rename_i b sz cr
            obtain ⟨b', sz', cr', ents, clock, g1, g2, g3, g4, g5⟩ := hR.blk id _ hM
            rw [hx, Option.some.injEq, Prod.mk.injEq, Prod.mk.injEq] at g1
            obtain ⟨rfl, rfl, rfl⟩ := g1
            have hg : (getObj b).run P w = .ok (.map ents clock) w := by simp [getObj, Sem.run, g3]
            refine ⟨.int .i64 ents.size, by simp [Builtin.len_, run_underlying hd, goInt, hg], ?_⟩
            rw [g4]
            exact .l (.int _ _)
      · cases h
    · cases h
  · cases h

/-! ### slices of slices -/
def boundA (d : Nat) : Option AV → Option Nat
  | none => some d
  | some (.l (.int _ n)) => if 0 ≤ n then some n.toNat else none
  | some _ => none

def sliceA (P : Program) (M : Mem) (t : TypeId) (x : AV) (lo hi mx : Option AV) : Option AV :=
  match tiOf P t with
  | some ti => match ti.d, x, mx with
    | .slice e, .l (.sl rows), none => match tiOf P e, boundA 0 lo, boundA rows.length hi with
      | some te, some l, some h => if l ≤ h ∧ h ≤ rows.length ∧ (∀ r ∈ rows, r.length = te.size) then some (.l (.sl ((rows.drop l).take (h - l)))) else none
      | _, _, _ => none
    | .slice e, .l .nils, none => match tiOf P e, boundA 0 lo, boundA 0 hi with
      | some te, some l, some h => if l = 0 ∧ h = 0 then some (.l .nils) else none
      | _, _, _ => none
    | .slice e, .l (.ms id off len), none => match tiOf P e, boundA 0 lo, boundA len hi with
      | some te, some l, some h => if l ≤ h ∧ h ≤ len then
          (if l = 0 then some (.l (.ms id off h)) else if l = h then some (.l (.sl [])) else match M id with
            | some (.cells T _ _) => if T = e then some (.l (.ms id (off + l) (h - l))) else none
            | _ => none) else none
      | _, _, _ => none
    | .string, .l (.str s), none => match boundA 0 lo, boundA s.size hi with
      | some l, some h => if l ≤ h ∧ h ≤ s.size then some (.l (.str (s.extract l h))) else none
      | _, _ => none
    | _, _, _ => none
  | none => none

theorem bound_spec {P : Program} {g : Gh} {w : World} {d n : Nat} {a : Option AV} {c : Option Value} (hn : a = none ↔ c = none) (hc : ∀ x v, a = some x → c = some v → ConcA g w x v) (h : boundA d a = some n) :
    (c = none ∧ n = d) ∨ ∃ k, c = some (.int k (n : Int)) := by
  unfold boundA at h
  split at h
  · simp only [Option.some.injEq] at h
    exact .inl ⟨hn.1 rfl, h.symm⟩
  · rename_i k i
    split at h
    · rename_i h0
      simp only [Option.some.injEq] at h
      cases hcc : c with
      | none => exact absurd (hn.2 hcc) (by simp)
      | some v =>
        have := conc_int (hc _ v rfl hcc)
        subst this
        refine .inr ⟨k, ?_⟩
        rw [← h, Int.toNat_of_nonneg h0]
    · cases h
  · cases h

theorem run_bounds {P : Program} {w : World} {isSlice : Bool} {len cap l h : Nat} {lo hi : Option Value} (hlo : (lo = none ∧ l = 0) ∨ ∃ k, lo = some (.int k (l : Int))) (hhi : (hi = none ∧ h = len) ∨ ∃ k, hi = some (.int k (h : Int)))
    (h1 : l ≤ h) (h2 : h ≤ cap) : (Instr.sliceBounds isSlice len cap lo hi none).run P w = .ok (l, h, cap) w := by
  have a1 : (0 : Int) ≤ (l : Int) := by omega
  have a2 : (l : Int) ≤ (h : Int) := by omega
  have a3 : (0 : Int) ≤ (h : Int) := by omega
  have a4 : (h : Int) ≤ (cap : Int) := by omega
  rcases hlo with ⟨rfl, rfl⟩ | ⟨k, rfl⟩ <;> rcases hhi with ⟨rfl, rfl⟩ | ⟨k', rfl⟩ <;>
    simp [Instr.sliceBounds, Instr.sliceBound, asIntOf, a1, a2, a3, a4, h1, h2]

theorem run_slice_of {P : Program} {w : World} {t e : TypeId} {inf : TypeInfo} (hd : P.underlying t = some (.slice e)) (hinf : P.info? e = some inf) {a : Option Addr} {len cap l h : Nat} {lo hi : Option Value}
    (hlo : (lo = none ∧ l = 0) ∨ ∃ k, lo = some (.int k (l : Int))) (hhi : (hi = none ∧ h = len) ∨ ∃ k, hi = some (.int k (h : Int))) (h1 : l ≤ h) (h2 : h ≤ cap) :
    (Instr.sliceAt t (.slice a len cap) lo hi none).run P w = .ok (.slice (if cap = l then a else a.map (·.add (l * inf.size))) (h - l) (cap - l)) w := by
  simp [Instr.sliceAt, Instr.slice, run_underlying hd, run_bounds hlo hhi h1 h2, run_sizeOf' hinf]

theorem conc_sl_slice {g : Gh} {w : World} {rows : List (List Lf)} {a : Option Addr} {len cap l h sz : Nat} (hc : Conc g w (.sl rows) (.slice a len cap)) (hs : ∀ r ∈ rows, r.length = sz) (h1 : l ≤ h) (h2 : h ≤ rows.length) :
    Conc g w (.sl ((rows.drop l).take (h - l))) (.slice (if cap = l then a else a.map (·.add (l * sz))) (h - l) (cap - l)) := by
  by_cases hlh : l = h
  · subst hlh
    simp only [Nat.sub_self, List.take_zero]
    exact .sl0
  · cases hc with
    | sl0 => simp at h2; omega
    | sl cs hsz hcap hcell hcc =>
      rename_i b o sz'
      have hne : ¬ cap = l := by omega
      rw [if_neg hne]
      have hex : ∃ r, r ∈ rows := ⟨rows[l]'(by omega), List.getElem_mem _⟩
      obtain ⟨r0, hr0⟩ := hex
      have : sz' = sz := (hsz r0 hr0).symm.trans (hs r0 hr0)
      subst this
      have hlen : ((rows.drop l).take (h - l)).length = h - l := by simp; omega
      have key := Conc.sl (g := g) (w := w) (rows := (rows.drop l).take (h - l)) (b := b) (o := o + l * sz') (sz := sz') (cap := cap - l) (fun k => cs (l * sz' + k))
        (fun r hr => hsz r (List.mem_of_mem_drop (List.mem_of_mem_take hr))) (by rw [hlen]; omega)
        (fun i hi => by
          rw [hlen] at hi
          have : (l + (h - l)) * sz' ≤ rows.length * sz' := Nat.mul_le_mul_right _ (by omega)
          rw [Nat.add_mul] at this
          rw [Nat.add_assoc]
          exact hcell _ (by omega))
        (fun i j r x hr hx => by
          rw [List.getElem?_take] at hr
          split at hr
          · rw [List.getElem?_drop] at hr
            have := hcc (l + i) j r x hr hx
            rw [Nat.add_mul, Nat.add_assoc] at this
            exact this
          · cases hr)
      rw [hlen] at key
      simp only [Option.map_some, addr_add]
      exact key

theorem run_sliceA {P : Program} {g : Gh} {M : Mem} {w : World} (hP : g.P = P) (hR : Rel g M w) {t : TypeId} {x v : AV} {cx : Value} {lo hi mx : Option AV} {clo chi cmx : Option Value} (hx : ConcA g w x cx)
    (nlo : lo = none ↔ clo = none) (hlo : ∀ x v, lo = some x → clo = some v → ConcA g w x v) (nhi : hi = none ↔ chi = none) (hhi : ∀ x v, hi = some x → chi = some v → ConcA g w x v) (nmx : mx = none ↔ cmx = none)
    (h : sliceA P M t x lo hi mx = some v) : ∃ c, (Instr.sliceAt t cx clo chi cmx).run P w = .ok c w ∧ ConcA g w v c := by
  unfold sliceA at h
  split at h
  · rename_i ti hti
    obtain ⟨inf, d, z, hinf, hd, hz, _, _, _, _, hdd⟩ := ti_spec hti
    rw [hdd] at h
    split at h
    · rename_i e rows he
      have := tdOf_slice he
      subst this
      have := nmx.1 rfl
      subst this
      split at h
      · rename_i te l hh hte hl hhb
        obtain ⟨infe, de, ze, hinfe, hde, hze, hse, _, _, _, hdde⟩ := ti_spec hte
        split at h
        · rename_i hb
          simp only [Option.some.injEq] at h
          subst h
          cases hx with
          | l hx =>
            obtain ⟨a, cap, rfl, hcap⟩ := conc_sl hx
            refine ⟨_, run_slice_of hd hinfe (bound_spec (P := P) nlo hlo hl) (bound_spec (P := P) nhi hhi hhb) hb.1 (by omega), .l ?_⟩
            exact conc_sl_slice hx (fun r hr => (hb.2.2 r hr).trans hse) hb.1 hb.2.1
        · cases h
      · cases h
    · rename_i e he
      have := tdOf_slice he
      subst this
      have := nmx.1 rfl
      subst this
      split at h
      · rename_i te l hh hte hl hhb
        obtain ⟨infe, de, ze, hinfe, hde, hze, hse, _, _, _, hdde⟩ := ti_spec hte
        split at h
        · rename_i hb
          simp only [Option.some.injEq] at h
          subst h
          obtain ⟨rfl, rfl⟩ := hb
          cases hx with
          | l hx =>
            cases hx with
            | nils => exact ⟨_, run_slice_of hd hinfe (bound_spec (P := P) nlo hlo hl) (bound_spec (P := P) nhi hhi hhb) (Nat.le_refl _) (Nat.le_refl _), .l .nils⟩
        · cases h
      · cases h
    · rename_i e id off len he
      have := tdOf_slice he
      subst this
      have := nmx.1 rfl
      subst this
      split at h
      · rename_i te l hh hte hl hhb
        obtain ⟨infe, de, ze, hinfe, hde, hze, hse, _, _, _, hdde⟩ := ti_spec hte
        split at h
        · rename_i hb
          cases hx with
          | l hx =>
            cases hx with
            | ms hx h1 h2 =>
              rename_i b sz cr cap
              have hrun := run_slice_of (P := P) (w := w) hd hinfe (a := some ⟨b, off * sz, none⟩) (len := len) (cap := cap) (bound_spec (P := P) nlo hlo hl) (bound_spec (P := P) nhi hhi hhb) hb.1 (by omega)
              refine ⟨_, hrun, ?_⟩
              split at h
              · rename_i hl0
                subst hl0
                simp only [Option.some.injEq] at h
                subst h
                simp only [Nat.zero_mul, Nat.sub_zero, Option.map_some, addr_add, Nat.add_zero, ite_self]
                exact .l (.ms hx (by omega) h2)
              · split at h
                · rename_i hlh
                  simp only [Option.some.injEq] at h
                  subst h
                  subst hlh
                  rw [Nat.sub_self]
                  exact .l .sl0
                · split at h
                  · rename_i T rows keep hM
                    split at h
                    · rename_i hT
                      subst hT
                      simp only [Option.some.injEq] at h
                      subst h
                      obtain ⟨b', sz', cr', cur, g1, g2, g3, g4, g5, g6, g7, g8, g9⟩ := hR.blk id _ hM
                      rw [hx, Option.some.injEq, Prod.mk.injEq, Prod.mk.injEq] at g1
                      obtain ⟨rfl, rfl, rfl⟩ := g1
                      have hsz : sz = infe.size := by rw [g9, hP]; simp [szOf, hinfe]
                      rw [if_neg (by omega)]
                      simp only [Option.map_some, addr_add]
                      rw [← hsz, ← Nat.add_mul]
                      exact .l (.ms hx (by omega) (by omega))
                    · cases h
                  · cases h
        · cases h
      · cases h
    · rename_i s he
      have := tdOf_string he
      subst this
      have := nmx.1 rfl
      subst this
      split at h
      · rename_i l hh hl hhb
        split at h
        · rename_i hb
          simp only [Option.some.injEq] at h
          subst h
          have := conc_str hx
          subst this
          refine ⟨.string (s.extract l hh), ?_, .l (.str _)⟩
          simp [Instr.sliceAt, Instr.slice, run_underlying hd, run_bounds (P := P) (w := w) (isSlice := false) (len := s.size) (cap := s.size) (bound_spec (P := P) nlo hlo hl) (bound_spec (P := P) nhi hhi hhb) hb.1 hb.2]
        · cases h
      · cases h
    · cases h
  · cases h

end Go.X
