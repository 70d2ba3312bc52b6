/- Texts joined: We. -/
import Derived.Test.YtddmalpfmcggjaaRows
import Derived.Test.YtddmalpfmcggjaaZ3
import Derived.Test.YtddmalpfmcggjaaZ5
import Derived.JoinedCond

/- How the arguments read that are of small bulk: scripts. -/




set_option linter.unusedVariables false
set_option linter.unusedSimpArgs false
namespace Go.X
open Go.Proofs.Try (prog)
open Go.Proofs.Ytddmalpfmcggjaa
open Go.RowKit Go.ChangeShapes Go.WideShapes Go.ChangeAt

theorem one_le {H : Type} (d : DataW H) : 1 ≤ Rows.uptoBulk d := by
  cases d with
  | lit l => cases l <;> simp [Rows.uptoBulk]
  | nil => simp [Rows.uptoBulk]
  | ptr d => simp [Rows.uptoBulk]
  | slice elems spare => simp [Rows.uptoBulk]
  | agg parts => simp [Rows.uptoBulk]
  | iface t d => simp [Rows.uptoBulk]
  | map entries => simp [Rows.uptoBulk]
  | held h => simp [Rows.uptoBulk]
theorem sum_bulk {H : Type} : ∀ (f : Nat → Nat) (l : List (DataW H × List MemPlace)), (∀ i y, l[i]? = some y → f i ≤ Rows.uptoBulk y.1) → ((List.range l.length).map f).sum ≤ Rows.uptoBulkAll (l.map (·.1))
  | f, [], h => by simp [Rows.uptoBulkAll]
  | f, y :: r, h => by
    have h0 := h 0 y rfl
    have h1 := sum_bulk (fun i => f (i + 1)) r fun i z hz => h (i + 1) z (by simpa using hz)
    simp only [List.length_cons, List.range_succ_eq_map, List.map_cons, List.map_map, List.sum_cons, Rows.uptoBulkAll]
    have e : ((List.range r.length).map (f ∘ Nat.succ)) = (List.range r.length).map fun i => f (i + 1) := rfl
    rw [e]
    omega
/-- What an argument reads as, and its bulk. -/
def Opens2 (P : Program) (t : TypeId) (R : List Lf → Nat → Prop) : Prop :=
  ∀ (H : Type) (enc : TypeId × Value → H) (w : World) (spare : Nat → Bool) (held : Bool) (fuel : Nat) (cs : List Value) (x : DataW H × List MemPlace),
    DataW.trod enc P w 0 spare held fuel t cs = some x → (∀ n ∈ x.1.weights P t, n ≤ reachBytes) → ∃ ls, ConcL (g0 P w) w ls cs ∧ R ls (Rows.uptoBulk x.1)
theorem Opens2.mono {P : Program} {t : TypeId} {R R' : List Lf → Nat → Prop} (h : Opens2 P t R) (hr : ∀ ls n, R ls n → R' ls n) : Opens2 P t R' :=
  fun H enc w spare held fuel cs x ht hw => by
    obtain ⟨ls, h1, h2⟩ := h H enc w spare held fuel cs x ht hw
    exact ⟨ls, h1, hr _ _ h2⟩
theorem Opens.two {P : Program} {t : TypeId} {R : List Lf → Prop} (h : Opens P t R) : Opens2 P t fun ls n => R ls ∧ 1 ≤ n :=
  fun H enc w spare held fuel cs x ht hw => by
    obtain ⟨ls, h1, h2⟩ := h H enc w spare held fuel cs x ht hw
    exact ⟨ls, h1, h2, one_le _⟩
theorem opens2_slice {P : Program} {t e : TypeId} {R : List Lf → Prop} (g : List Lf → Nat) (ht : P.underlying t = some (.slice e)) (he : Opens2 P e fun ls n => R ls ∧ g ls ≤ n) (hpos : 0 < P.cellsOf e) :
    Opens2 P t fun ls n => ∃ rows, ls = [.sl rows] ∧ (∀ r ∈ rows, R r) ∧ rows.length * P.bytesOf e ≤ reachBytes ∧ (rows.map g).sum + 1 ≤ n :=
  fun H enc w spare held fuel cs x h hw => by
    rcases DataW.trod_slice ht h with ⟨rfl, rfl⟩ | ⟨a, len, cap, elems, rest, n, rfl, rfl, rfl, hb, hlc, hcm, hel, hs, hsp, hns⟩
    · exact ⟨[.sl []], .cons .sl0 (.nil _ _), [], rfl, (fun r hr => by cases hr), by simp, one_le _⟩
    · have hbytes : len * P.bytesOf e ≤ reachBytes := by
        have h1 : (elems.length + rest.length) * P.bytesOf e ≤ reachBytes := hw _ (by simp [DataW.weights, ht])
        have h2 : len * P.bytesOf e ≤ (elems.length + rest.length) * P.bytesOf e := Nat.mul_le_mul_right _ (by omega)
        omega
      by_cases h0 : len = 0
      · subst h0
        exact ⟨[.sl []], .cons .sl0 (.nil _ _), [], rfl, (fun r hr => by cases hr), by simp, one_le _⟩
      · have each : ∀ i, i < len → ∃ ls cs', w.cells? 0 (a.add (i * P.cellsOf e)) (P.cellsOf e) = some cs' ∧ ConcL (g0 P w) w ls cs' ∧ (R ls ∧ ∀ y, elems[i]? = some y → g ls ≤ Rows.uptoBulk y.1) := fun i hi => by
          have h1 := hs i hi
          have hi' : i < elems.length := by omega
          rw [List.getElem?_eq_getElem hi', Option.bind_eq_some_iff] at h1
          obtain ⟨cs', h2, h3⟩ := h1
          obtain ⟨ls, h4, h5⟩ := he H enc w spare held n cs' _ h3 (fun m hm => hw m (by
            simp only [DataW.weights, ht, List.mem_cons, List.mem_append]
            refine .inr (.inl (mem_weightsAll (List.mem_map.2 ⟨_, List.getElem_mem hi', rfl⟩) m hm))))
          exact ⟨ls, cs', h2, h4, h5.1, fun y hy => by rw [List.getElem?_eq_getElem hi', Option.some.injEq] at hy; rw [← hy]; exact h5.2⟩
        have hspot : a.spot = none := by
          obtain ⟨ls, cs', h2, _, _⟩ := each 0 (by omega)
          have h3 := (World.cells?_some h2).2.2 0 hpos
          have hl := (World.cells?_some h2).2.1
          have e1 : (a.add (0 * P.cellsOf e)).add 0 = a := by simp [Addr.add]
          rw [e1] at h3
          have h4 : cs'[0]? = some cs'[0] := List.getElem?_eq_getElem (by omega)
          rw [h4] at h3
          cases hsp : a.spot with
          | none => rfl
          | some s =>
            unfold World.cell? at h3
            split at h3
            · rw [hsp] at h3; cases h3
            · cases h3
        obtain ⟨b, o, sp⟩ := a
        simp only at hspot
        subst hspot
        have each' : ∀ i, ∃ ls, i < len → ∃ cs', w.cells? 0 ((⟨b, o, none⟩ : Addr).add (i * P.cellsOf e)) (P.cellsOf e) = some cs' ∧ ConcL (g0 P w) w ls cs' ∧ (R ls ∧ ∀ y, elems[i]? = some y → g ls ≤ Rows.uptoBulk y.1) := fun i => by
          by_cases hi : i < len
          · obtain ⟨ls, cs', h1⟩ := each i hi
            exact ⟨ls, fun _ => ⟨cs', h1⟩⟩
          · exact ⟨[], fun h => absurd h hi⟩
        let f : Nat → List Lf := fun i => Classical.choose (each' i)
        have hf : ∀ i, i < len → ∃ cs', w.cells? 0 ((⟨b, o, none⟩ : Addr).add (i * P.cellsOf e)) (P.cellsOf e) = some cs' ∧ ConcL (g0 P w) w (f i) cs' ∧ (R (f i) ∧ ∀ y, elems[i]? = some y → g (f i) ≤ Rows.uptoBulk y.1) := fun i hi => Classical.choose_spec (each' i) hi
        have hcell : ∀ i j, i < len → j < P.cellsOf e → ∃ v x, w.cell? ⟨b, o + (i * P.cellsOf e + j), none⟩ = some v ∧ (f i)[j]? = some x ∧ Conc (g0 P w) w x v := fun i j hi hj => by
          obtain ⟨cs', h1, h2, h3⟩ := hf i hi
          obtain ⟨_, hl, hc⟩ := World.cells?_some h1
          have h4 := hc j hj
          rw [addr_add, addr_add, Nat.add_assoc] at h4
          have hj' : j < cs'.length := by omega
          have hj2 : j < (f i).length := by rw [h2.1]; exact hj'
          refine ⟨cs'[j], (f i)[j], by rw [h4]; exact List.getElem?_eq_getElem hj', List.getElem?_eq_getElem hj2, h2.2 j _ _ (List.getElem?_eq_getElem hj2) (List.getElem?_eq_getElem hj')⟩
        refine ⟨[.sl ((List.range len).map f)], .cons ?_ (.nil _ _), _, rfl, (fun r hr => ?_), by simpa using hbytes, ?_⟩
        · have hln : ((List.range len).map f).length = len := by simp
          have hc := Conc.sl (g := g0 P w) (w := w) (rows := (List.range len).map f) (b := b) (o := o) (sz := P.cellsOf e) (cap := cap) (fun k => (w.cell? ⟨b, o + k, none⟩).getD undef) ?_ (by simpa using hlc) ?_ ?_
          · rw [hln] at hc
            exact hc
          · intro r hr
            obtain ⟨i, hi, rfl⟩ := List.mem_map.1 hr
            obtain ⟨cs', h1, h2, h3⟩ := hf i (by simpa using hi)
            rw [h2.1, (World.cells?_some h1).2.1]
          · intro k hk
            rw [hln] at hk
            have hi : k / P.cellsOf e < len := (Nat.div_lt_iff_lt_mul hpos).2 hk
            have hj : k % P.cellsOf e < P.cellsOf e := Nat.mod_lt _ hpos
            obtain ⟨v, x, h1, h2, h3⟩ := hcell _ _ hi hj
            rw [Nat.div_add_mod'] at h1
            rw [h1]
            exact ⟨⟨v, h1⟩, rfl⟩
          · intro i j r x hr hx
            rw [List.getElem?_map] at hr
            obtain ⟨i', hi', rfl⟩ := Option.map_eq_some_iff.1 hr
            have hi2 : i < len := by
              have := (List.getElem?_eq_some_iff.1 hi').1
              simpa using this
            have e1 : i' = i := by
              rw [List.getElem?_range hi2] at hi'
              simpa using hi'.symm
            subst e1
            obtain ⟨cs', h1, h2, h3⟩ := hf i' hi2
            have hj : j < P.cellsOf e := by
              have := (List.getElem?_eq_some_iff.1 hx).1
              rw [h2.1, (World.cells?_some h1).2.1] at this
              exact this
            obtain ⟨v, y, k1, k2, k3⟩ := hcell _ _ hi2 hj
            rw [hx, Option.some.injEq] at k2
            subst k2
            rw [k1]
            exact k3
        · obtain ⟨i, hi, rfl⟩ := List.mem_map.1 hr
          obtain ⟨cs', h1, h2, h3⟩ := hf i (by simpa using hi)
          exact h3.1
        · have hlen : len ≤ elems.length := by omega
          have h1 := sum_bulk (fun i => g (f i)) elems fun i y hy => by
            by_cases hi : i < len
            · exact (hf i hi).elim fun cs' h => h.2.2.2 y hy
            · exact absurd (List.getElem?_eq_some_iff.1 hy).1 (by omega)
          have h2 : len = elems.length := by omega
          simp only [Rows.uptoBulk, List.map_map]
          rw [h2]
          have h3 : ((List.range elems.length).map (g ∘ f)).sum ≤ Rows.uptoBulkAll (elems.map (·.1)) := h1
          omega
def OpensAll2 (P : Program) : List Field → List (List Lf → Nat → Prop) → Prop
  | [], [] => True
  | f :: fs, R :: Rs => Opens2 P f.type R ∧ OpensAll2 P fs Rs
  | _, _ => False
def RsAll2 : List (List Lf → Nat → Prop) → List Lf → Nat → Prop
  | [], ls, _ => ls = []
  | R :: Rs, ls, n => ∃ a b k m, ls = a ++ b ∧ R a k ∧ RsAll2 Rs b m ∧ k + m ≤ n
theorem open_fields2 {H : Type} {enc : TypeId × Value → H} {P : Program} {w : World} {spare : Nat → Bool} {held : Bool} {fuel : Nat} {cs : List Value} :
    ∀ (fs : List Field) (Rs : List (List Lf → Nat → Prop)) (xs : List (DataW H × List MemPlace)) (o : Nat), Contig P fs o cs.length → OpensAll2 P fs Rs → xs.length = fs.length →
      (∀ (i : Nat) (f : Field), fs[i]? = some f → DataW.trod enc P w 0 spare held fuel f.type ((cs.drop f.offset).take (P.cellsOf f.type)) = xs[i]?) →
      (∀ (i : Nat) (f : Field) (y : DataW H × List MemPlace), fs[i]? = some f → xs[i]? = some y → ∀ n ∈ y.1.weights P f.type, n ≤ reachBytes) →
      ∃ ls, ConcL (g0 P w) w ls (cs.drop o) ∧ RsAll2 Rs ls (Rows.uptoBulkAll (xs.map (·.1)))
  | [], [], xs, o, hc, ho, hl, ht, hw => by
    refine ⟨[], ?_, rfl⟩
    rw [hc, List.drop_length]
    exact .nil _ _
  | [], R :: Rs, xs, o, hc, ho, hl, ht, hw => ho.elim
  | f :: fs, [], xs, o, hc, ho, hl, ht, hw => ho.elim
  | f :: fs, R :: Rs, [], o, hc, ho, hl, ht, hw => by simp at hl
  | f :: fs, R :: Rs, y :: xs, o, hc, ho, hl, ht, hw => by
    have h0 := ht 0 f rfl
    simp only [List.getElem?_cons_zero] at h0
    obtain ⟨a, ha, hra⟩ := ho.1 H enc w spare held fuel _ y h0 (hw 0 f y rfl rfl)
    obtain ⟨b, hb, hrb⟩ := open_fields2 fs Rs xs (o + P.cellsOf f.type) hc.2 ho.2 (by simpa using hl) (fun i f' hf => by simpa using ht (i + 1) f' (by simpa using hf)) (fun i f' y' hf hy => hw (i + 1) f' y' (by simpa using hf) (by simpa using hy))
    refine ⟨a ++ b, ?_, a, b, _, _, rfl, hra, hrb, by simp only [List.map_cons, Rows.uptoBulkAll]; omega⟩
    have : cs.drop o = (cs.drop f.offset).take (P.cellsOf f.type) ++ cs.drop (o + P.cellsOf f.type) := by
      rw [hc.1, ← List.drop_drop, List.take_append_drop]
    rw [this]
    exact ha.append hb
theorem opens2_struct {P : Program} {t : TypeId} {fs : Array Field} (ht : P.underlying t = some (.struct fs)) (Rs : List (List Lf → Nat → Prop)) (hc : Contig P fs.toList 0 (P.cellsOf t)) (ho : OpensAll2 P fs.toList Rs) : Opens2 P t fun ls n => ∃ m, RsAll2 Rs ls m ∧ m + 1 ≤ n :=
  fun H enc w spare held fuel cs x h hw => by
    obtain ⟨xs, n, rfl, rfl, hl, hlen, hf⟩ := DataW.trod_struct ht h
    have := open_fields2 (enc := enc) (w := w) (spare := spare) (held := held) (fuel := n) (cs := cs) fs.toList Rs xs 0 (by rw [hl]; exact hc) ho (by simpa using hlen) (fun i f hf' => hf i f (by simpa using hf')) (fun i f y hf' hy m hm => hw m (by
      simp only [DataW.weights, ht]
      refine DataW.weights_mem_each (j := i) (t := f.type) (d := y.1) ?_ ?_ m hm
      · rw [List.getElem?_map, hf']; rfl
      · rw [List.getElem?_map, hy]; rfl))
    obtain ⟨ls, h1, h2⟩ := this
    refine ⟨ls, by simpa using h1, _, h2, ?_⟩
    simp only [Rows.uptoBulk]
    exact Nat.le_refl _
def OpensT2 (P : Program) : List TypeId → List (List Lf → Nat → Prop) → Prop
  | [], [] => True
  | t :: ts, R :: Rs => Opens2 P t R ∧ OpensT2 P ts Rs
  | _, _ => False
theorem OpensT2.all {P : Program} : ∀ {fs : List Field} {Rs : List (List Lf → Nat → Prop)}, OpensT2 P (fs.map (·.type)) Rs → OpensAll2 P fs Rs
  | [], [], _ => trivial
  | f :: fs, R :: Rs, h => ⟨h.1, OpensT2.all h.2⟩
  | [], R :: Rs, h => h.elim
  | f :: fs, [], h => h.elim
theorem opens2_tys {P : Program} {t : TypeId} {ts : List TypeId} (ht : tysOf P t = some ts) (Rs : List (List Lf → Nat → Prop)) (ho : OpensT2 P ts Rs) : Opens2 P t fun ls n => ∃ m, RsAll2 Rs ls m ∧ m + 1 ≤ n := by
  unfold tysOf at ht
  split at ht
  · rename_i fs hu
    split at ht
    · rename_i hc
      simp only [Option.some.injEq] at ht
      subst ht
      exact opens2_struct hu Rs hc ho.all
    · cases ht
  · cases ht
theorem o2_i {t : TypeId} (ht : Go.Proofs.Try.prog.underlying t = some (.int .i64)) : Opens2 Go.Proofs.Try.prog t fun ls n => (∃ k, ls = [.int .i64 k] ∧ -9223372036854775808 ≤ k ∧ k ≤ 9223372036854775807) ∧ 1 ≤ n := (o_ir ht).two
theorem o2_pr : Opens2 Go.Proofs.Try.prog 38 fun ls n => (∃ p : Pr, ls = p.row ∧ True) ∧ 3 ≤ n := by
  refine (opens2_tys (ts := [3, 3]) (by kernel_rfl) [_, _] ⟨o2_i (by kernel_rfl), o2_i (by kernel_rfl), trivial⟩).mono ?_
  rintro ls n ⟨m, ⟨a, b, k, l, rfl, ⟨⟨x, rfl, _⟩, hk⟩, ⟨c, d, k2, l2, rfl, ⟨⟨y, rfl, _⟩, hk2⟩, rfl, h2⟩, h1⟩, hm⟩
  exact ⟨⟨⟨x, y⟩, rfl, trivial⟩, by omega⟩
theorem o2_op : Opens2 Go.Proofs.Try.prog 34 fun ls n => (∃ o : Opn, ls = o.row ∧ True) ∧ 5 ≤ n := by
  refine (opens2_tys (ts := [3, 3, 3, 3]) (by kernel_rfl) [_, _, _, _] ⟨o2_i (by kernel_rfl), o2_i (by kernel_rfl), o2_i (by kernel_rfl), o2_i (by kernel_rfl), trivial⟩).mono ?_
  rintro ls n ⟨m, ⟨a, b, k, l, rfl, ⟨⟨x, rfl, _⟩, hk⟩, ⟨c, d, k2, l2, rfl, ⟨⟨y, rfl, _⟩, hk2⟩, ⟨e, f, k3, l3, rfl, ⟨⟨z, rfl, _⟩, hk3⟩, ⟨g, h, k4, l4, rfl, ⟨⟨u, rfl, _⟩, hk4⟩, rfl, h4⟩, h3⟩, h2⟩, h1⟩, hm⟩
  exact ⟨⟨⟨x, y, z, u⟩, rfl, trivial⟩, by omega⟩
theorem sum_const {α : Type} (k : Nat) : ∀ l : List α, (l.map fun _ => k).sum = k * l.length
  | [] => by simp
  | a :: r => by
    have := sum_const k r
    simp only [List.map_cons, List.sum_cons, List.length_cons, this, Nat.mul_succ]
    omega
theorem o2_prs : Opens2 Go.Proofs.Try.prog 24 fun ls n => ∃ ps : List Pr, ls = [.sl (ps.map Pr.row)] ∧ 3 * ps.length + 1 ≤ n := by
  refine (opens2_slice (fun _ => 3) (by kernel_rfl) o2_pr (of_decide_eq_true (by kernel_rfl))).mono ?_
  rintro ls n ⟨rows, rfl, hr, hb, hs⟩
  obtain ⟨ps, rfl, _⟩ := rows_map hr
  rw [sum_const, List.length_map] at hs
  exact ⟨ps, rfl, hs⟩
theorem o2_ops : Opens2 Go.Proofs.Try.prog 32 fun ls n => ∃ ps : List Opn, ls = [.sl (ps.map Opn.row)] ∧ 5 * ps.length + 1 ≤ n := by
  refine (opens2_slice (fun _ => 5) (by kernel_rfl) o2_op (of_decide_eq_true (by kernel_rfl))).mono ?_
  rintro ls n ⟨rows, rfl, hr, hb, hs⟩
  obtain ⟨ps, rfl, _⟩ := rows_map hr
  rw [sum_const, List.length_map] at hs
  exact ⟨ps, rfl, hs⟩
theorem o2_ints : Opens2 Go.Proofs.Try.prog 26 fun ls n => ∃ ps : List Int, ls = [.sl (ps.map irow)] ∧ ps.length + 1 ≤ n ∧ ∀ k ∈ ps, -9223372036854775808 ≤ k ∧ k ≤ 9223372036854775807 := by
  refine (opens2_slice (e := 3) (fun _ => 1) (by kernel_rfl) (o2_i (by kernel_rfl)) (of_decide_eq_true (by kernel_rfl))).mono ?_
  rintro ls n ⟨rows, rfl, hr, hb, hs⟩
  obtain ⟨ps, rfl, h2⟩ := rows_map (row := irow) hr
  rw [sum_const, List.length_map] at hs
  exact ⟨ps, rfl, by omega, h2⟩
/-- The weight of a row that is a slice of operations. -/
def gOps : List Lf → Nat
  | [.sl rows] => 5 * rows.length + 1
  | _ => 0
theorem gOps_sum : ∀ L : List (List Opn), ((L.map oprow).map gOps).sum = 5 * callsN L + L.length
  | [] => rfl
  | l :: r => by
    have := gOps_sum r
    simp only [List.map_cons, List.sum_cons, List.length_cons, callsN] at this ⊢
    rw [this]
    simp only [oprow, gOps, List.length_map]
    omega
theorem o2_opss : Opens2 Go.Proofs.Try.prog 25 fun ls n => ∃ L : List (List Opn), ls = [.sl (L.map oprow)] ∧ 5 * callsN L + L.length + 1 ≤ n := by
  refine (opens2_slice (R := fun ls => ∃ l : List Opn, ls = oprow l ∧ True) gOps (by kernel_rfl) (o2_ops.mono ?_) (of_decide_eq_true (by kernel_rfl))).mono ?_
  · rintro ls n ⟨ps, rfl, h⟩
    exact ⟨⟨ps, rfl, trivial⟩, by simpa [gOps] using h⟩
  · rintro ls n ⟨rows, rfl, hr, hb, hs⟩
    obtain ⟨L, rfl, _⟩ := rows_map hr
    refine ⟨L, rfl, ?_⟩
    rw [gOps_sum] at hs
    exact hs
theorem o2_pol : Opens2 Go.Proofs.Try.prog 23 fun ls n => (∃ p : Pol, ls = p.row) ∧ 6 ≤ n := by
  refine (opens2_tys (ts := [3, 3, 3, 3, 3]) (by kernel_rfl) [_, _, _, _, _] ⟨o2_i (by kernel_rfl), o2_i (by kernel_rfl), o2_i (by kernel_rfl), o2_i (by kernel_rfl), o2_i (by kernel_rfl), trivial⟩).mono ?_
  rintro ls n ⟨m, ⟨a, b, k, l, rfl, ⟨⟨x, rfl, _⟩, hk⟩, ⟨c, d, k2, l2, rfl, ⟨⟨y, rfl, _⟩, hk2⟩, ⟨e, f, k3, l3, rfl, ⟨⟨z, rfl, _⟩, hk3⟩, ⟨g, h, k4, l4, rfl, ⟨⟨u, rfl, _⟩, hk4⟩, ⟨g', h', k5, l5, rfl, ⟨⟨v, rfl, _⟩, hk5⟩, rfl, h5⟩, h4⟩, h3⟩, h2⟩, h1⟩, hm⟩
  exact ⟨⟨⟨x, y, z, u, v⟩, rfl⟩, by omega⟩
theorem o2_scr : Opens2 Go.Proofs.Try.prog 28 fun ls n => ∃ s : Scr, ls = s.row ∧ (-9223372036854775808 ≤ s.threads ∧ s.threads ≤ 9223372036854775807) ∧ (∀ k ∈ s.picks, -9223372036854775808 ≤ k ∧ k ≤ 9223372036854775807) ∧ 3 * s.beg.length + 5 * callsN s.ops + s.ops.length + s.picks.length ≤ n := by
  refine (opens2_tys (ts := [3, 3, 23, 24, 25, 26]) (by kernel_rfl) [_, _, _, _, _, _] ⟨o2_i (by kernel_rfl), o2_i (by kernel_rfl), o2_pol, o2_prs, o2_opss, o2_ints, trivial⟩).mono ?_
  rintro ls n ⟨m, ⟨a, b, k, l, rfl, ⟨⟨x, rfl, hx⟩, hk⟩, ⟨c, d, k2, l2, rfl, ⟨⟨y, rfl, _⟩, hk2⟩, ⟨e, f, k3, l3, rfl, ⟨⟨p, rfl⟩, hk3⟩, ⟨g, h, k4, l4, rfl, ⟨bg, rfl, hk4⟩, ⟨g', h', k5, l5, rfl, ⟨ops, rfl, hk5⟩, ⟨g'', h'', k6, l6, rfl, ⟨pk, rfl, hk6, hpk⟩, rfl, h6⟩, h5⟩, h4⟩, h3⟩, h2⟩, h1⟩, hm⟩
  exact ⟨⟨x, y, p, bg, ops, pk⟩, rfl, hx, hpk, by simp only; omega⟩
theorem len_callsN {L : List (List Opn)} {l : List Opn} (h : l ∈ L) : l.length ≤ callsN L := by
  induction L with
  | nil => cases h
  | cons x r ih =>
    simp only [callsN, List.map_cons, List.sum_cons] at ih ⊢
    rcases List.mem_cons.1 h with rfl | h
    · omega
    · have := ih h
      omega
theorem sm_of {s : Scr} {n : Nat} (h : 3 * s.beg.length + 5 * callsN s.ops + s.ops.length + s.picks.length ≤ n) (hn : n ≤ 1048576) : SmS s :=
  ⟨by omega, by omega, fun l hl => by have := len_callsN hl; omega, by rw [← callsN]; omega, by omega⟩
section
variable {H : Type} {enc : TypeId × Value → H} {W : World} {base : Nat} {v : Value} {d : DataW H} {p : List MemPlace}
theorem arg2_agg {R : List Lf → Nat → Prop} {t : TypeId} {fs : Array Field} (hu : Go.Proofs.Try.prog.underlying t = some (.struct fs)) (ho : Opens2 Go.Proofs.Try.prog t R) (hok : Value.okWide Go.Proofs.Try.prog W .any base t v)
    (h : DataW.Trod enc Go.Proofs.Try.prog W 0 (fun _ => true) true t v d p) (hw : ∀ n ∈ d.weights Go.Proofs.Try.prog t, n ≤ reachBytes) : ∃ ls, ConcA (g0 Go.Proofs.Try.prog W) W (.agg ls) v ∧ R ls (Rows.uptoBulk d) := by
  obtain ⟨cs, rfl, _⟩ := okWide_struct hu hok
  obtain ⟨fuel, hf⟩ := h
  obtain ⟨ls, h1, h2⟩ := ho H enc W _ _ fuel _ _ hf hw
  refine ⟨ls, ?_, h2⟩
  have : (Value.agg cs) = .agg cs.toList.toArray := rfl
  rw [this]
  exact .agg _ h1
theorem arg_scr (hok : Value.okWide Go.Proofs.Try.prog W .any base 28 v) (h : DataW.Trod enc Go.Proofs.Try.prog W 0 (fun _ => true) true 28 v d p) (hw : ∀ n ∈ d.weights Go.Proofs.Try.prog 28, n ≤ reachBytes) (hb : Rows.uptoBulk d ≤ 1048576) :
    ∃ s : Scr, ConcA (g0 Go.Proofs.Try.prog W) W (.agg s.row) v ∧ SmS s ∧ (-9223372036854775808 ≤ s.threads ∧ s.threads ≤ 9223372036854775807) ∧ ∀ k ∈ s.picks, -9223372036854775808 ≤ k ∧ k ≤ 9223372036854775807 := by
  obtain ⟨fs, hu⟩ : ∃ fs, Go.Proofs.Try.prog.underlying 28 = some (.struct fs) := struct_of (by kernel_rfl)
  obtain ⟨ls, h1, s, rfl, h2, h3, h4⟩ := arg2_agg hu o2_scr hok h hw
  exact ⟨s, h1, sm_of h4 hb, h2, h3⟩
end
/-- A part's bulk is at most the whole's. -/
theorem part_le {H : Type} {d : DataW H} {l : List (DataW H)} (h : d ∈ l) : Rows.uptoBulk d ≤ Rows.uptoBulkAll l := by
  induction l with
  | nil => cases h
  | cons x r ih =>
    simp only [Rows.uptoBulkAll]
    cases List.mem_cons.1 h with
    | inl e => subst e; omega
    | inr e => have := ih e; omega
end Go.X
