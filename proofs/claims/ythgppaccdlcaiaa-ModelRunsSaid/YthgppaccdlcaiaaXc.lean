/- The program logic: how a state goes over into a later one: a new block, a block that is written, cells that are never written again. -/
import Derived.Test.YthgppaccdlcaiaaXb
set_option linter.unusedVariables false
set_option linter.unusedSimpArgs false
set_option linter.unusedSectionVars false
namespace Go.X
open Go.RowKit

theorem addr_add (b o n : Nat) : (⟨b, o, none⟩ : Addr).add n = ⟨b, o + n, none⟩ := by unfold Addr.add; split <;> simp_all

def CellsAt (g : Gh) (w : World) (b o : Nat) (xs : List Lf) : Prop :=
  ∃ vs : List Value, ConcL g w xs vs ∧ ∀ (j : Nat) (v : Value), vs[j]? = some v → w.cell? ⟨b, o + j, none⟩ = some v

theorem CellsAt.take {g : Gh} {w : World} {b o : Nat} {xs : List Lf} (h : CellsAt g w b o xs) (n : Nat) : CellsAt g w b o (xs.take n) := by
  obtain ⟨vs, h1, h2⟩ := h
  refine ⟨vs.take n, h1.take n, fun j v hj => h2 j v ?_⟩
  rw [List.getElem?_take] at hj
  split at hj
  · exact hj
  · cases hj
theorem CellsAt.drop {g : Gh} {w : World} {b o : Nat} {xs : List Lf} (h : CellsAt g w b o xs) (n : Nat) : CellsAt g w b (o + n) (xs.drop n) := by
  obtain ⟨vs, h1, h2⟩ := h
  refine ⟨vs.drop n, h1.drop n, fun j v hj => ?_⟩
  rw [List.getElem?_drop] at hj
  rw [Nat.add_assoc]
  exact h2 _ _ hj

theorem conc_rp {g : Gh} {w : World} {xs : List Lf} {v : Value} (h : Conc g w (.rp xs) v) : ∃ b o, v = .pointer (some ⟨b, o, none⟩) ∧ CellsAt g w b o xs := by
  cases h with
  | rp cs h hc =>
    rename_i b o
    refine ⟨b, o, rfl, (List.range xs.length).map cs, ⟨by simp, fun i x v hx hv => ?_⟩, fun j v hj => ?_⟩
    · have hi := (List.getElem?_eq_some_iff.1 hx).1
      rw [List.getElem?_map, List.getElem?_range hi] at hv
      simp only [Option.map_some, Option.some.injEq] at hv
      subst hv
      exact hc i x hx
    · have hi : j < xs.length := by
        have := (List.getElem?_eq_some_iff.1 hj).1
        simpa using this
      rw [List.getElem?_map, List.getElem?_range hi] at hj
      simp only [Option.map_some, Option.some.injEq] at hj
      subst hj
      exact (h j hi).2

theorem conc_sl {g : Gh} {w : World} {rows : List (List Lf)} {v : Value} (h : Conc g w (.sl rows) v) : ∃ a cap, v = .slice a rows.length cap ∧ rows.length ≤ cap := by
  cases h with
  | sl0 => exact ⟨_, _, rfl, Nat.zero_le _⟩
  | sl cs hsz hcap h hc => exact ⟨_, _, rfl, hcap⟩

theorem conc_sl_row {g : Gh} {w : World} {rows : List (List Lf)} {v : Value} (h : Conc g w (.sl rows) v) {i : Nat} {r : List Lf} (hr : rows[i]? = some r) :
    ∃ b o cap, v = .slice (some ⟨b, o, none⟩) rows.length cap ∧ Conc g w (.rp r) (.pointer (some ⟨b, o + i * r.length, none⟩)) ∧ ∀ r' ∈ rows, r'.length = r.length := by
  cases h with
  | sl0 => simp at hr
  | sl cs hsz hcap h hc =>
    rename_i b o sz cap
    have hi := (List.getElem?_eq_some_iff.1 hr).1
    have hrl : r.length = sz := hsz r (List.mem_of_getElem? hr)
    refine ⟨b, o, cap, rfl, ?_, fun r' h' => by rw [hrl]; exact hsz r' h'⟩
    refine .rp (fun k => cs (i * sz + k)) (fun k hk => ?_) (fun k x hx => hc i k r x hr hx)
    have hlt : i * sz + k < rows.length * sz := by
      have h1 : (i + 1) * sz ≤ rows.length * sz := Nat.mul_le_mul_right _ hi
      rw [Nat.add_mul, Nat.one_mul] at h1
      rw [hrl] at hk
      omega
    have := h (i * sz + k) hlt
    rw [hrl, Nat.add_assoc]
    exact this

/-! ### the heap -/
theorem cells_lt {g : Gh} {M : Mem} {w : World} (h : Rel g M w) {b o : Nat} (hf : g.fz b o) : b < w.heap.size := by
  obtain ⟨v, hv⟩ := h.fz b o hf
  exact World.block_lt_of_cell? w ⟨b, o, none⟩ hv

theorem BlkAt.lt {g : Gh} {w : World} {id : Nat} {blk : Blk} (h : BlkAt g w id blk) : ∃ x, g.blk id = some x ∧ x.1 < w.heap.size ∧ g.w0.heap.size ≤ x.1 := by
  cases blk with
  | cells T rows keep =>
    obtain ⟨b, sz, cr, cur, h1, h2, h3, _⟩ := h
    exact ⟨_, h1, (Array.getElem?_eq_some_iff.1 h3).1, h2⟩
  | map es =>
    obtain ⟨b, sz, cr, ents, clock, h1, h2, h3, _⟩ := h
    exact ⟨_, h1, (Array.getElem?_eq_some_iff.1 h3).1, h2⟩

theorem RowsAt.ev {g g' : Gh} {w w' : World} (e : Ev g w g' w') {rows : List (List Lf)} {sz : Nat} {cur : Array Value} (h : RowsAt g w rows sz cur) : RowsAt g' w' rows sz cur :=
  ⟨h.1, fun i j r x a b => let ⟨v, h1, h2⟩ := h.2 i j r x a b; ⟨v, h1, h2.ev e⟩⟩

/-- A live block that is not touched lives on. -/
theorem BlkAt.ev {g g' : Gh} {w w' : World} (e : Ev g w g' w') {id : Nat} {blk : Blk} (h : BlkAt g w id blk) (hh : ∀ x, g.blk id = some x → w'.heap[x.1]? = w.heap[x.1]?)
    (hf : ∀ x, g.blk id = some x → ∀ o, g'.fz x.1 o → g.fz x.1 o) : BlkAt g' w' id blk := by
  cases blk with
  | cells T rows keep =>
    obtain ⟨b, sz, cr, cur, h1, h2, h3, h4, h5, h6, h7, h8, h9⟩ := h
    exact ⟨b, sz, cr, cur, e.blk _ _ h1, by rw [e.w0]; exact h2, by rw [hh _ h1]; exact h3, h4, h5, h6.ev e, fun o ho => h7 o (hf _ h1 o ho), h8, by rw [e.P]; exact h9⟩
  | map es =>
    obtain ⟨b, sz, cr, ents, clock, h1, h2, h3, h4, h5⟩ := h
    exact ⟨b, sz, cr, ents, clock, e.blk _ _ h1, by rw [e.w0]; exact h2, by rw [hh _ h1]; exact h3, h4, fun i p en a b => ⟨(h5 i p en a b).1.ev e, (h5 i p en a b).2.ev e⟩⟩

/-- The world has only grown (or drawn); the ghost is the same. -/
theorem rel_same {g : Gh} {M : Mem} {w w' : World} (h : Rel g M w) (hb : Below w.heap.size w w') : Ev g w g w' ∧ Rel g M w' := by
  have e : Ev g w g w' := ⟨rfl, rfl, fun _ _ h => h, fun _ _ h => h, fun b o hf => World.cell?_of_block (hb.block b (cells_lt h hf)), rfl, fun _ _ h => h⟩
  refine ⟨e, ?_⟩
  exact {
    blk := fun id b hM => (h.blk id b hM).ev e (fun x hx => hb.block _ (h.lt _ _ hx)) (fun _ _ _ ho => ho)
    inj := h.inj
    lt := fun id x hx => Nat.lt_of_lt_of_le (h.lt id x hx) hb.size
    fz := fun b o hf => by
      obtain ⟨v, hv⟩ := h.fz b o hf
      exact ⟨v, (e.cell b o hf).trans hv⟩
    fin := h.fin
    below := h.below.trans (hb.mono h.below.size) }

theorem rel_drew {g : Gh} {M : Mem} {w : World} (h : Rel g M w) : Ev g w g w.drew ∧ Rel g M w.drew := rel_same h ((Below.refl _ _).drew)

/-- A new id for a new block. -/
def Gh.put (g : Gh) (id : Nat) (x : Nat × Nat × Nat) : Gh := { g with blk := fun i => if id = i then some x else g.blk i }
theorem Gh.put_same (g : Gh) (id : Nat) (x : Nat × Nat × Nat) : (g.put id x).blk id = some x := by simp [Gh.put]
theorem Gh.put_other (g : Gh) (id i : Nat) (x : Nat × Nat × Nat) (h : id ≠ i) : (g.put id x).blk i = g.blk i := by simp [Gh.put, h]

theorem fin_set {g : Gh} {M : Mem} {w : World} (h : Rel g M w) (id : Nat) (x : Nat × Nat × Nat) (b : Blk) : ∃ n, ∀ i, n ≤ i → (g.put id x).blk i = none ∧ (M.set id b) i = none ∧ ¬ (g.put id x).res i := by
  obtain ⟨n, hn⟩ := h.fin
  refine ⟨max n (id + 1), fun i hi => ?_⟩
  have h1 : id ≠ i := by omega
  rw [Gh.put_other _ _ _ _ h1, Mem.set_app, if_neg h1]
  exact hn i (by omega)

/-- w' is w and one block more (and perhaps some draws). -/
structure Grow1 (w w' : World) (o : Obj) : Prop where
  os : w'.os = w.os
  tape : w'.tape = w.tape
  output : w'.output = w.output
  size : w'.heap.size = w.heap.size + 1
  old : ∀ k, k < w.heap.size → w'.heap[k]? = w.heap[k]?
  new : w'.heap[w.heap.size]? = some o

theorem Grow1.alloc (w : World) (o : Obj) : Grow1 w (w.alloc o) o :=
  ⟨rfl, rfl, rfl, by simp, fun k hk => Below.heap_alloc w o k hk, Go.heap_alloc_new w o⟩
theorem Grow1.drew_alloc (w : World) (o : Obj) : Grow1 w (w.drew.alloc o) o :=
  ⟨rfl, rfl, rfl, by simp, fun k hk => Below.heap_alloc w.drew o k hk, heap_alloc_new w.drew o⟩
theorem Grow1.below {w w' : World} {o : Obj} (h : Grow1 w w' o) : Below w.heap.size w w' :=
  ⟨h.os, h.tape, h.output, by rw [h.size]; omega, h.old⟩

theorem rel_new {g : Gh} {M : Mem} {w w' : World} (h : Rel g M w) {id : Nat} (hg : g.blk id = none) (hM : M id = none) (hr0 : ¬ g.res id) {o : Obj} (hw : Grow1 w w' o) (blk : Blk) (sz cr : Nat)
    (hblk : ∀ g' w', Ev g w g' w' → g'.blk id = some (w.heap.size, sz, cr) → g'.w0.heap.size ≤ w.heap.size → w'.heap[w.heap.size]? = some o → (∀ o', ¬ g'.fz w.heap.size o') → BlkAt g' w' id blk) :
    Ev g w (g.put id (w.heap.size, sz, cr)) w' ∧ Rel (g.put id (w.heap.size, sz, cr)) (M.set id blk) w' := by
  have e : Ev g w (g.put id (w.heap.size, sz, cr)) w' :=
    ⟨rfl, rfl, fun i x hx => by
      by_cases hi : id = i
      · subst hi; rw [hg] at hx; cases hx
      · rw [Gh.put_other _ _ _ _ hi]; exact hx, fun _ _ hf => hf, fun b o' hf => World.cell?_of_block (hw.old b (cells_lt h hf)), rfl, fun i hr hb => by
      have hi : id ≠ i := fun e => hr0 (e ▸ hr)
      rw [Gh.put_other _ _ _ _ hi]; exact hb⟩
  refine ⟨e, ?_⟩
  have hnf : ∀ o', ¬ g.fz w.heap.size o' := fun o' hf => by have := cells_lt h hf; omega
  exact {
    blk := fun i b hb => by
      rw [Mem.set_app] at hb
      by_cases hi : id = i
      · subst hi
        rw [if_pos rfl, Option.some.injEq] at hb
        subst hb
        exact hblk _ _ e (Gh.put_same _ _ _) (h.below.size) hw.new hnf
      · rw [if_neg hi] at hb
        exact (h.blk i b hb).ev e (fun x hx => hw.old _ (h.lt _ _ hx)) (fun _ _ _ ho => ho)
    inj := fun i j bi bj hi hj x y hx hy hxy => by
      rw [Mem.set_app] at hi hj
      by_cases h1 : id = i
      · by_cases h2 : id = j
        · rw [← h1, ← h2]
        · subst h1
          rw [if_neg h2] at hj
          rw [Gh.put_same, Option.some.injEq] at hx
          rw [Gh.put_other _ _ _ _ h2] at hy
          have := h.lt _ _ hy
          rw [← hxy, ← hx] at this
          omega
      · rw [if_neg h1] at hi
        rw [Gh.put_other _ _ _ _ h1] at hx
        by_cases h2 : id = j
        · subst h2
          rw [Gh.put_same, Option.some.injEq] at hy
          have := h.lt _ _ hx
          rw [hxy, ← hy] at this
          omega
        · rw [if_neg h2] at hj
          rw [Gh.put_other _ _ _ _ h2] at hy
          exact h.inj i j bi bj hi hj x y hx hy hxy
    lt := fun i x hx => by
      by_cases h1 : id = i
      · subst h1
        rw [Gh.put_same, Option.some.injEq] at hx
        subst hx
        rw [hw.size]
        exact Nat.lt_succ_self _
      · rw [Gh.put_other _ _ _ _ h1] at hx
        have := h.lt _ _ hx
        rw [hw.size]; omega
    fz := fun b o' hf => by
      obtain ⟨v, hv⟩ := h.fz b o' hf
      exact ⟨v, (e.cell b o' hf).trans hv⟩
    fin := fin_set h _ _ _
    below := h.below.trans (hw.below.mono h.below.size) }

theorem rel_new_cells {g : Gh} {M : Mem} {w w' : World} (h : Rel g M w) {id : Nat} (hg : g.blk id = none) (hM : M id = none) (hr0 : ¬ g.res id) {cur : Array Value} {T : TypeId} (hw : Grow1 w w' (.cells cur T (0, 0)))
    (rows : List (List Lf)) (sz cr : Nat) (hcur : cur.size = cr * sz) (hcr : rows.length ≤ cr) (hm : cr ≤ maxLen) (hr : RowsAt g w rows sz cur) (hsz : sz = szOf g.P T) :
    Ev g w (g.put id (w.heap.size, sz, cr)) w' ∧ Rel (g.put id (w.heap.size, sz, cr)) (M.set id (.cells T rows 0)) w' :=
  rel_new h hg hM hr0 hw (.cells T rows 0) sz cr fun g' w' e h1 h2 h3 h4 => ⟨w.heap.size, sz, cr, cur, h1, h2, h3, hcur, hcr, hr.ev e, fun o ho => absurd ho (h4 o), hm, by rw [e.P]; exact hsz⟩

theorem rel_new_map {g : Gh} {M : Mem} {w w' : World} (h : Rel g M w) {id : Nat} (hg : g.blk id = none) (hM : M id = none) (hr0 : ¬ g.res id) (hw : Grow1 w w' (.map #[] 0)) :
    Ev g w (g.put id (w.heap.size, 0, 0)) w' ∧ Rel (g.put id (w.heap.size, 0, 0)) (M.set id (.map [])) w' :=
  rel_new h hg hM hr0 hw (.map []) 0 0 fun g' w' e h1 h2 h3 h4 => ⟨w.heap.size, 0, 0, #[], 0, h1, h2, h3, rfl, fun i p en a => by simp at a⟩

/-- A live block is written (its object is another one). -/
structure Wrote (w w' : World) (b : Nat) (o : Obj) : Prop where
  os : w'.os = w.os
  tape : w'.tape = w.tape
  output : w'.output = w.output
  size : w'.heap.size = w.heap.size
  old : ∀ k, k ≠ b → w'.heap[k]? = w.heap[k]?
  new : w'.heap[b]? = some o

theorem Wrote.setRow {w : World} {b : Nat} {cur cur' : Array Value} {T : TypeId} {fr : Nat × Nat} (hb : w.heap[b]? = some (.cells cur T fr)) : Wrote w (w.setRow b cur') b (.cells cur' T fr) :=
  ⟨rfl, rfl, rfl, by simp, fun k hk => setRow_other w b k cur' hk, setRow_heap w b cur cur' T fr hb⟩
theorem Wrote.setObj {w : World} {b : Nat} (hb : b < w.heap.size) (o : Obj) : Wrote w { w with heap := w.heap.setIfInBounds b o } b o :=
  ⟨rfl, rfl, rfl, by simp, fun k hk => by simp [Array.getElem?_setIfInBounds, Ne.symm hk], by simp [Array.getElem?_setIfInBounds, hb]⟩

theorem rel_wrote {g : Gh} {M : Mem} {w w' : World} (h : Rel g M w) {id : Nat} {old blk : Blk} (hM : M id = some old) {x : Nat × Nat × Nat} (hx : g.blk id = some x) {o : Obj} (hw : Wrote w w' x.1 o)
    (hf : ∀ o', g.fz x.1 o' → w'.cell? ⟨x.1, o', none⟩ = w.cell? ⟨x.1, o', none⟩)
    (hblk : ∀ g' w', Ev g w g' w' → g'.blk id = some x → g'.w0.heap.size ≤ x.1 → w'.heap[x.1]? = some o → (∀ o', g'.fz x.1 o' → g.fz x.1 o') → BlkAt g' w' id blk) :
    Ev g w g w' ∧ Rel g (M.set id blk) w' := by
  have hbase : g.w0.heap.size ≤ x.1 := by
    obtain ⟨y, hy, _, h2⟩ := (h.blk id old hM).lt
    rw [hx, Option.some.injEq] at hy
    subst hy
    exact h2
  have e : Ev g w g w' := ⟨rfl, rfl, fun _ _ h => h, fun _ _ h => h, fun b o' hfz => by
    by_cases hb : b = x.1
    · subst hb; exact hf o' hfz
    · exact World.cell?_of_block (hw.old b hb), rfl, fun _ _ h => h⟩
  refine ⟨e, ?_⟩
  exact {
    blk := fun i b hb => by
      rw [Mem.set_app] at hb
      by_cases hi : id = i
      · subst hi
        rw [if_pos rfl, Option.some.injEq] at hb
        subst hb
        exact hblk _ _ e hx hbase hw.new (fun _ ho => ho)
      · rw [if_neg hi] at hb
        exact (h.blk i b hb).ev e (fun y hy => hw.old _ (fun he => hi (h.inj id i old b hM hb x y hx hy he.symm))) (fun _ _ _ ho => ho)
    inj := fun i j bi bj hi hj => by
      rw [Mem.set_app] at hi hj
      have key : ∀ k bk, (if id = k then some blk else M k) = some bk → ∃ bk', M k = some bk' := fun k bk hk => by
        by_cases hi : id = k
        · subst hi; exact ⟨_, hM⟩
        · rw [if_neg hi] at hk; exact ⟨_, hk⟩
      obtain ⟨b1, h1⟩ := key i bi hi
      obtain ⟨b2, h2⟩ := key j bj hj
      exact h.inj i j b1 b2 h1 h2
    lt := fun i y hy => by rw [hw.size]; exact h.lt i y hy
    fz := fun b o' hfz => by
      obtain ⟨v, hv⟩ := h.fz b o' hfz
      exact ⟨v, (e.cell b o' hfz).trans hv⟩
    fin := by
      obtain ⟨n, hn⟩ := h.fin
      refine ⟨max n (id + 1), fun i hi => ?_⟩
      have h1 : id ≠ i := by omega
      rw [Mem.set_app, if_neg h1]
      exact hn i (by omega)
    below := h.below.trans ⟨hw.os, hw.tape, hw.output, by rw [hw.size]; exact Nat.le_refl _, fun k hk => hw.old k (by omega)⟩ }

theorem rel_wrote_cells {g : Gh} {M : Mem} {w w' : World} (h : Rel g M w) {id : Nat} {T : TypeId} {rows rows' : List (List Lf)} {keep : Nat} (hM : M id = some (.cells T rows keep)) {b sz cr : Nat}
    (hx : g.blk id = some (b, sz, cr)) {cur cur' : Array Value} (hcur : w.heap[b]? = some (.cells cur T (0, 0))) (hw : Wrote w w' b (.cells cur' T (0, 0)))
    (hs : cur'.size = cr * sz) (hl : rows'.length ≤ cr) (hm : cr ≤ maxLen) (hkeep : ∀ o, o < keep * sz → cur'[o]? = cur[o]?)
    (hr : RowsAt g w rows' sz cur') (hfz : ∀ o, g.fz b o → o < keep * sz) (hsz : sz = szOf g.P T) :
    Ev g w g w' ∧ Rel g (M.set id (.cells T rows' keep)) w' :=
  rel_wrote h hM hx hw (fun o' ho => by simp only [World.cell?, hw.new, hcur]; exact hkeep o' (hfz o' ho))
    fun g' w' e h1 h2 h3 h4 => ⟨b, sz, cr, cur', h1, h2, h3, hs, hl, hr.ev e, fun o ho => hfz o (h4 o ho), hm, by rw [e.P]; exact hsz⟩

/-- Rows of a live block are never written again. -/
def Gh.frz (g : Gh) (b n : Nat) : Gh := { g with fz := fun b' o => g.fz b' o ∨ (b' = b ∧ o < n) }

theorem rel_frz {g : Gh} {M : Mem} {w : World} (h : Rel g M w) {id : Nat} {T : TypeId} {rows : List (List Lf)} {keep : Nat} (hM : M id = some (.cells T rows keep)) {b sz cr : Nat} (hx : g.blk id = some (b, sz, cr)) :
    Ev g w (g.frz b (rows.length * sz)) w ∧ Rel (g.frz b (rows.length * sz)) (M.set id (.cells T rows (max keep rows.length))) w ∧
    ∀ off len cap, off + len ≤ rows.length → len ≤ cap → Conc (g.frz b (rows.length * sz)) w (.sl ((rows.drop off).take len)) (.slice (some ⟨b, off * sz, none⟩) len cap) := by
  obtain ⟨b', sz', cr', cur, h1, h2, h3, h4, h5, h6, h7, h8, h9⟩ := h.blk id _ hM
  rw [hx, Option.some.injEq, Prod.mk.injEq, Prod.mk.injEq] at h1
  obtain ⟨rfl, rfl, rfl⟩ := h1
  have hcell : ∀ o, o < rows.length * sz → ∃ v, w.cell? ⟨b, o, none⟩ = some v := fun o ho => by
    have hlt : o < cur.size := by
      rw [h4]
      exact Nat.lt_of_lt_of_le ho (Nat.mul_le_mul_right _ h5)
    exact ⟨cur[o], by simp [World.cell?, h3, hlt]⟩
  have e : Ev g w (g.frz b (rows.length * sz)) w := ⟨rfl, rfl, fun _ _ h => h, fun _ _ h => .inl h, fun _ _ _ => rfl, rfl, fun _ _ h => h⟩
  have hrel : Rel (g.frz b (rows.length * sz)) (M.set id (.cells T rows (max keep rows.length))) w := {
    blk := fun i blk hb => by
      rw [Mem.set_app] at hb
      by_cases hi : id = i
      · subst hi
        rw [if_pos rfl, Option.some.injEq] at hb
        subst hb
        refine ⟨b, sz, cr, cur, hx, h2, h3, h4, h5, h6.ev e, fun o ho => ?_, h8, h9⟩
        rcases ho with ho | ⟨_, ho⟩
        · exact Nat.lt_of_lt_of_le (h7 o ho) (Nat.mul_le_mul_right _ (Nat.le_max_left _ _))
        · exact Nat.lt_of_lt_of_le ho (Nat.mul_le_mul_right _ (Nat.le_max_right _ _))
      · rw [if_neg hi] at hb
        refine (h.blk i blk hb).ev e (fun _ _ => rfl) (fun y hy o ho => ?_)
        rcases ho with ho | ⟨he, _⟩
        · exact ho
        · exact absurd (h.inj id i _ blk hM hb _ y hx hy he.symm) hi
    inj := fun i j bi bj hi hj => by
      rw [Mem.set_app] at hi hj
      have key : ∀ k bk, (if id = k then some (Blk.cells T rows (max keep rows.length)) else M k) = some bk → ∃ bk', M k = some bk' := fun k bk hk => by
        by_cases hi : id = k
        · subst hi; exact ⟨_, hM⟩
        · rw [if_neg hi] at hk; exact ⟨_, hk⟩
      obtain ⟨b1, h1⟩ := key i bi hi
      obtain ⟨b2, h2⟩ := key j bj hj
      exact h.inj i j b1 b2 h1 h2
    lt := h.lt
    fz := fun b' o ho => by
      rcases ho with ho | ⟨rfl, ho⟩
      · exact h.fz b' o ho
      · exact hcell o ho
    fin := by
      obtain ⟨n, hn⟩ := h.fin
      refine ⟨max n (id + 1), fun i hi => ?_⟩
      have h1 : id ≠ i := by omega
      rw [Mem.set_app, if_neg h1]
      exact hn i (by omega)
    below := h.below }
  refine ⟨e, hrel, fun off len cap hol hc => ?_⟩
  have hlen : ((rows.drop off).take len).length = len := by simp; omega
  have hmem : ∀ r ∈ (rows.drop off).take len, r.length = sz := fun r hr => h6.1 r (List.mem_of_mem_drop (List.mem_of_mem_take hr))
  have hbound : ∀ i, i < len * sz → off * sz + i < rows.length * sz := fun i hi => by
    have : (off + len) * sz ≤ rows.length * sz := Nat.mul_le_mul_right _ hol
    rw [Nat.add_mul] at this
    omega
  have hgoal := Conc.sl (g := g.frz b (rows.length * sz)) (w := w) (rows := (rows.drop off).take len) (b := b) (o := off * sz) (sz := sz) (cap := cap)
    (fun i => (w.cell? ⟨b, off * sz + i, none⟩).getD undef) hmem (by rw [hlen]; exact hc)
    (fun i hi => by
      rw [hlen] at hi
      obtain ⟨v, hv⟩ := hcell _ (hbound i hi)
      exact ⟨.inr ⟨rfl, hbound i hi⟩, by rw [hv]; rfl⟩)
    (fun i j r x hr hx' => by
      rw [List.getElem?_take] at hr
      split at hr
      · rename_i hil
        rw [List.getElem?_drop] at hr
        obtain ⟨v, hv, hcv⟩ := h6.2 (off + i) j r x hr hx'
        have hadd : off * sz + (i * sz + j) = (off + i) * sz + j := by rw [Nat.add_mul]; omega
        have hc' : w.cell? ⟨b, off * sz + (i * sz + j), none⟩ = some v := by
          rw [hadd]
          simp [World.cell?, h3, hv]
        simp only [hc', Option.getD_some]
        exact hcv.ev e
      · cases hr)
  rw [hlen] at hgoal
  exact hgoal

end Go.X
