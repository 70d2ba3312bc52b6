/- The program logic: append, make, literals. -/
import Derived.Test.YthgppaccdlcaiaaXe
import Derived.Deep.AppendSrc
set_option linter.unusedVariables false
set_option linter.unusedSimpArgs false
set_option linter.unusedSectionVars false
namespace Go.X
open Go.RowKit

/-- A new id is given: none of the live ones stands at it or above. -/
def newK (M : Mem) (K : Nat → Prop) : Prop := ∀ id, (∀ j, id ≤ j → M j = none) → K id
theorem newK_intro {M : Mem} {K : Nat → Prop} (h : ∀ id, (∀ j, id ≤ j → M j = none) → K id) : newK M K := h
theorem newK_congr {M M' : Mem} {K : Nat → Prop} (h : M = M') : newK M K = newK M' K := by rw [h]

theorem newK_pick {g : Gh} {M : Mem} {w : World} (hR : Rel g M w) {K : Nat → Prop} (h : newK M K) : ∃ id, g.blk id = none ∧ M id = none ∧ ¬ g.res id ∧ K id := by
  obtain ⟨n, hn⟩ := hR.fin
  exact ⟨n, (hn n (Nat.le_refl _)).1, (hn n (Nat.le_refl _)).2.1, (hn n (Nat.le_refl _)).2.2, h n fun j hj => (hn j hj).2.1⟩

/-! ### one row: a box -/
theorem rowsAt_one {g : Gh} {w : World} {cs : List Lf} {vs : List Value} (h : ConcL g w cs vs) : RowsAt g w [cs] cs.length vs.toArray := by
  refine ⟨fun r hr => by simp at hr; rw [hr], fun i j r x hr hx => ?_⟩
  cases i with
  | zero =>
    simp only [List.getElem?_cons_zero, Option.some.injEq] at hr
    subst hr
    obtain ⟨v, hv, hc⟩ := h.get hx
    exact ⟨v, by simpa using hv, hc⟩
  | succ i => simp at hr

theorem rel_box {g : Gh} {M : Mem} {w : World} (hR : Rel g M w) {id : Nat} (hg : g.blk id = none) (hM : M id = none) (hr0 : ¬ g.res id) (T : TypeId) {cs : List Lf} {vs : List Value} (h : ConcL g w cs vs) (hsz : cs.length = szOf g.P T) :
    Ev g w (g.put id (w.heap.size, cs.length, 1)) (w.alloc (.cells vs.toArray T (0, 0))) ∧ Rel (g.put id (w.heap.size, cs.length, 1)) (M.set id (.cells T [cs] 0)) (w.alloc (.cells vs.toArray T (0, 0))) ∧
    Conc (g.put id (w.heap.size, cs.length, 1)) (w.alloc (.cells vs.toArray T (0, 0))) (.ptr id 0 0) (.pointer (some ⟨w.heap.size, 0, none⟩)) := by
  obtain ⟨e, r⟩ := rel_new_cells hR hg hM hr0 (Grow1.alloc w (.cells vs.toArray T (0, 0))) [cs] cs.length 1 (by simp [h.1]) (by simp) (by simp [maxLen]) (rowsAt_one h) hsz
  refine ⟨e, r, ?_⟩
  have := Conc.ptr (w := w.alloc (.cells vs.toArray T (0, 0))) (r := 0) (c := 0) (Gh.put_same g id (w.heap.size, cs.length, 1))
  simpa using this

theorem run_alloc' {P : Program} {T : TypeId} {i : TI} (hti : tiOf P T = some i) {cs : List Lf} (hz : avCells i.zero = some cs) (g : Gh) (w : World) :
    ∃ vs : List Value, ConcL g w cs vs ∧ (Instr.alloc T true (.tuple #[])).run P w = .ok (.pointer (some ⟨w.heap.size, 0, none⟩)) (w.alloc (.cells vs.toArray T (0, 0))) := by
  obtain ⟨inf, d, z, hinf, hd, hzz, hs, _, _, hza, _⟩ := ti_spec hti
  have hc := conc_absV g w z
  rw [← hza] at hc
  refine ⟨z.cells.toList, avCells_conc hc hz, ?_⟩
  simp [Instr.alloc, run_zeroValue' hinf hzz, newVar, newRow]

theorem run_box' {P : Program} (T : TypeId) (g : Gh) (w : World) (v : Value) :
    (Instr.box T v).run P w = .ok (.pointer (some ⟨w.heap.size, 0, none⟩)) (w.alloc (.cells v.cells.toList.toArray T (0, 0))) := by
  simp [Instr.box, newVar, newRow]

/-! ### the source of an append -/
def srcRows (P : Program) (M : Mem) (t tx e : TypeId) (te : TI) (x : AV) : Option (List (List Lf)) :=
  if t = tx then
    match x with
    | .l (.sl rows) => if ∀ r ∈ rows, r.length = te.size then some rows else none
    | .l .nils => some []
    | .l (.ms id off len) => match M id with
      | some (.cells T rows _) => if T = e ∧ off + len ≤ rows.length then some ((rows.drop off).take len) else none
      | _ => none
    | _ => none
  else match tiOf P tx, x with
    | some tj, .l (.str s) => match tj.d with
      | .string => if te.size = 1 then some (s.data.toList.map fun b => [.int .u8 b.toNat]) else none
      | _ => none
    | _, _ => none

theorem flat_get {α : Type} {rows : List (List α)} {sz : Nat} (h : ∀ r ∈ rows, r.length = sz) : ∀ (i j : Nat) (r : List α), rows[i]? = some r → j < sz → rows.flatten[i * sz + j]? = r[j]? := by
  induction rows with
  | nil => intro i j r hr; simp at hr
  | cons r0 rows ih =>
    intro i j r hr hj
    have h0 : r0.length = sz := h r0 (by simp)
    cases i with
    | zero =>
      simp only [List.getElem?_cons_zero, Option.some.injEq] at hr
      subst hr
      rw [List.flatten_cons, List.getElem?_append_left (by omega)]
      simp
    | succ i =>
      have := ih (fun r hr => h r (by simp [hr])) i j r (by simpa using hr) hj
      rw [List.flatten_cons, List.getElem?_append_right (by rw [h0, Nat.add_mul, Nat.one_mul]; omega), h0, Nat.add_mul, Nat.one_mul]
      rw [show i * sz + sz + j - sz = i * sz + j by omega]
      exact this
theorem flat_len {α : Type} {rows : List (List α)} {sz : Nat} (h : ∀ r ∈ rows, r.length = sz) : rows.flatten.length = rows.length * sz := by
  induction rows with
  | nil => simp
  | cons r0 rows ih => simp [ih (fun r hr => h r (by simp [hr])), h r0 (by simp), Nat.add_mul]; omega

theorem rowsAt_flat {g : Gh} {w : World} {rows : List (List Lf)} {sz : Nat} (hs : ∀ r ∈ rows, r.length = sz) {vs rest : List Value} (h : ConcL g w rows.flatten vs) : RowsAt g w rows sz (vs ++ rest).toArray := by
  refine ⟨hs, fun i j r x hr hx => ?_⟩
  have hj : j < sz := by rw [← hs r (List.mem_of_getElem? hr)]; exact (List.getElem?_eq_some_iff.1 hx).1
  have := flat_get hs i j r hr hj
  rw [hx] at this
  obtain ⟨v, hv, hc⟩ := h.get this
  refine ⟨v, ?_, hc⟩
  have hlt := (List.getElem?_eq_some_iff.1 hv).1
  simp only [List.getElem?_toArray]
  rw [List.getElem?_append_left hlt]
  exact hv

/-- The cells of a slice that can be read. -/
theorem conc_sl_cells {g : Gh} {w : World} {rows : List (List Lf)} {b o len cap sz : Nat} (hc : Conc g w (.sl rows) (.slice (some ⟨b, o, none⟩) len cap)) (hs : ∀ r ∈ rows, r.length = sz) : CellsAt g w b o rows.flatten := by
  cases hc with
  | sl0 => exact ⟨[], ⟨rfl, fun i x v hx => by simp at hx⟩, fun j v hj => by simp at hj⟩
  | sl cs hsz hcap h hcc =>
    rename_i sz'
    by_cases hne : rows = []
    · subst hne
      exact ⟨[], ⟨rfl, fun i x v hx => by simp at hx⟩, fun j v hj => by simp at hj⟩
    · have hsz' : sz' = sz := by
        obtain ⟨r, hr⟩ := List.exists_mem_of_ne_nil rows hne
        exact (hsz r hr).symm.trans (hs r hr)
      subst hsz'
      have hfl := flat_len hs
      refine ⟨(List.range rows.flatten.length).map cs, ⟨by simp, fun k x v hx hv => ?_⟩, fun j v hj => ?_⟩
      · have hk := (List.getElem?_eq_some_iff.1 hx).1
        rw [List.getElem?_map, List.getElem?_range hk] at hv
        simp only [Option.map_some, Option.some.injEq] at hv
        subst hv
        rw [hfl] at hk
        have hpos : 0 < sz' := by
          rcases Nat.eq_zero_or_pos sz' with h0 | h0
          · subst h0; simp at hk
          · exact h0
        have hdm : k / sz' * sz' + k % sz' = k := by rw [Nat.mul_comm]; exact Nat.div_add_mod k sz'
        have hi : k / sz' < rows.length := (Nat.div_lt_iff_lt_mul hpos).2 hk
        have hj := Nat.mod_lt k hpos
        have hrow : rows[k / sz']? = some rows[k / sz'] := List.getElem?_eq_getElem hi
        have := flat_get hs (k / sz') (k % sz') _ hrow hj
        rw [hdm, hx] at this
        have hres := hcc (k / sz') (k % sz') _ x hrow this.symm
        rw [hdm] at hres
        exact hres
      · have hk : j < rows.flatten.length := by
          have := (List.getElem?_eq_some_iff.1 hj).1
          simpa using this
        rw [List.getElem?_map, List.getElem?_range hk] at hj
        simp only [Option.map_some, Option.some.injEq] at hj
        subst hj
        rw [hfl] at hk
        exact (h j hk).2

theorem cells_of_ms {g : Gh} {M : Mem} {w : World} (hR : Rel g M w) {id off len T keep : Nat} {rows : List (List Lf)} (hM : M id = some (.cells T rows keep)) (hl : off + len ≤ rows.length)
    {b cr : Nat} {sz' : Nat} (hx : g.blk id = some (b, sz', cr)) : CellsAt g w b (off * sz') ((rows.drop off).take len).flatten := by
  obtain ⟨b', sz'', cr', cur, g1, g2, g3, g4, g5, g6, g7, g8, g9⟩ := hR.blk id _ hM
  rw [hx, Option.some.injEq, Prod.mk.injEq, Prod.mk.injEq] at g1
  obtain ⟨rfl, rfl, rfl⟩ := g1
  have hs' : ∀ r ∈ (rows.drop off).take len, r.length = sz' := fun r hr => g6.1 r (List.mem_of_mem_drop (List.mem_of_mem_take hr))
  have hfl := flat_len hs'
  have hlen : ((rows.drop off).take len).length = len := by simp; omega
  rw [hlen] at hfl
  have hb : (off + len) * sz' ≤ cur.size := by rw [g4]; exact Nat.mul_le_mul_right _ (by omega)
  rw [Nat.add_mul] at hb
  refine ⟨(cur.toList.drop (off * sz')).take (len * sz'), ⟨by simp [hfl]; omega, fun k x v hx hv => ?_⟩, fun j v hj => ?_⟩
  · have hk := (List.getElem?_eq_some_iff.1 hx).1
    rw [hfl] at hk
    rw [List.getElem?_take, if_pos hk, List.getElem?_drop] at hv
    have hpos : 0 < sz' := by
      rcases Nat.eq_zero_or_pos sz' with h0 | h0
      · subst h0; simp at hk
      · exact h0
    have hdm : k / sz' * sz' + k % sz' = k := by rw [Nat.mul_comm]; exact Nat.div_add_mod k sz'
    have hi : k / sz' < len := (Nat.div_lt_iff_lt_mul hpos).2 hk
    have hj := Nat.mod_lt k hpos
    have hrow : ((rows.drop off).take len)[k / sz']? = some ((rows.drop off).take len)[k / sz'] := List.getElem?_eq_getElem (by omega)
    have hfg := flat_get hs' (k / sz') (k % sz') _ hrow hj
    rw [hdm, hx] at hfg
    have hrow' : rows[off + k / sz']? = some ((rows.drop off).take len)[k / sz'] := by
      rw [← hrow, List.getElem?_take, if_pos hi, List.getElem?_drop]
    obtain ⟨u, hu, hcu⟩ := g6.2 _ _ _ x hrow' hfg.symm
    have hadd : (off + k / sz') * sz' + k % sz' = off * sz' + k := by rw [Nat.add_mul]; omega
    rw [hadd] at hu
    have : cur.toList[off * sz' + k]? = cur[off * sz' + k]? := by simp
    rw [this, hu, Option.some.injEq] at hv
    subst hv
    exact hcu
  · rw [List.getElem?_take] at hj
    split at hj
    · rw [List.getElem?_drop] at hj
      simp only [World.cell?, g3]
      simpa using hj
    · cases hj

theorem src_spec {P : Program} {g : Gh} {M : Mem} {w : World} (hP : g.P = P) (hR : Rel g M w) {t tx e : TypeId} {te : TI} (ht : P.underlying t = some (.slice e)) (hte : tiOf P e = some te) {inf : TypeInfo} (hi : P.info? e = some inf) {x : AV} {cx : Value} (hx : ConcA g w x cx) {rows : List (List Lf)}
    (h : srcRows P M t tx e te x = some rows) : ∃ news : List Value, Src P inf.size tx cx rows.length news w ∧ ConcL g w rows.flatten news ∧ ∀ r ∈ rows, r.length = inf.size := by
  obtain ⟨inf', d, z, hinf, hd, hz, hs, _, _, hza, _⟩ := ti_spec hte
  rw [hi, Option.some.injEq] at hinf
  subst hinf
  unfold srcRows at h
  split at h
  · rename_i heq
    subst heq
    have hempty : ∀ (a : Option Addr) (cap : Nat), Src P inf.size t (.slice a 0 cap) 0 [] w := fun a cap => by
      cases a with
      | none => exact Src.ofNil w ht cap
      | some a => exact Src.ofSlice w ht a 0 cap [] (by simp) (fun j u hu => by simp at hu) (fun u hu => by simp at hu)
    split at h
    · split at h
      · rename_i hr
        simp only [Option.some.injEq] at h
        subst h
        rename_i rows'
        cases hx with
        | l hx =>
          by_cases hne : rows' = []
          · subst hne
            obtain ⟨a, cap, rfl, _⟩ := conc_sl hx
            exact ⟨[], hempty a cap, ConcL.nil g w, fun r hr => by simp at hr⟩
          · obtain ⟨r0, hr0⟩ := List.exists_mem_of_ne_nil rows' hne
            obtain ⟨k, hk, hk'⟩ := List.getElem_of_mem hr0
            obtain ⟨b, o, cap, rfl, _, _⟩ := conc_sl_row hx (List.getElem?_eq_getElem hk)
            have hrs : ∀ r ∈ rows', r.length = inf.size := fun r hr' => (hr r hr').trans hs
            obtain ⟨vs, hv, hcell⟩ := conc_sl_cells hx hrs
            refine ⟨vs, Src.ofSlice w ht ⟨b, o, none⟩ _ cap vs (by rw [← hv.1, flat_len hrs]) (fun j u hu => by rw [addr_add]; exact hcell j u hu) hv.one, hv, hrs⟩
      · cases h
    · simp only [Option.some.injEq] at h
      subst h
      cases hx with
      | l hx =>
        cases hx with
        | nils => exact ⟨[], hempty _ 0, ConcL.nil g w, fun r hr => by simp at hr⟩
    · rename_i id off len
      split at h
      · rename_i T rows' keep hM
        split at h
        · rename_i hc
          simp only [Option.some.injEq] at h
          subst h
          cases hx with
          | l hx =>
            cases hx with
            | ms hxb h1 h2 =>
              rename_i b sz cr cap
              obtain ⟨rfl, hc⟩ := hc
              obtain ⟨b', sz', cr', cur, g1, g2, g3, g4, g5, g6, g7, g8, g9⟩ := hR.blk id _ hM
              have hrs : ∀ r ∈ rows', r.length = inf.size := fun r hr' => by rw [g6.1 r hr', g9, hP]; simp [szOf, hi]
              have hrs' : ∀ r ∈ (rows'.drop off).take len, r.length = inf.size := fun r hr => hrs r (List.mem_of_mem_drop (List.mem_of_mem_take hr))
              obtain ⟨vs, hv, hcell⟩ := cells_of_ms hR hM hc hxb
              have hlen : ((rows'.drop off).take len).length = len := by simp; omega
              refine ⟨vs, ?_, hv, hrs'⟩
              rw [hlen]
              exact Src.ofSlice w ht ⟨b, off * sz, none⟩ len cap vs (by rw [← hv.1, flat_len hrs', hlen]) (fun j u hu => by rw [addr_add]; exact hcell j u hu) hv.one
        · cases h
      · cases h
    · cases h
  · split at h
    · rename_i tj s htj
      split at h
      · rename_i hstr
        split at h
        · rename_i hone
          simp only [Option.some.injEq] at h
          subst h
          obtain ⟨infj, dj, zj, hinfj, hdj, hzj, _, _, _, _, hddj⟩ := ti_spec htj
          rw [hddj] at hstr
          have := tdOf_string hstr
          subst this
          have := conc_str hx
          subst this
          have h1 : inf.size = 1 := by rw [← hs]; exact hone
          refine ⟨byteCells s, ?_, ⟨?_, fun k x v hk hv => ?_⟩, fun r hr => ?_⟩
          · rw [h1, List.length_map, Array.length_toList]
            exact Src.ofString w hdj s
          · simp only [byteCells, List.length_map]
            rw [flat_len (sz := 1) (fun r hr => by obtain ⟨_, _, rfl⟩ := List.mem_map.1 hr; rfl)]
            simp
          · have hk1 : ∀ (l : List UInt8) (k : Nat) (x : Lf) (v : Value), (l.map fun b => [Lf.int .u8 b.toNat]).flatten[k]? = some x → (l.map fun b => Value.int .u8 b.toNat)[k]? = some v → Conc g w x v := by
              intro l
              induction l with
              | nil => intro k x v hk; simp at hk
              | cons b l ih =>
                intro k x v hk hv
                cases k with
                | zero => simp at hk hv; subst hk; subst hv; exact .int _ _
                | succ k => exact ih k x v (by simpa using hk) (by simpa using hv)
            exact hk1 s.data.toList k x v hk hv
          · obtain ⟨_, _, rfl⟩ := List.mem_map.1 hr
            simp [h1]
        · cases h
      · cases h
    · cases h

end Go.X
