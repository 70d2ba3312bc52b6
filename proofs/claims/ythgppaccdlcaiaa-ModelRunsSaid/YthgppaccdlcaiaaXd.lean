/- The program logic: single operations. -/
import Derived.Test.YthgppaccdlcaiaaXc
import Derived.Laws.StructEq
import Derived.Laws.Slices
import Derived.WalkSpells
set_option linter.unusedVariables false
set_option linter.unusedSimpArgs false
set_option linter.unusedSectionVars false
namespace Go.X
open Go.RowKit

/-! ### abstraction of constants -/
theorem conc_absL (g : Gh) (w : World) (v : Value) (h : v.oneCell' = true) : Conc g w (absL v) v := by
  unfold absL
  split <;> first
    | exact .int _ _ | exact .bool _ | exact .str _ | exact .nilp | exact .nils | exact .nilm | exact .nilf | exact .nili
    | exact .clo [] rfl (fun i x v hx => by simp at hx)
    | exact .tok _ h

theorem conc_absV (g : Gh) (w : World) (v : Value) : ConcA g w (absV v) v := by
  unfold absV
  split
  · rename_i cs
    split
    · rename_i hall
      have h := List.all_eq_true.1 hall
      refine .agg cs.toList ⟨by simp, fun i x v hx hv => ?_⟩
      rw [List.getElem?_map] at hx
      rw [hv] at hx
      simp only [Option.map_some, Option.some.injEq] at hx
      subst hx
      exact conc_absL g w v (h v (List.mem_of_getElem? hv))
    · exact .any _
  · exact .any _
  · rename_i h1 h2
    refine .l (conc_absL g w v ?_)
    cases v <;> first | rfl | (exact absurd rfl (h1 _)) | (exact absurd rfl (h2 _))

/-! ### the type's row -/
theorem ti_spec {P : Program} {t : TypeId} {i : TI} (h : tiOf P t = some i) : ∃ inf d z, P.info? t = some inf ∧ P.underlying t = some d ∧ inf.zero = some z ∧
    i.size = inf.size ∧ i.bytes = inf.bytes ∧ i.agg = tdAgg d ∧ i.zero = absV z ∧ i.d = tdOf d := by
  unfold tiOf at h
  split at h
  · rename_i inf hinf
    split at h
    · rename_i d z hd hz
      simp only [Option.some.injEq] at h
      subst h
      exact ⟨inf, d, z, hinf, hd, hz, rfl, rfl, rfl, rfl, rfl⟩
    · cases h
  · cases h

theorem run_isAgg' {P : Program} {t : TypeId} {d : TypeDesc} (h : P.underlying t = some d) (w : World) : (isAgg t).run P w = .ok (tdAgg d) w := by
  unfold isAgg
  rw [Sem.run_bind, run_underlying h w]
  cases d <;> rfl

theorem run_sizeOf' {P : Program} {t : TypeId} {inf : TypeInfo} (h : P.info? t = some inf) (w : World) : (sizeOf t).run P w = .ok inf.size w := by
  simp [sizeOf, typeInfo, h]
theorem run_typeInfo' {P : Program} {t : TypeId} {inf : TypeInfo} (h : P.info? t = some inf) (w : World) : (typeInfo t).run P w = .ok inf w := by
  simp [typeInfo, h]
theorem run_zeroValue' {P : Program} {t : TypeId} {inf : TypeInfo} {z : Value} (h : P.info? t = some inf) (hz : inf.zero = some z) (w : World) : (zeroValue t).run P w = .ok z w := by
  simp [zeroValue, typeInfo, h, hz]

/-! ### cells of a value -/
theorem avCells_conc {g : Gh} {w : World} {v : AV} {c : Value} {cs : List Lf} (h : ConcA g w v c) (hc : avCells v = some cs) : ConcL g w cs c.cells.toList := by
  cases h with
  | l h =>
    simp only [avCells, Option.some.injEq] at hc
    subst hc
    have h1 := h.one
    have : c.cells = #[c] := by cases c <;> first | rfl | simp [Value.oneCell'] at h1
    rw [this]
    exact ConcL.cons h (ConcL.nil g w)
  | agg vs h =>
    simp only [avCells, Option.some.injEq] at hc
    subst hc
    exact h
  | tup _ _ _ => simp [avCells] at hc
  | any _ => simp [avCells] at hc

/-! ### load -/
theorem run_load_at {P : Program} {g : Gh} {w : World} {t : TypeId} {i : TI} (hti : tiOf P t = some i) {b o : Nat} {xs : List Lf} (h : CellsAt g w b o xs) {v : AV} (hp : packV i.agg i.size xs = some v) :
    ∃ c, (loadVar t ⟨b, o, none⟩).run P w = .ok c w ∧ ConcA g w v c := by
  obtain ⟨inf, d, z, hinf, hd, hz, hs, hb, ha, hzz, hdd⟩ := ti_spec hti
  obtain ⟨vs, hv, hcell⟩ := h
  unfold packV at hp
  unfold loadVar
  simp only [Sem.run_bind, run_isAgg' hd, Result.andThen_ok, Sem.run_ite]
  rw [ha] at hp
  split at hp
  · rename_i hagg
    rw [if_pos hagg]
    split at hp
    · rename_i hle
      simp only [Option.some.injEq] at hp
      subst hp
      have hlen : (vs.take i.size).length = i.size := by rw [List.length_take, ← hv.1]; omega
      have hl := run_loadCells_list (P := P) w ⟨b, o, none⟩ (vs.take i.size) (fun j u hu => by
        rw [addr_add]
        rw [List.getElem?_take] at hu
        split at hu
        · exact hcell j u hu
        · cases hu)
      rw [hlen] at hl
      simp only [Sem.run_bind, run_sizeOf' hinf, Result.andThen_ok, ← hs, hl, Sem.run_pure]
      exact ⟨_, rfl, .agg _ (hv.take i.size)⟩
    · cases hp
  · rename_i hagg
    rw [if_neg hagg]
    cases xs with
    | nil => simp at hp
    | cons x xs =>
      simp only [List.head?_cons, Option.map_some, Option.some.injEq] at hp
      subst hp
      obtain ⟨c, hc, hcx⟩ := hv.get (i := 0) (x := x) rfl
      have := hcell 0 c hc
      simp only [Nat.add_zero] at this
      refine ⟨c, ?_, .l hcx⟩
      rw [run_load, this]

theorem cells_of_row {g : Gh} {M : Mem} {w : World} (h : Rel g M w) {id r c : Nat} {xs : List Lf} (hr : rowOf M id r c = some xs) {b sz cr : Nat} (hx : g.blk id = some (b, sz, cr)) : CellsAt g w b (r * sz + c) xs := by
  unfold rowOf at hr
  split at hr
  · rename_i T rows keep hM
    obtain ⟨b', sz', cr', cur, h1, h2, h3, h4, h5, h6, h7, h8, h9⟩ := h.blk id _ hM
    rw [hx, Option.some.injEq, Prod.mk.injEq, Prod.mk.injEq] at h1
    obtain ⟨rfl, rfl, rfl⟩ := h1
    cases hrow : rows[r]? with
    | none => rw [hrow] at hr; cases hr
    | some row =>
      rw [hrow] at hr
      simp only [Option.map_some, Option.some.injEq] at hr
      subst hr
      have hlen : row.length = sz := h6.1 row (List.mem_of_getElem? hrow)
      have hrr := (List.getElem?_eq_some_iff.1 hrow).1
      have hbound : (r + 1) * sz ≤ cur.size := by rw [h4]; exact Nat.mul_le_mul_right _ (by omega)
      rw [Nat.add_mul, Nat.one_mul] at hbound
      refine CellsAt.drop (xs := row) ⟨(cur.toList.drop (r * sz)).take sz, ⟨?_, fun j x v hx' hv => ?_⟩, fun j v hj => ?_⟩ c
      · simp only [List.length_take, List.length_drop, Array.length_toList]
        omega
      · rw [List.getElem?_take] at hv
        split at hv
        · rw [List.getElem?_drop] at hv
          obtain ⟨u, hu, hcu⟩ := h6.2 r j row x hrow hx'
          have : cur.toList[r * sz + j]? = cur[r * sz + j]? := by simp
          rw [this, hu, Option.some.injEq] at hv
          subst hv
          exact hcu
        · cases hv
      · rw [List.getElem?_take] at hj
        split at hj
        · rw [List.getElem?_drop] at hj
          simp only [World.cell?, h3]
          simpa using hj
        · cases hj
  · cases hr

theorem run_loadA {P : Program} {g : Gh} {M : Mem} {w : World} (h : Rel g M w) {t : TypeId} {a v : AV} {ca : Value} (hc : ConcA g w a ca) (hl : loadA P M t a = some v) :
    ∃ c, (Instr.loadAt t ca).run P w = .ok c w ∧ ConcA g w v c := by
  unfold loadA at hl
  split at hl
  · rename_i i cells hti
    cases hc with
    | l hc =>
      obtain ⟨b, o, rfl, hcells⟩ := conc_rp hc
      obtain ⟨c, h1, h2⟩ := run_load_at hti hcells hl
      exact ⟨c, by simpa [Instr.loadAt, Instr.sureAddr] using h1, h2⟩
  · rename_i i id r c hti
    cases hc with
    | l hc =>
      cases hc with
      | ptr hx =>
        cases hr : rowOf M id r c with
        | none => rw [hr] at hl; cases hl
        | some xs =>
          rw [hr] at hl
          obtain ⟨c', h1, h2⟩ := run_load_at hti (cells_of_row h hr hx) hl
          exact ⟨c', by simpa [Instr.loadAt, Instr.sureAddr] using h1, h2⟩
  · cases hl

/-! ### store -/
theorem seg_get {α : Type} (l vs : List α) (k : Nat) (hk : k + vs.length ≤ l.length) (j : Nat) :
    (l.take k ++ vs ++ l.drop (k + vs.length))[j]? = if k ≤ j ∧ j < k + vs.length then vs[j - k]? else l[j]? := by
  have h1 : (l.take k).length = k := by simp; omega
  by_cases hj : j < k
  · rw [if_neg (by omega), List.append_assoc, List.getElem?_append_left (by omega), List.getElem?_take, if_pos hj]
  · by_cases hj2 : j < k + vs.length
    · rw [if_pos ⟨by omega, hj2⟩, List.append_assoc, List.getElem?_append_right (by omega), h1, List.getElem?_append_left (by omega)]
    · rw [if_neg (by omega), List.getElem?_append_right (by simp; omega), List.getElem?_drop]
      congr 1
      simp
      omega

theorem mul_lt_rows {r i sz : Nat} (h : r ≠ i) {j k : Nat} (hj : j < sz) (hk : k < sz) : r * sz + j ≠ i * sz + k := by
  intro he
  rcases Nat.lt_or_gt_of_ne h with hl | hl
  · have : (r + 1) * sz ≤ i * sz := Nat.mul_le_mul_right _ hl
    rw [Nat.add_mul] at this
    omega
  · have : (i + 1) * sz ≤ r * sz := Nat.mul_le_mul_right _ hl
    rw [Nat.add_mul] at this
    omega

theorem run_storeA {P : Program} {g : Gh} {M M' : Mem} {w : World} (h : Rel g M w) {t : TypeId} {a v : AV} {ca cv : Value} (hca : ConcA g w a ca) (hcv : ConcA g w v cv) (hs : storeA P M t a v = some M') :
    ∃ w', (Instr.storeAt t ca cv).run P w = .ok () w' ∧ Ev g w g w' ∧ Rel g M' w' := by
  unfold storeA at hs
  split at hs
  · rename_i id r c vs i hvs hti
    split at hs
    · rename_i T rows keep hM
      split at hs
      · rename_i row hrow
        split at hs
        · rename_i hcond
          obtain ⟨hlen, hfit, hkeep⟩ := hcond
          simp only [Option.some.injEq] at hs
          subst hs
          obtain ⟨inf, d, z, hinf, hd, hz, hsz, hby, hag, hzz, hdd⟩ := ti_spec hti
          cases hca with
          | l hca =>
            cases hca with
            | ptr hx =>
              rename_i b sz cr
              obtain ⟨b', sz', cr', cur, h1, h2, h3, h4, h5, h6, h7, h8, h9⟩ := h.blk id _ hM
              rw [hx, Option.some.injEq, Prod.mk.injEq, Prod.mk.injEq] at h1
              obtain ⟨rfl, rfl, rfl⟩ := h1
              have hcl := avCells_conc hcv hvs
              have hrowlen : row.length = sz := h6.1 row (List.mem_of_getElem? hrow)
              have hrr := (List.getElem?_eq_some_iff.1 hrow).1
              have hbound : (r + 1) * sz ≤ cur.size := by rw [h4]; exact Nat.mul_le_mul_right _ (by omega)
              rw [Nat.add_mul, Nat.one_mul] at hbound
              have hvl : cv.cells.toList.length = vs.length := hcl.1.symm
              have hseg : (r * sz + c) + 0 + cv.cells.toList.length ≤ cur.size := by rw [hvl]; omega
              have hst := run_storeCells_at P b (r * sz + c) T cv.cells.toList 0 cur w h3 hseg hcl.one
              simp only [Nat.add_zero] at hst
              refine ⟨w.setRow b (List.take (r * sz + c) cur.toList ++ cv.cells.toList ++ List.drop (r * sz + c + cv.cells.toList.length) cur.toList).toArray, ?_, ?_⟩
              · have hne : ¬ cv.cells.size ≠ inf.size := by
                  have : cv.cells.size = cv.cells.toList.length := by simp
                  rw [this, hvl, hlen, hsz]
                  simp
                simp only [Instr.storeAt, Instr.sureAddr, storeVar, Sem.run_bind, Sem.run_pure, Result.andThen_ok, run_sizeOf' hinf, if_neg hne, hst]
              · have hw := Wrote.setRow (w := w) (cur' := (List.take (r * sz + c) cur.toList ++ cv.cells.toList ++ List.drop (r * sz + c + cv.cells.toList.length) cur.toList).toArray) h3
                have hget : ∀ j, (List.take (r * sz + c) cur.toList ++ cv.cells.toList ++ List.drop (r * sz + c + cv.cells.toList.length) cur.toList).toArray[j]? =
                    if r * sz + c ≤ j ∧ j < r * sz + c + vs.length then cv.cells.toList[j - (r * sz + c)]? else cur[j]? := fun j => by
                  have := seg_get cur.toList cv.cells.toList (r * sz + c) (by simpa using hseg) j
                  rw [hvl] at this
                  simpa [hvl] using this
                refine rel_wrote_cells h hM hx h3 hw ?_ (by simpa using h5) h8 (fun o ho => ?_) ⟨fun r' hr' => ?_, fun i' j r' x hi' hj => ?_⟩ h7 h9
                · rw [← h4]
                  have := hseg
                  simp only [List.size_toArray, List.length_append, List.length_take, List.length_drop, Array.length_toList] at this ⊢
                  omega
                · rw [hget, if_neg]
                  have : keep * sz ≤ r * sz := Nat.mul_le_mul_right _ hkeep
                  omega
                · rcases List.mem_or_eq_of_mem_set hr' with hr' | rfl
                  · exact h6.1 r' hr'
                  · unfold overw
                    simp only [List.length_append, List.length_take, List.length_drop]
                    omega
                · have hjs : j < sz := by
                    have hr'len : r'.length = sz := by
                      have hm := List.mem_of_getElem? hi'
                      rcases List.mem_or_eq_of_mem_set hm with hm | rfl
                      · exact h6.1 r' hm
                      · unfold overw
                        simp only [List.length_append, List.length_take, List.length_drop]
                        omega
                    rw [← hr'len]
                    exact (List.getElem?_eq_some_iff.1 hj).1
                  by_cases hri : r = i'
                  · subst hri
                    rw [List.getElem?_set_self hrr, Option.some.injEq] at hi'
                    subst hi'
                    unfold overw at hj
                    rw [seg_get row vs c hfit j] at hj
                    rw [hget]
                    by_cases hin : c ≤ j ∧ j < c + vs.length
                    · rw [if_pos hin] at hj
                      rw [if_pos (by omega), show r * sz + j - (r * sz + c) = j - c by omega]
                      exact hcl.get hj
                    · rw [if_neg hin] at hj
                      rw [if_neg (by omega)]
                      exact h6.2 r j row x hrow hj
                  · rw [List.getElem?_set_ne hri] at hi'
                    obtain ⟨u, hu, hcu⟩ := h6.2 i' j r' x hi' hj
                    refine ⟨u, ?_, hcu⟩
                    rw [hget, if_neg]
                    · exact hu
                    · intro hin
                      have := mul_lt_rows hri (j := i' * sz + j - r * sz) (k := j) (sz := sz) (by omega) hjs
                      omega
        · cases hs
      · cases hs
    · cases hs
  · cases hs

end Go.X
