/- Steps of the ghost at the ends of past.read's rounds. -/
import Derived.Test.YthgppaccdlcaiaaXw
import Derived.Test.YthgppaccdlcaiaaYh
set_option linter.unusedVariables false
set_option linter.unusedSimpArgs false
namespace Go.X

theorem le_end {M B : Mem} {idm idA : Nat} {Z X : Blk} (hne : idm ≠ idA) (hA : B idA = some X) (hm : B idm = some Z) (hold : ∀ j b, M j = some b → B j = some b) : ((M.set idm Z).set idA X).le B := fun j b hj => by
  simp only [Mem.set_app] at hj
  by_cases e : idA = j
  · subst e; rw [if_pos rfl] at hj; rw [hA]; exact hj
  · rw [if_neg e] at hj
    by_cases e2 : idm = j
    · subst e2; rw [if_pos rfl] at hj; rw [hm]; exact hj
    · rw [if_neg e2] at hj
      exact hold _ _ hj
theorem step_end {M B : Mem} {idm idA : Nat} {Z : Blk} {T : TypeId} {rows rows' : List (List Lf)} (hM : ∀ j, idm ≤ j → M j = none) (hlt : idm < idA) (hA : B idA = some (.cells T rows 0)) (hm : B idm = some Z) (hold : ∀ j b, j < idm → M j = some b → B j = some b)
    (hr : rows.map (fun r => r.map wkL) = rows') : GStep B ((M.set idm Z).set idA (.cells T rows' 0)) := by
  subst hr
  refine GStep.trans (GStep.wk hA) (GStep.le (le_end (by omega) (Mem.set_eq _ _ _) ?_ fun j b hj => ?_))
  · rw [Mem.set_ne _ _ _ _ (by omega)]; exact hm
  · have hj' := lt_of_bnd hM hj
    rw [Mem.set_ne _ _ _ _ (by omega)]
    exact hold j b hj' hj
theorem step_end_frz {M B : Mem} {idm idA idP : Nat} {Z : Blk} {T Tp kp : TypeId} {rows rows' prow : List (List Lf)} (hM : ∀ j, idm ≤ j → M j = none) (hlt : idm < idA) (hltP : idm < idP) (hne : idP ≠ idA) (hA : B idA = some (.cells T rows 0)) (hP : B idP = some (.cells Tp prow kp)) (hm : B idm = some Z)
    (hold : ∀ j b, j < idm → M j = some b → B j = some b)
    (hr : rows.map (fun r => r.map (frzL idP prow)) = rows') : GStep B ((M.set idm Z).set idA (.cells T rows' 0)) := by
  subst hr
  refine GStep.trans (GStep.frz_in hP hA hne) (GStep.le (le_end (by omega) (Mem.set_eq _ _ _) ?_ fun j b hj => ?_))
  · rw [Mem.set_ne _ _ _ _ (by omega), Mem.set_ne _ _ _ _ (by omega)]; exact hm
  · have hj' := lt_of_bnd hM hj
    rw [Mem.set_ne _ _ _ _ (by omega), Mem.set_ne _ _ _ _ (by omega)]
    exact hold j b hj' hj
theorem cl_wk (c : Cl) : c.row.map wkL = c.row := by simp [Cl.row, wkL]
theorem cl_frz (id : Nat) (rows : List (List Lf)) (c : Cl) : c.row.map (frzL id rows) = c.row := by simp [Cl.row, frzL]
theorem cls_wk (l : List Cl) : (l.map Cl.row).map (fun r => r.map wkL) = l.map Cl.row := by simp only [List.map_map]; exact List.map_congr_left fun c _ => cl_wk c
theorem cls_frz (id : Nat) (rows : List (List Lf)) (l : List Cl) : (l.map Cl.row).map (fun r => r.map (frzL id rows)) = l.map Cl.row := by simp only [List.map_map]; exact List.map_congr_left fun c _ => cl_frz id rows c
/-- The row of a call that has not returned. -/
def openRow (x : Evt) (i : Nat) : List Lf := [.int .i64 x.who, .int .i64 i, .int .i64 (-1), .int .i64 x.op.kind, .int .i64 x.op.key, .int .i64 x.op.to, .int .i64 x.op.val, .int .i64 0, .bool false, .int .i64 0, .int .i64 0, .int .i64 0, .nils]
theorem opn_eq (a b : Opn) : a = b ↔ a.kind = b.kind ∧ a.key = b.key ∧ a.to = b.to ∧ a.val = b.val := by cases a; cases b; simp
theorem open_wk (x : Evt) (i : Nat) : (openRow x i).map wkL = Cl.row ⟨x.who, i, -1, x.op, ans0⟩ := by simp [openRow, wkL, Cl.row, ans0]
/-- The row of a call that returns. -/
def retRow (c : Cl) (i : Nat) (a : Ans) (l : Lf) : List Lf := [.int .i64 c.who, .int .i64 c.beg, .int .i64 i, .int .i64 c.op.kind, .int .i64 c.op.key, .int .i64 c.op.to, .int .i64 c.op.val, .int .i64 a.err, .bool a.ok, .int .i64 a.pair.key, .int .i64 a.pair.val, .int .i64 a.n, l]
theorem set_wk (l : List Cl) (k i : Nat) (c : Cl) (a : Ans) (ha : a.pairs = []) : ((l.map Cl.row).set k (retRow c i a .nils)).map (fun r => r.map wkL) = (l.set k { c with fin := i, ans := a }).map Cl.row := by
  rw [List.map_set, cls_wk, List.map_set]
  simp [retRow, wkL, Cl.row, ha]
theorem set_frz (id : Nat) (l : List Cl) (k i : Nat) (c : Cl) (a : Ans) : ((l.map Cl.row).set k (retRow c i a (.ms id 0 a.pairs.length))).map (fun r => r.map (frzL id (a.pairs.map Pr.row))) = (l.set k { c with fin := i, ans := a }).map Cl.row := by
  rw [List.map_set, cls_frz, List.map_set]
  simp [retRow, frzL, Cl.row, List.take_of_length_le]
end Go.X
