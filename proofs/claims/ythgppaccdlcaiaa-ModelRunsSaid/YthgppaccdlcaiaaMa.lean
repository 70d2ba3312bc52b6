/- What a map does: model's functions. -/
import Derived.Test.YthgppaccdlcaiaaVf
import Derived.Test.YthgppaccdlcaiaaTe
set_option linter.unusedVariables false
set_option linter.unusedSimpArgs false
set_option maxHeartbeats 20000000
set_option maxRecDepth 100000
namespace Go.X
open Go.Proofs.Try (prog)

/-- A map's block. -/
def mapB (s : List Pr) : Blk := .cells 82 [[.sl (s.map Pr.row)]] 0

theorem le_seti {M N : Mem} {id : Nat} {b : Blk} (h1 : N id = some b) (h2 : ∀ k bk, k ≠ id → M k = some bk → N k = some bk) : (M.set id b).le N := by
  intro k bk hk
  rw [Mem.set_app] at hk
  by_cases e : id = k
  · rw [if_pos e] at hk
    rw [← e, h1]
    exact hk
  · rw [if_neg e] at hk
    exact h2 k bk (fun h => e h.symm) hk

theorem modelDo_spec (s : List Pr) (hl : s.length ≤ 1000001) (op : Opn) (id : Nat) (M : Mem) (hM : M id = some (mapB s)) :
    XCalls Go.Proofs.Try.prog 44 [.l (.ptr id 0 0), .agg op.row] M fun r M' => r = .agg (doA s op).row ∧ M' = M.set id (mapB (doL s op)) := by
  refine xcalls_intro (rs := [.cell 4 36]) Go.Proofs.Try.func44 rfl (by kernel_rfl) rfl rfl (by kernel_rfl) (by simp) ?_
  simp -implicitDefEqProofs (maxSteps := 1000000) (disch := omega) only [↓xsP, ↓vc_seq, xsQ, xsT, xsR, tch, tOf, idsOf, storeE, eqA, fitC, fitL, eqCells, eqL, isNilS, absL, loadA, storeA, fieldAddrA, lenA, sliceA, boundA, buildA, placesOf, overw, buildSliceA, makeSliceA, clearA, unA, convA, extractA, fieldA, indexA, nilChk, capsA, retA, retA1, retL, rowOf, srcRows, gslot, Value.oneCell', ↓reduceIte, reduceCtorEq, eq_self, ne_eq, imp_self, forall_const, Nat.reduceEqDiff, Nat.reduceAdd, Nat.reduceSub, Nat.reduceMul, Nat.reduceLT, Nat.reduceLeDiff, Nat.reduceBEq, Nat.reduceDiv, Nat.reduceMod, Int.reduceToNat, Int.reduceNeg, Int.reduceAdd, Int.reduceSub, Int.reduceMul, Int.reduceEq, Int.reduceNe, Int.reduceLT, Int.reduceLE, Int.reduceGT, Int.reduceGE]
  refine newI_intro fun p3 hp3 => ?_
  have h3 : id < p3 := lt_of_bnd hp3 hM
  simp -implicitDefEqProofs (maxSteps := 1000000) (disch := omega) only [↓xsP, ↓vc_seq, xsQ, xsT, xsR, tch, tOf, idsOf, storeE, eqA, fitC, fitL, eqCells, eqL, isNilS, absL, loadA, storeA, fieldAddrA, lenA, sliceA, boundA, buildA, placesOf, overw, buildSliceA, makeSliceA, clearA, unA, convA, extractA, fieldA, indexA, nilChk, capsA, retA, retA1, retL, rowOf, srcRows, gslot, Value.oneCell', ↓reduceIte, reduceCtorEq, eq_self, ne_eq, imp_self, forall_const, Nat.reduceEqDiff, Nat.reduceAdd, Nat.reduceSub, Nat.reduceMul, Nat.reduceLT, Nat.reduceLeDiff, Nat.reduceBEq, Nat.reduceDiv, Nat.reduceMod, Int.reduceToNat, Int.reduceNeg, Int.reduceAdd, Int.reduceSub, Int.reduceMul, Int.reduceEq, Int.reduceNe, Int.reduceLT, Int.reduceLE, Int.reduceGT, Int.reduceGE]
  refine newI_intro fun p4 hp4 => ?_
  obtain ⟨h34, hp4⟩ := bnd_new hp4
  simp -implicitDefEqProofs (maxSteps := 1000000) (disch := omega) only [↓xsP, ↓vc_seq, xsQ, xsT, xsR, tch, tOf, idsOf, storeE, eqA, fitC, fitL, eqCells, eqL, isNilS, absL, loadA, storeA, fieldAddrA, lenA, sliceA, boundA, buildA, placesOf, overw, buildSliceA, makeSliceA, clearA, unA, convA, extractA, fieldA, indexA, nilChk, capsA, retA, retA1, retL, rowOf, srcRows, gslot, Value.oneCell', ↓reduceIte, reduceCtorEq, eq_self, ne_eq, imp_self, forall_const, Nat.reduceEqDiff, Nat.reduceAdd, Nat.reduceSub, Nat.reduceMul, Nat.reduceLT, Nat.reduceLeDiff, Nat.reduceBEq, Nat.reduceDiv, Nat.reduceMod, Int.reduceToNat, Int.reduceNeg, Int.reduceAdd, Int.reduceSub, Int.reduceMul, Int.reduceEq, Int.reduceNe, Int.reduceLT, Int.reduceLE, Int.reduceGT, Int.reduceGE]
  refine newI_intro fun p5 hp5 => ?_
  obtain ⟨h45, hp5⟩ := bnd_new hp5
  obtain ⟨h35, hp5⟩ := bnd_new hp5
  simp -implicitDefEqProofs (maxSteps := 1000000) (disch := omega) only [↓xsP, ↓vc_seq, xsQ, xsT, xsR, tch, tOf, idsOf, storeE, eqA, fitC, fitL, eqCells, eqL, isNilS, absL, loadA, storeA, fieldAddrA, lenA, sliceA, boundA, buildA, placesOf, overw, buildSliceA, makeSliceA, clearA, unA, convA, extractA, fieldA, indexA, nilChk, capsA, retA, retA1, retL, rowOf, srcRows, gslot, Value.oneCell', ↓reduceIte, reduceCtorEq, eq_self, ne_eq, imp_self, forall_const, Nat.reduceEqDiff, Nat.reduceAdd, Nat.reduceSub, Nat.reduceMul, Nat.reduceLT, Nat.reduceLeDiff, Nat.reduceBEq, Nat.reduceDiv, Nat.reduceMod, Int.reduceToNat, Int.reduceNeg, Int.reduceAdd, Int.reduceSub, Int.reduceMul, Int.reduceEq, Int.reduceNe, Int.reduceLT, Int.reduceLE, Int.reduceGT, Int.reduceGE]
  refine xwrite (fun n0 => [ (12, id), (13, p5)]) [12, 13] [] [[], [], [], [], [], [], [], [], [], [12], [], [], [], []] (by kernel_rfl) (by kernel_rfl) (by kernel_rfl) (by kernel_rfl) (fun n0 hn0 => ⟨rfl, ?_, ?_⟩)
  · exact TOk_cons (.inl (by have := lt_of_bnd hn0 (Mem.set_eq _ p5 _); omega)) (TOk_cons (.inl (lt_of_bnd hn0 (Mem.set_eq _ p5 _))) (TOk_nil _ _))
  · simp -implicitDefEqProofs (maxSteps := 1000000) (disch := omega) only [↓xsP, ↓vc_seq, xsQ, xsT, xsR, tch, tOf, idsOf, storeE, eqA, fitC, fitL, eqCells, eqL, isNilS, absL, loadA, storeA, fieldAddrA, lenA, sliceA, boundA, buildA, placesOf, overw, buildSliceA, makeSliceA, clearA, unA, convA, extractA, fieldA, indexA, nilChk, capsA, retA, retA1, retL, rowOf, srcRows, gslot, Value.oneCell', ↓reduceIte, reduceCtorEq, eq_self, ne_eq, imp_self, forall_const, Nat.reduceEqDiff, Nat.reduceAdd, Nat.reduceSub, Nat.reduceMul, Nat.reduceLT, Nat.reduceLeDiff, Nat.reduceBEq, Nat.reduceDiv, Nat.reduceMod, Int.reduceToNat, Int.reduceNeg, Int.reduceAdd, Int.reduceSub, Int.reduceMul, Int.reduceEq, Int.reduceNe, Int.reduceLT, Int.reduceLE, Int.reduceGT, Int.reduceGE, hM, mapB]
    refine wcallI_of (fun M' _ => do_spec s hl op M') ?_
    simp -implicitDefEqProofs (maxSteps := 1000000) (disch := omega) only [↓xsP, ↓vc_seq, xsQ, xsT, xsR, tch, tOf, idsOf, storeE, eqA, fitC, fitL, eqCells, eqL, isNilS, absL, loadA, storeA, fieldAddrA, lenA, sliceA, boundA, buildA, placesOf, overw, buildSliceA, makeSliceA, clearA, unA, convA, extractA, fieldA, indexA, nilChk, capsA, retA, retA1, retL, rowOf, srcRows, gslot, Value.oneCell', ↓reduceIte, reduceCtorEq, eq_self, ne_eq, imp_self, forall_const, Nat.reduceEqDiff, Nat.reduceAdd, Nat.reduceSub, Nat.reduceMul, Nat.reduceLT, Nat.reduceLeDiff, Nat.reduceBEq, Nat.reduceDiv, Nat.reduceMod, Int.reduceToNat, Int.reduceNeg, Int.reduceAdd, Int.reduceSub, Int.reduceMul, Int.reduceEq, Int.reduceNe, Int.reduceLT, Int.reduceLE, Int.reduceGT, Int.reduceGE, hM, mapB]
    refine fin_ok (le_seti ?_ fun k bk hk h => ?_) ⟨rfl, rfl⟩
    · simp (disch := omega) only [Mem.set_eq, Mem.set_ne, mapB]
    · have := lt_of_bnd hp3 h
      simp (disch := omega) only [Mem.set_ne, h]

theorem modelDo_nil (op : Opn) (M : Mem) :
    XCalls Go.Proofs.Try.prog 44 [.l .nilp, .agg op.row] M fun r M' => r = .agg (Ans.row ⟨1, false, ⟨0, 0⟩, 0, []⟩) ∧ M' = M := by
  refine xcalls_intro (rs := [.cell 4 36]) Go.Proofs.Try.func44 rfl (by kernel_rfl) rfl rfl (by kernel_rfl) (by simp) ?_
  simp -implicitDefEqProofs (maxSteps := 1000000) (disch := omega) only [↓xsP, ↓vc_seq, xsQ, xsT, xsR, tch, tOf, idsOf, storeE, eqA, fitC, fitL, eqCells, eqL, isNilS, absL, loadA, storeA, fieldAddrA, lenA, sliceA, boundA, buildA, placesOf, overw, buildSliceA, makeSliceA, clearA, unA, convA, extractA, fieldA, indexA, nilChk, capsA, retA, retA1, retL, rowOf, srcRows, gslot, Value.oneCell', ↓reduceIte, reduceCtorEq, eq_self, ne_eq, imp_self, forall_const, Nat.reduceEqDiff, Nat.reduceAdd, Nat.reduceSub, Nat.reduceMul, Nat.reduceLT, Nat.reduceLeDiff, Nat.reduceBEq, Nat.reduceDiv, Nat.reduceMod, Int.reduceToNat, Int.reduceNeg, Int.reduceAdd, Int.reduceSub, Int.reduceMul, Int.reduceEq, Int.reduceNe, Int.reduceLT, Int.reduceLE, Int.reduceGT, Int.reduceGE]
  refine newI_intro fun p3 hp3 => ?_
  simp -implicitDefEqProofs (maxSteps := 1000000) (disch := omega) only [↓xsP, ↓vc_seq, xsQ, xsT, xsR, tch, tOf, idsOf, storeE, eqA, fitC, fitL, eqCells, eqL, isNilS, absL, loadA, storeA, fieldAddrA, lenA, sliceA, boundA, buildA, placesOf, overw, buildSliceA, makeSliceA, clearA, unA, convA, extractA, fieldA, indexA, nilChk, capsA, retA, retA1, retL, rowOf, srcRows, gslot, Value.oneCell', ↓reduceIte, reduceCtorEq, eq_self, ne_eq, imp_self, forall_const, Nat.reduceEqDiff, Nat.reduceAdd, Nat.reduceSub, Nat.reduceMul, Nat.reduceLT, Nat.reduceLeDiff, Nat.reduceBEq, Nat.reduceDiv, Nat.reduceMod, Int.reduceToNat, Int.reduceNeg, Int.reduceAdd, Int.reduceSub, Int.reduceMul, Int.reduceEq, Int.reduceNe, Int.reduceLT, Int.reduceLE, Int.reduceGT, Int.reduceGE]
  refine newI_intro fun p4 hp4' => ?_
  obtain ⟨h34, hp4⟩ := bnd_new hp4'
  simp -implicitDefEqProofs (maxSteps := 1000000) (disch := omega) only [↓xsP, ↓vc_seq, xsQ, xsT, xsR, tch, tOf, idsOf, storeE, eqA, fitC, fitL, eqCells, eqL, isNilS, absL, loadA, storeA, fieldAddrA, lenA, sliceA, boundA, buildA, placesOf, overw, buildSliceA, makeSliceA, clearA, unA, convA, extractA, fieldA, indexA, nilChk, capsA, retA, retA1, retL, rowOf, srcRows, gslot, Value.oneCell', ↓reduceIte, reduceCtorEq, eq_self, ne_eq, imp_self, forall_const, Nat.reduceEqDiff, Nat.reduceAdd, Nat.reduceSub, Nat.reduceMul, Nat.reduceLT, Nat.reduceLeDiff, Nat.reduceBEq, Nat.reduceDiv, Nat.reduceMod, Int.reduceToNat, Int.reduceNeg, Int.reduceAdd, Int.reduceSub, Int.reduceMul, Int.reduceEq, Int.reduceNe, Int.reduceLT, Int.reduceLE, Int.reduceGT, Int.reduceGE]
  exact finI_of (XFin.wk (XFin.le (le_new (le_new (Mem.le_refl _) hp3) hp4) ⟨rfl, rfl⟩))

theorem pairs_spec (s : List Pr) (hl : s.length ≤ 1000001) (id : Nat) (M : Mem) (hM : M id = some (mapB s)) :
    XCalls Go.Proofs.Try.prog 43 [.l (.ptr id 0 0)] M fun r M' => r = .l (.sl (s.map Pr.row)) ∧ M' = M := by
  refine xcalls_intro (rs := [.tmp 2]) Go.Proofs.Try.func43 rfl (by kernel_rfl) rfl rfl (by kernel_rfl) (by simp) ?_
  simp -implicitDefEqProofs (maxSteps := 1000000) (disch := omega) only [↓xsP, ↓vc_seq, xsQ, xsT, xsR, tch, tOf, idsOf, storeE, eqA, fitC, fitL, eqCells, eqL, isNilS, absL, loadA, storeA, fieldAddrA, lenA, sliceA, boundA, buildA, placesOf, overw, buildSliceA, makeSliceA, clearA, unA, convA, extractA, fieldA, indexA, nilChk, capsA, retA, retA1, retL, rowOf, srcRows, gslot, Value.oneCell', ↓reduceIte, reduceCtorEq, eq_self, ne_eq, imp_self, forall_const, Nat.reduceEqDiff, Nat.reduceAdd, Nat.reduceSub, Nat.reduceMul, Nat.reduceLT, Nat.reduceLeDiff, Nat.reduceBEq, Nat.reduceDiv, Nat.reduceMod, Int.reduceToNat, Int.reduceNeg, Int.reduceAdd, Int.reduceSub, Int.reduceMul, Int.reduceEq, Int.reduceNe, Int.reduceLT, Int.reduceLE, Int.reduceGT, Int.reduceGE, hM, mapB]
  refine call_of (clone_spec s hl M) ?_
  simp -implicitDefEqProofs (maxSteps := 1000000) (disch := omega) only [↓xsP, ↓vc_seq, xsQ, xsT, xsR, tch, tOf, idsOf, storeE, eqA, fitC, fitL, eqCells, eqL, isNilS, absL, loadA, storeA, fieldAddrA, lenA, sliceA, boundA, buildA, placesOf, overw, buildSliceA, makeSliceA, clearA, unA, convA, extractA, fieldA, indexA, nilChk, capsA, retA, retA1, retL, rowOf, srcRows, gslot, Value.oneCell', ↓reduceIte, reduceCtorEq, eq_self, ne_eq, imp_self, forall_const, Nat.reduceEqDiff, Nat.reduceAdd, Nat.reduceSub, Nat.reduceMul, Nat.reduceLT, Nat.reduceLeDiff, Nat.reduceBEq, Nat.reduceDiv, Nat.reduceMod, Int.reduceToNat, Int.reduceNeg, Int.reduceAdd, Int.reduceSub, Int.reduceMul, Int.reduceEq, Int.reduceNe, Int.reduceLT, Int.reduceLE, Int.reduceGT, Int.reduceGE]
  exact fin_ok (Mem.le_refl _) ⟨rfl, rfl⟩
theorem pairs_nil (M : Mem) : XCalls Go.Proofs.Try.prog 43 [.l .nilp] M fun r M' => r = .l (.sl []) ∧ M' = M := by
  refine xcalls_intro (rs := [.tmp 2]) Go.Proofs.Try.func43 rfl (by kernel_rfl) rfl rfl (by kernel_rfl) (by simp) ?_
  simp -implicitDefEqProofs (maxSteps := 1000000) (disch := omega) only [↓xsP, ↓vc_seq, xsQ, xsT, xsR, tch, tOf, idsOf, storeE, eqA, fitC, fitL, eqCells, eqL, isNilS, absL, loadA, storeA, fieldAddrA, lenA, sliceA, boundA, buildA, placesOf, overw, buildSliceA, makeSliceA, clearA, unA, convA, extractA, fieldA, indexA, nilChk, capsA, retA, retA1, retL, rowOf, srcRows, gslot, Value.oneCell', ↓reduceIte, reduceCtorEq, eq_self, ne_eq, imp_self, forall_const, Nat.reduceEqDiff, Nat.reduceAdd, Nat.reduceSub, Nat.reduceMul, Nat.reduceLT, Nat.reduceLeDiff, Nat.reduceBEq, Nat.reduceDiv, Nat.reduceMod, Int.reduceToNat, Int.reduceNeg, Int.reduceAdd, Int.reduceSub, Int.reduceMul, Int.reduceEq, Int.reduceNe, Int.reduceLT, Int.reduceLE, Int.reduceGT, Int.reduceGE]
  exact finI_of (XFin.wk (XFin.here ⟨rfl, rfl⟩))
theorem len_spec (s : List Pr) (id : Nat) (M : Mem) (hM : M id = some (mapB s)) :
    XCalls Go.Proofs.Try.prog 45 [.l (.ptr id 0 0)] M fun r M' => r = .l (.int .i64 s.length) ∧ M' = M := by
  refine xcalls_intro (rs := [.tmp 2]) Go.Proofs.Try.func45 rfl (by kernel_rfl) rfl rfl (by kernel_rfl) (by simp) ?_
  simp -implicitDefEqProofs (maxSteps := 1000000) (disch := omega) only [↓xsP, ↓vc_seq, xsQ, xsT, xsR, tch, tOf, idsOf, storeE, eqA, fitC, fitL, eqCells, eqL, isNilS, absL, loadA, storeA, fieldAddrA, lenA, sliceA, boundA, buildA, placesOf, overw, buildSliceA, makeSliceA, clearA, unA, convA, extractA, fieldA, indexA, nilChk, capsA, retA, retA1, retL, rowOf, srcRows, gslot, Value.oneCell', ↓reduceIte, reduceCtorEq, eq_self, ne_eq, imp_self, forall_const, Nat.reduceEqDiff, Nat.reduceAdd, Nat.reduceSub, Nat.reduceMul, Nat.reduceLT, Nat.reduceLeDiff, Nat.reduceBEq, Nat.reduceDiv, Nat.reduceMod, Int.reduceToNat, Int.reduceNeg, Int.reduceAdd, Int.reduceSub, Int.reduceMul, Int.reduceEq, Int.reduceNe, Int.reduceLT, Int.reduceLE, Int.reduceGT, Int.reduceGE, hM, mapB]
  exact fin_ok (Mem.le_refl _) ⟨rfl, rfl⟩
theorem len_nil (M : Mem) : XCalls Go.Proofs.Try.prog 45 [.l .nilp] M fun r M' => r = .l (.int .i64 0) ∧ M' = M := by
  refine xcalls_intro (rs := [.tmp 2]) Go.Proofs.Try.func45 rfl (by kernel_rfl) rfl rfl (by kernel_rfl) (by simp) ?_
  simp -implicitDefEqProofs (maxSteps := 1000000) (disch := omega) only [↓xsP, ↓vc_seq, xsQ, xsT, xsR, tch, tOf, idsOf, storeE, eqA, fitC, fitL, eqCells, eqL, isNilS, absL, loadA, storeA, fieldAddrA, lenA, sliceA, boundA, buildA, placesOf, overw, buildSliceA, makeSliceA, clearA, unA, convA, extractA, fieldA, indexA, nilChk, capsA, retA, retA1, retL, rowOf, srcRows, gslot, Value.oneCell', ↓reduceIte, reduceCtorEq, eq_self, ne_eq, imp_self, forall_const, Nat.reduceEqDiff, Nat.reduceAdd, Nat.reduceSub, Nat.reduceMul, Nat.reduceLT, Nat.reduceLeDiff, Nat.reduceBEq, Nat.reduceDiv, Nat.reduceMod, Int.reduceToNat, Int.reduceNeg, Int.reduceAdd, Int.reduceSub, Int.reduceMul, Int.reduceEq, Int.reduceNe, Int.reduceLT, Int.reduceLE, Int.reduceGT, Int.reduceGE]
  exact fin_ok (Mem.le_refl _) ⟨rfl, rfl⟩
theorem copy_nil (M : Mem) : XCalls Go.Proofs.Try.prog 48 [.l .nilp] M fun r M' => r = .l .nilp ∧ M' = M := by
  refine xcalls_intro (rs := [.tmp 2]) Go.Proofs.Try.func48 rfl (by kernel_rfl) rfl rfl (by kernel_rfl) (by simp) ?_
  simp -implicitDefEqProofs (maxSteps := 1000000) (disch := omega) only [↓xsP, ↓vc_seq, xsQ, xsT, xsR, tch, tOf, idsOf, storeE, eqA, fitC, fitL, eqCells, eqL, isNilS, absL, loadA, storeA, fieldAddrA, lenA, sliceA, boundA, buildA, placesOf, overw, buildSliceA, makeSliceA, clearA, unA, convA, extractA, fieldA, indexA, nilChk, capsA, retA, retA1, retL, rowOf, srcRows, gslot, Value.oneCell', ↓reduceIte, reduceCtorEq, eq_self, ne_eq, imp_self, forall_const, Nat.reduceEqDiff, Nat.reduceAdd, Nat.reduceSub, Nat.reduceMul, Nat.reduceLT, Nat.reduceLeDiff, Nat.reduceBEq, Nat.reduceDiv, Nat.reduceMod, Int.reduceToNat, Int.reduceNeg, Int.reduceAdd, Int.reduceSub, Int.reduceMul, Int.reduceEq, Int.reduceNe, Int.reduceLT, Int.reduceLE, Int.reduceGT, Int.reduceGE]
  exact fin_ok (Mem.le_refl _) ⟨rfl, rfl⟩
theorem run_nil (s : Lf) (M : Mem) : XCalls Go.Proofs.Try.prog 42 [.l .nilp, .l s] M fun r M' => r = .l (.sl []) ∧ M' = M := by
  refine xcalls_intro (rs := [.tmp 4]) Go.Proofs.Try.func42 rfl (by kernel_rfl) rfl rfl (by kernel_rfl) (by simp) ?_
  simp -implicitDefEqProofs (maxSteps := 1000000) (disch := omega) only [↓xsP, ↓vc_seq, xsQ, xsT, xsR, tch, tOf, idsOf, storeE, eqA, fitC, fitL, eqCells, eqL, isNilS, absL, loadA, storeA, fieldAddrA, lenA, sliceA, boundA, buildA, placesOf, overw, buildSliceA, makeSliceA, clearA, unA, convA, extractA, fieldA, indexA, nilChk, capsA, retA, retA1, retL, rowOf, srcRows, gslot, Value.oneCell', ↓reduceIte, reduceCtorEq, eq_self, ne_eq, imp_self, forall_const, Nat.reduceEqDiff, Nat.reduceAdd, Nat.reduceSub, Nat.reduceMul, Nat.reduceLT, Nat.reduceLeDiff, Nat.reduceBEq, Nat.reduceDiv, Nat.reduceMod, Int.reduceToNat, Int.reduceNeg, Int.reduceAdd, Int.reduceSub, Int.reduceMul, Int.reduceEq, Int.reduceNe, Int.reduceLT, Int.reduceLE, Int.reduceGT, Int.reduceGE]
  exact finI_of (XFin.wk (XFin.here ⟨rfl, rfl⟩))

def putOp (p : Pr) : Opn := ⟨1, p.key, 0, p.val⟩
noncomputable def putL (l : List Pr) : List Pr := l.foldl (fun s p => doL s (putOp p)) []
theorem putL_snoc (l : List Pr) (p : Pr) : putL (l ++ [p]) = doL (putL l) (putOp p) := by simp [putL, List.foldl_append]
theorem putL_take (l : List Pr) {i : Nat} (hi : i < l.length) : putL (l.take (i + 1)) = doL (putL (l.take i)) (putOp (l.getD i default)) := by
  have : l.take (i + 1) = l.take i ++ [l.getD i default] := by
    rw [List.take_add_one, List.getD_eq_getElem?_getD, List.getElem?_eq_getElem hi]
    rfl
  rw [this, putL_snoc]
theorem putL_len (l : List Pr) : (putL l).length ≤ l.length := by
  have key : ∀ (l s : List Pr), (l.foldl (fun s p => doL s (putOp p)) s).length ≤ s.length + l.length := by
    intro l
    induction l with
    | nil => intro s; simp
    | cons p r ih =>
      intro s
      have h1 := ih (doL s (putOp p))
      have h2 := doL_len s (putOp p)
      simp only [List.foldl_cons, List.length_cons]
      omega
  have := key l []
  rw [putL]
  simpa using this
theorem new_spec (l : List Pr) (hl : l.length ≤ 1000000) (M : Mem) :
    XCalls Go.Proofs.Try.prog 41 [.l (.sl (l.map Pr.row))] M fun r M' => ∃ id, (∀ j, id ≤ j → M j = none) ∧ r = .l (.ptr id 0 0) ∧ M' = M.set id (mapB (putL l)) := by
  refine xcalls_intro (rs := [.tmp 2]) Go.Proofs.Try.func41 rfl (by kernel_rfl) rfl rfl (by kernel_rfl) (by simp) ?_
  simp -implicitDefEqProofs (maxSteps := 1000000) (disch := omega) only [↓xsP, ↓vc_seq, xsQ, xsT, xsR, tch, tOf, idsOf, storeE, eqA, fitC, fitL, eqCells, eqL, isNilS, absL, loadA, storeA, fieldAddrA, lenA, sliceA, boundA, buildA, placesOf, overw, buildSliceA, makeSliceA, clearA, unA, convA, extractA, fieldA, indexA, nilChk, capsA, retA, retA1, retL, rowOf, srcRows, gslot, Value.oneCell', ↓reduceIte, reduceCtorEq, eq_self, ne_eq, imp_self, forall_const, Nat.reduceEqDiff, Nat.reduceAdd, Nat.reduceSub, Nat.reduceMul, Nat.reduceLT, Nat.reduceLeDiff, Nat.reduceBEq, Nat.reduceDiv, Nat.reduceMod, Int.reduceToNat, Int.reduceNeg, Int.reduceAdd, Int.reduceSub, Int.reduceMul, Int.reduceEq, Int.reduceNe, Int.reduceLT, Int.reduceLE, Int.reduceGT, Int.reduceGE]
  refine newI_intro fun id hid => ?_
  simp -implicitDefEqProofs (maxSteps := 1000000) (disch := omega) only [↓xsP, ↓vc_seq, xsQ, xsT, xsR, tch, tOf, idsOf, storeE, eqA, fitC, fitL, eqCells, eqL, isNilS, absL, loadA, storeA, fieldAddrA, lenA, sliceA, boundA, buildA, placesOf, overw, buildSliceA, makeSliceA, clearA, unA, convA, extractA, fieldA, indexA, nilChk, capsA, retA, retA1, retL, rowOf, srcRows, gslot, Value.oneCell', ↓reduceIte, reduceCtorEq, eq_self, ne_eq, imp_self, forall_const, Nat.reduceEqDiff, Nat.reduceAdd, Nat.reduceSub, Nat.reduceMul, Nat.reduceLT, Nat.reduceLeDiff, Nat.reduceBEq, Nat.reduceDiv, Nat.reduceMod, Int.reduceToNat, Int.reduceNeg, Int.reduceAdd, Int.reduceSub, Int.reduceMul, Int.reduceEq, Int.reduceNe, Int.reduceLT, Int.reduceLE, Int.reduceGT, Int.reduceGE]
  refine loopI_gs (GStep.wk (Mem.set_eq _ _ _)) ?_
  simp -implicitDefEqProofs (maxSteps := 1000000) (disch := omega) only [↓xsP, ↓vc_seq, xsQ, xsT, xsR, tch, tOf, idsOf, storeE, eqA, fitC, fitL, eqCells, eqL, isNilS, absL, loadA, storeA, fieldAddrA, lenA, sliceA, boundA, buildA, placesOf, overw, buildSliceA, makeSliceA, clearA, unA, convA, extractA, fieldA, indexA, nilChk, capsA, retA, retA1, retL, rowOf, srcRows, gslot, Value.oneCell', ↓reduceIte, reduceCtorEq, eq_self, ne_eq, imp_self, forall_const, Nat.reduceEqDiff, Nat.reduceAdd, Nat.reduceSub, Nat.reduceMul, Nat.reduceLT, Nat.reduceLeDiff, Nat.reduceBEq, Nat.reduceDiv, Nat.reduceMod, Int.reduceToNat, Int.reduceNeg, Int.reduceAdd, Int.reduceSub, Int.reduceMul, Int.reduceEq, Int.reduceNe, Int.reduceLT, Int.reduceLE, Int.reduceGT, Int.reduceGE]
  refine xloopG (by kernel_rfl) (fun k fr M' => ∃ i : Nat, i ≤ l.length ∧ k = l.length - i ∧ fr 3 = .l (.ptr id 0 0) ∧ fr 8 = .l (.sl (l.map Pr.row)) ∧ fr 9 = .l (.int .i64 l.length) ∧ fr 10 = .l (.int .i64 i) ∧ M' = M.set id (mapB (putL (l.take i)))) l.length ?_ ?_
  · refine ⟨0, Nat.zero_le _, rfl, ?_, ?_, ?_, ?_, ?_⟩
    · simp -implicitDefEqProofs (maxSteps := 1000000) (disch := omega) only [↓xsP, ↓vc_seq, xsQ, xsT, xsR, tch, tOf, idsOf, storeE, eqA, fitC, fitL, eqCells, eqL, isNilS, absL, loadA, storeA, fieldAddrA, lenA, sliceA, boundA, buildA, placesOf, overw, buildSliceA, makeSliceA, clearA, unA, convA, extractA, fieldA, indexA, nilChk, capsA, retA, retA1, retL, rowOf, srcRows, gslot, Value.oneCell', ↓reduceIte, reduceCtorEq, eq_self, ne_eq, imp_self, forall_const, Nat.reduceEqDiff, Nat.reduceAdd, Nat.reduceSub, Nat.reduceMul, Nat.reduceLT, Nat.reduceLeDiff, Nat.reduceBEq, Nat.reduceDiv, Nat.reduceMod, Int.reduceToNat, Int.reduceNeg, Int.reduceAdd, Int.reduceSub, Int.reduceMul, Int.reduceEq, Int.reduceNe, Int.reduceLT, Int.reduceLE, Int.reduceGT, Int.reduceGE]
    · simp -implicitDefEqProofs (maxSteps := 1000000) (disch := omega) only [↓xsP, ↓vc_seq, xsQ, xsT, xsR, tch, tOf, idsOf, storeE, eqA, fitC, fitL, eqCells, eqL, isNilS, absL, loadA, storeA, fieldAddrA, lenA, sliceA, boundA, buildA, placesOf, overw, buildSliceA, makeSliceA, clearA, unA, convA, extractA, fieldA, indexA, nilChk, capsA, retA, retA1, retL, rowOf, srcRows, gslot, Value.oneCell', ↓reduceIte, reduceCtorEq, eq_self, ne_eq, imp_self, forall_const, Nat.reduceEqDiff, Nat.reduceAdd, Nat.reduceSub, Nat.reduceMul, Nat.reduceLT, Nat.reduceLeDiff, Nat.reduceBEq, Nat.reduceDiv, Nat.reduceMod, Int.reduceToNat, Int.reduceNeg, Int.reduceAdd, Int.reduceSub, Int.reduceMul, Int.reduceEq, Int.reduceNe, Int.reduceLT, Int.reduceLE, Int.reduceGT, Int.reduceGE]
    · simp -implicitDefEqProofs (maxSteps := 1000000) (disch := omega) only [↓xsP, ↓vc_seq, xsQ, xsT, xsR, tch, tOf, idsOf, storeE, eqA, fitC, fitL, eqCells, eqL, isNilS, absL, loadA, storeA, fieldAddrA, lenA, sliceA, boundA, buildA, placesOf, overw, buildSliceA, makeSliceA, clearA, unA, convA, extractA, fieldA, indexA, nilChk, capsA, retA, retA1, retL, rowOf, srcRows, gslot, Value.oneCell', ↓reduceIte, reduceCtorEq, eq_self, ne_eq, imp_self, forall_const, Nat.reduceEqDiff, Nat.reduceAdd, Nat.reduceSub, Nat.reduceMul, Nat.reduceLT, Nat.reduceLeDiff, Nat.reduceBEq, Nat.reduceDiv, Nat.reduceMod, Int.reduceToNat, Int.reduceNeg, Int.reduceAdd, Int.reduceSub, Int.reduceMul, Int.reduceEq, Int.reduceNe, Int.reduceLT, Int.reduceLE, Int.reduceGT, Int.reduceGE]
    · simp -implicitDefEqProofs (maxSteps := 1000000) (disch := omega) only [↓xsP, ↓vc_seq, xsQ, xsT, xsR, tch, tOf, idsOf, storeE, eqA, fitC, fitL, eqCells, eqL, isNilS, absL, loadA, storeA, fieldAddrA, lenA, sliceA, boundA, buildA, placesOf, overw, buildSliceA, makeSliceA, clearA, unA, convA, extractA, fieldA, indexA, nilChk, capsA, retA, retA1, retL, rowOf, srcRows, gslot, Value.oneCell', ↓reduceIte, reduceCtorEq, eq_self, ne_eq, imp_self, forall_const, Nat.reduceEqDiff, Nat.reduceAdd, Nat.reduceSub, Nat.reduceMul, Nat.reduceLT, Nat.reduceLeDiff, Nat.reduceBEq, Nat.reduceDiv, Nat.reduceMod, Int.reduceToNat, Int.reduceNeg, Int.reduceAdd, Int.reduceSub, Int.reduceMul, Int.reduceEq, Int.reduceNe, Int.reduceLT, Int.reduceLE, Int.reduceGT, Int.reduceGE, Int.ofNat_zero]
    · rw [List.take_zero]
      rfl
  · rintro k fr M' ⟨i, hi, rfl, h3, h8, h9, h10, rfl⟩
    simp -implicitDefEqProofs (maxSteps := 1000000) (disch := omega) only [↓xsP, ↓vc_seq, xsQ, xsT, xsR, tch, tOf, idsOf, storeE, eqA, fitC, fitL, eqCells, eqL, isNilS, absL, loadA, storeA, fieldAddrA, lenA, sliceA, boundA, buildA, placesOf, overw, buildSliceA, makeSliceA, clearA, unA, convA, extractA, fieldA, indexA, nilChk, capsA, retA, retA1, retL, rowOf, srcRows, gslot, Value.oneCell', ↓reduceIte, reduceCtorEq, eq_self, ne_eq, imp_self, forall_const, Nat.reduceEqDiff, Nat.reduceAdd, Nat.reduceSub, Nat.reduceMul, Nat.reduceLT, Nat.reduceLeDiff, Nat.reduceBEq, Nat.reduceDiv, Nat.reduceMod, Int.reduceToNat, Int.reduceNeg, Int.reduceAdd, Int.reduceSub, Int.reduceMul, Int.reduceEq, Int.reduceNe, Int.reduceLT, Int.reduceLE, Int.reduceGT, Int.reduceGE, h3, h8, h9, h10]
    refine condI_prop (fun hp => ?_) (fun hp => ?_)
    · have hi' : i < l.length := by omega
      simp -implicitDefEqProofs (maxSteps := 1000000) (disch := omega) only [↓xsP, ↓vc_seq, xsQ, xsT, xsR, tch, tOf, idsOf, storeE, eqA, fitC, fitL, eqCells, eqL, isNilS, absL, loadA, storeA, fieldAddrA, lenA, sliceA, boundA, buildA, placesOf, overw, buildSliceA, makeSliceA, clearA, unA, convA, extractA, fieldA, indexA, nilChk, capsA, retA, retA1, retL, rowOf, srcRows, gslot, Value.oneCell', ↓reduceIte, reduceCtorEq, eq_self, ne_eq, imp_self, forall_const, Nat.reduceEqDiff, Nat.reduceAdd, Nat.reduceSub, Nat.reduceMul, Nat.reduceLT, Nat.reduceLeDiff, Nat.reduceBEq, Nat.reduceDiv, Nat.reduceMod, Int.reduceToNat, Int.reduceNeg, Int.reduceAdd, Int.reduceSub, Int.reduceMul, Int.reduceEq, Int.reduceNe, Int.reduceLT, Int.reduceLE, Int.reduceGT, Int.reduceGE, h3, h8, h9, h10]
      refine newI_intro fun p5 hp5 => ?_
      have hg : l[i]? = some (l.getD i default) := by rw [List.getD_eq_getElem?_getD, List.getElem?_eq_getElem hi']; rfl
      generalize hq : l.getD i default = q at hg
      simp -implicitDefEqProofs (maxSteps := 1000000) (disch := omega) only [↓xsP, ↓vc_seq, xsQ, xsT, xsR, tch, tOf, idsOf, storeE, eqA, fitC, fitL, eqCells, eqL, isNilS, absL, loadA, storeA, fieldAddrA, lenA, sliceA, boundA, buildA, placesOf, overw, buildSliceA, makeSliceA, clearA, unA, convA, extractA, fieldA, indexA, nilChk, capsA, retA, retA1, retL, rowOf, srcRows, gslot, Value.oneCell', ↓reduceIte, reduceCtorEq, eq_self, ne_eq, imp_self, forall_const, Nat.reduceEqDiff, Nat.reduceAdd, Nat.reduceSub, Nat.reduceMul, Nat.reduceLT, Nat.reduceLeDiff, Nat.reduceBEq, Nat.reduceDiv, Nat.reduceMod, Int.reduceToNat, Int.reduceNeg, Int.reduceAdd, Int.reduceSub, Int.reduceMul, Int.reduceEq, Int.reduceNe, Int.reduceLT, Int.reduceLE, Int.reduceGT, Int.reduceGE, h3, h8, h9, h10, hg]
      refine callI_of ((modelDo_spec (putL (l.take i)) (by have := putL_len (l.take i); rw [List.length_take] at this; omega) (putOp q) id _ ?_).mono ?_)
      · have h5 := lt_of_bnd hp5 (Mem.set_eq _ _ _)
        simp (disch := omega) only [Mem.set_eq, Mem.set_ne]
      · rintro _ _ ⟨rfl, rfl⟩
        have h5 := lt_of_bnd hp5 (Mem.set_eq _ _ _)
        have hpM := (bnd_new hp5).2
        simp -implicitDefEqProofs (maxSteps := 1000000) (disch := omega) only [↓xsP, ↓vc_seq, xsQ, xsT, xsR, tch, tOf, idsOf, storeE, eqA, fitC, fitL, eqCells, eqL, isNilS, absL, loadA, storeA, fieldAddrA, lenA, sliceA, boundA, buildA, placesOf, overw, buildSliceA, makeSliceA, clearA, unA, convA, extractA, fieldA, indexA, nilChk, capsA, retA, retA1, retL, rowOf, srcRows, gslot, Value.oneCell', ↓reduceIte, reduceCtorEq, eq_self, ne_eq, imp_self, forall_const, Nat.reduceEqDiff, Nat.reduceAdd, Nat.reduceSub, Nat.reduceMul, Nat.reduceLT, Nat.reduceLeDiff, Nat.reduceBEq, Nat.reduceDiv, Nat.reduceMod, Int.reduceToNat, Int.reduceNeg, Int.reduceAdd, Int.reduceSub, Int.reduceMul, Int.reduceEq, Int.reduceNe, Int.reduceLT, Int.reduceLE, Int.reduceGT, Int.reduceGE, h3, h8, h9, h10]
        refine ⟨_, _, ?_, GStep.le (le_seti (N := _) (b := mapB (putL (l.take (i + 1)))) (M := M) ?_ fun k bk hk h => ?_), i + 1, by omega, rfl, rfl, rfl⟩
        · omega
        · rw [putL_take _ hi', hq, Mem.set_eq]
        · have := lt_of_bnd hid h
          simp (disch := omega) only [Mem.set_ne, h]
    · have hi' : i = l.length := by omega
      subst hi'
      simp -implicitDefEqProofs (maxSteps := 1000000) (disch := omega) only [↓xsP, ↓vc_seq, xsQ, xsT, xsR, tch, tOf, idsOf, storeE, eqA, fitC, fitL, eqCells, eqL, isNilS, absL, loadA, storeA, fieldAddrA, lenA, sliceA, boundA, buildA, placesOf, overw, buildSliceA, makeSliceA, clearA, unA, convA, extractA, fieldA, indexA, nilChk, capsA, retA, retA1, retL, rowOf, srcRows, gslot, Value.oneCell', ↓reduceIte, reduceCtorEq, eq_self, ne_eq, imp_self, forall_const, Nat.reduceEqDiff, Nat.reduceAdd, Nat.reduceSub, Nat.reduceMul, Nat.reduceLT, Nat.reduceLeDiff, Nat.reduceBEq, Nat.reduceDiv, Nat.reduceMod, Int.reduceToNat, Int.reduceNeg, Int.reduceAdd, Int.reduceSub, Int.reduceMul, Int.reduceEq, Int.reduceNe, Int.reduceLT, Int.reduceLE, Int.reduceGT, Int.reduceGE, h3]
      refine fin_ok (Mem.le_refl _) ⟨id, hid, rfl, ?_⟩
      rw [List.take_length]

/-- A slice of operations, kept or of a live block. -/
def OpsIs (M : Mem) (s : Lf) (l : List Opn) : Prop := ∃ ido keep, (s = .sl (l.map Opn.row) ∧ True) ∨ (s = .ms ido 0 l.length ∧ M ido = some (.cells 30 (l.map Opn.row) keep))
theorem OpsIs.sl (M : Mem) (l : List Opn) : OpsIs M (.sl (l.map Opn.row)) l := ⟨0, 0, .inl ⟨rfl, trivial⟩⟩
theorem OpsIs.ms {M : Mem} {l : List Opn} {id n keep : Nat} {rows : List (List Lf)} (h : M id = some (.cells 30 rows keep)) (hr : rows = l.map Opn.row) (hn : n = l.length) : OpsIs M (.ms id 0 n) l := ⟨id, keep, .inr ⟨by rw [hn], by rw [h, hr]⟩⟩
noncomputable def runL (s : List Pr) (ops : List Opn) : List Pr := ops.foldl doL s
noncomputable def runA : List Pr → List Opn → List Ans
  | _, [] => []
  | s, op :: r => doA s op :: runA (doL s op) r
theorem runL_snoc (s : List Pr) (l : List Opn) (op : Opn) : runL s (l ++ [op]) = doL (runL s l) op := by simp [runL, List.foldl_append]
theorem runA_snoc (s : List Pr) (l : List Opn) (op : Opn) : runA s (l ++ [op]) = runA s l ++ [doA (runL s l) op] := by
  induction l generalizing s with
  | nil => rfl
  | cons x r ih => 
    show doA s x :: runA (doL s x) (r ++ [op]) = _
    rw [ih]
    rfl
theorem runA_len (s : List Pr) (l : List Opn) : (runA s l).length = l.length := by
  induction l generalizing s with
  | nil => rfl
  | cons x r ih => simp [runA, ih]
theorem take_snoc {α : Type} [Inhabited α] (l : List α) {i : Nat} (hi : i < l.length) : l.take (i + 1) = l.take i ++ [l.getD i default] := by
  rw [List.take_add_one, List.getD_eq_getElem?_getD, List.getElem?_eq_getElem hi]
  rfl
theorem runL_len (s : List Pr) (l : List Opn) : (runL s l).length ≤ s.length + l.length := by
  induction l generalizing s with
  | nil => simp [runL]
  | cons x r ih =>
    have h1 := ih (doL s x)
    have h2 := doL_len s x
    have h3 : runL s (x :: r) = runL (doL s x) r := rfl
    rw [h3]
    simp only [List.length_cons]
    omega
theorem le_seti2 {M N : Mem} {id id2 : Nat} {b b2 : Blk} (h1 : N id = some b) (h1' : N id2 = some b2) (h2 : ∀ k bk, k ≠ id → k ≠ id2 → M k = some bk → N k = some bk) : ((M.set id b).set id2 b2).le N := by
  intro k bk hk
  rw [Mem.set_app] at hk
  by_cases e : id2 = k
  · rw [if_pos e] at hk
    rw [← e, h1']
    exact hk
  · rw [if_neg e, Mem.set_app] at hk
    by_cases e' : id = k
    · rw [if_pos e'] at hk
      rw [← e', h1]
      exact hk
    · rw [if_neg e'] at hk
      exact h2 k bk (fun h => e' h.symm) (fun h => e h.symm) hk

theorem run_spec (s : List Pr) (ops : List Opn) (hl : s.length + ops.length ≤ 1000001) (src : Lf) (id : Nat) (M : Mem) (hM : M id = some (mapB s)) (hs : OpsIs M src ops) :
    XCalls Go.Proofs.Try.prog 42 [.l (.ptr id 0 0), .l src] M fun r M' => r = .l (.sl ((runA s ops).map Ans.row)) ∧ M' = M.set id (mapB (runL s ops)) := by
  refine xcalls_intro (rs := [.tmp 4]) Go.Proofs.Try.func42 rfl (by kernel_rfl) rfl rfl (by kernel_rfl) (by simp) ?_
  have hM0 : M = M.set id (mapB s) := by
    funext k
    rw [Mem.set_app]
    by_cases e : id = k
    · rw [if_pos e, ← e, hM]
    · rw [if_neg e]
  obtain ⟨ido, keep, ⟨hsrc, hMo⟩ | ⟨hsrc, hMo⟩⟩ := hs
  all_goals
    simp -implicitDefEqProofs (maxSteps := 1000000) (disch := omega) only [↓xsP, ↓vc_seq, xsQ, xsT, xsR, tch, tOf, idsOf, storeE, eqA, fitC, fitL, eqCells, eqL, isNilS, absL, loadA, storeA, fieldAddrA, lenA, sliceA, boundA, buildA, placesOf, overw, buildSliceA, makeSliceA, clearA, unA, convA, extractA, fieldA, indexA, nilChk, capsA, retA, retA1, retL, rowOf, srcRows, gslot, Value.oneCell', ↓reduceIte, reduceCtorEq, eq_self, ne_eq, imp_self, forall_const, Nat.reduceEqDiff, Nat.reduceAdd, Nat.reduceSub, Nat.reduceMul, Nat.reduceLT, Nat.reduceLeDiff, Nat.reduceBEq, Nat.reduceDiv, Nat.reduceMod, Int.reduceToNat, Int.reduceNeg, Int.reduceAdd, Int.reduceSub, Int.reduceMul, Int.reduceEq, Int.reduceNe, Int.reduceLT, Int.reduceLE, Int.reduceGT, Int.reduceGE, hsrc]
    refine loopI_of (xloop (by kernel_rfl) (fun k fr M' => ∃ i : Nat, i ≤ ops.length ∧ k = ops.length - i ∧ fr 0 = .l (.ptr id 0 0) ∧ fr 10 = .l src ∧ fr 11 = .l (.int .i64 ops.length) ∧ fr 12 = .l (.int .i64 i) ∧ ((i = 0 ∧ fr 5 = .l .nils ∧ M' = M) ∨ ∃ idO, (∀ j, idO ≤ j → M j = none) ∧ fr 5 = .l (.ms idO 0 i) ∧ M' = (M.set id (mapB (runL s (ops.take i)))).set idO (.cells 36 ((runA s (ops.take i)).map Ans.row) 0))) ops.length ?_ ?_)
    · exact ⟨0, Nat.zero_le _, rfl, by simp -implicitDefEqProofs (maxSteps := 1000000) (disch := omega) only [↓xsP, ↓vc_seq, xsQ, xsT, xsR, tch, tOf, idsOf, storeE, eqA, fitC, fitL, eqCells, eqL, isNilS, absL, loadA, storeA, fieldAddrA, lenA, sliceA, boundA, buildA, placesOf, overw, buildSliceA, makeSliceA, clearA, unA, convA, extractA, fieldA, indexA, nilChk, capsA, retA, retA1, retL, rowOf, srcRows, gslot, Value.oneCell', ↓reduceIte, reduceCtorEq, eq_self, ne_eq, imp_self, forall_const, Nat.reduceEqDiff, Nat.reduceAdd, Nat.reduceSub, Nat.reduceMul, Nat.reduceLT, Nat.reduceLeDiff, Nat.reduceBEq, Nat.reduceDiv, Nat.reduceMod, Int.reduceToNat, Int.reduceNeg, Int.reduceAdd, Int.reduceSub, Int.reduceMul, Int.reduceEq, Int.reduceNe, Int.reduceLT, Int.reduceLE, Int.reduceGT, Int.reduceGE], by simp -implicitDefEqProofs (maxSteps := 1000000) (disch := omega) only [↓xsP, ↓vc_seq, xsQ, xsT, xsR, tch, tOf, idsOf, storeE, eqA, fitC, fitL, eqCells, eqL, isNilS, absL, loadA, storeA, fieldAddrA, lenA, sliceA, boundA, buildA, placesOf, overw, buildSliceA, makeSliceA, clearA, unA, convA, extractA, fieldA, indexA, nilChk, capsA, retA, retA1, retL, rowOf, srcRows, gslot, Value.oneCell', ↓reduceIte, reduceCtorEq, eq_self, ne_eq, imp_self, forall_const, Nat.reduceEqDiff, Nat.reduceAdd, Nat.reduceSub, Nat.reduceMul, Nat.reduceLT, Nat.reduceLeDiff, Nat.reduceBEq, Nat.reduceDiv, Nat.reduceMod, Int.reduceToNat, Int.reduceNeg, Int.reduceAdd, Int.reduceSub, Int.reduceMul, Int.reduceEq, Int.reduceNe, Int.reduceLT, Int.reduceLE, Int.reduceGT, Int.reduceGE, hsrc], by simp -implicitDefEqProofs (maxSteps := 1000000) (disch := omega) only [↓xsP, ↓vc_seq, xsQ, xsT, xsR, tch, tOf, idsOf, storeE, eqA, fitC, fitL, eqCells, eqL, isNilS, absL, loadA, storeA, fieldAddrA, lenA, sliceA, boundA, buildA, placesOf, overw, buildSliceA, makeSliceA, clearA, unA, convA, extractA, fieldA, indexA, nilChk, capsA, retA, retA1, retL, rowOf, srcRows, gslot, Value.oneCell', ↓reduceIte, reduceCtorEq, eq_self, ne_eq, imp_self, forall_const, Nat.reduceEqDiff, Nat.reduceAdd, Nat.reduceSub, Nat.reduceMul, Nat.reduceLT, Nat.reduceLeDiff, Nat.reduceBEq, Nat.reduceDiv, Nat.reduceMod, Int.reduceToNat, Int.reduceNeg, Int.reduceAdd, Int.reduceSub, Int.reduceMul, Int.reduceEq, Int.reduceNe, Int.reduceLT, Int.reduceLE, Int.reduceGT, Int.reduceGE], by simp -implicitDefEqProofs (maxSteps := 1000000) (disch := omega) only [↓xsP, ↓vc_seq, xsQ, xsT, xsR, tch, tOf, idsOf, storeE, eqA, fitC, fitL, eqCells, eqL, isNilS, absL, loadA, storeA, fieldAddrA, lenA, sliceA, boundA, buildA, placesOf, overw, buildSliceA, makeSliceA, clearA, unA, convA, extractA, fieldA, indexA, nilChk, capsA, retA, retA1, retL, rowOf, srcRows, gslot, Value.oneCell', ↓reduceIte, reduceCtorEq, eq_self, ne_eq, imp_self, forall_const, Nat.reduceEqDiff, Nat.reduceAdd, Nat.reduceSub, Nat.reduceMul, Nat.reduceLT, Nat.reduceLeDiff, Nat.reduceBEq, Nat.reduceDiv, Nat.reduceMod, Int.reduceToNat, Int.reduceNeg, Int.reduceAdd, Int.reduceSub, Int.reduceMul, Int.reduceEq, Int.reduceNe, Int.reduceLT, Int.reduceLE, Int.reduceGT, Int.reduceGE, Int.cast_ofNat_Int], .inl ⟨rfl, by simp -implicitDefEqProofs (maxSteps := 1000000) (disch := omega) only [↓xsP, ↓vc_seq, xsQ, xsT, xsR, tch, tOf, idsOf, storeE, eqA, fitC, fitL, eqCells, eqL, isNilS, absL, loadA, storeA, fieldAddrA, lenA, sliceA, boundA, buildA, placesOf, overw, buildSliceA, makeSliceA, clearA, unA, convA, extractA, fieldA, indexA, nilChk, capsA, retA, retA1, retL, rowOf, srcRows, gslot, Value.oneCell', ↓reduceIte, reduceCtorEq, eq_self, ne_eq, imp_self, forall_const, Nat.reduceEqDiff, Nat.reduceAdd, Nat.reduceSub, Nat.reduceMul, Nat.reduceLT, Nat.reduceLeDiff, Nat.reduceBEq, Nat.reduceDiv, Nat.reduceMod, Int.reduceToNat, Int.reduceNeg, Int.reduceAdd, Int.reduceSub, Int.reduceMul, Int.reduceEq, Int.reduceNe, Int.reduceLT, Int.reduceLE, Int.reduceGT, Int.reduceGE], rfl⟩⟩
    · rintro k fr M' ⟨i, hi, rfl, h0, h10, h11, h12, hm⟩
      simp -implicitDefEqProofs (maxSteps := 1000000) (disch := omega) only [↓xsP, ↓vc_seq, xsQ, xsT, xsR, tch, tOf, idsOf, storeE, eqA, fitC, fitL, eqCells, eqL, isNilS, absL, loadA, storeA, fieldAddrA, lenA, sliceA, boundA, buildA, placesOf, overw, buildSliceA, makeSliceA, clearA, unA, convA, extractA, fieldA, indexA, nilChk, capsA, retA, retA1, retL, rowOf, srcRows, gslot, Value.oneCell', ↓reduceIte, reduceCtorEq, eq_self, ne_eq, imp_self, forall_const, Nat.reduceEqDiff, Nat.reduceAdd, Nat.reduceSub, Nat.reduceMul, Nat.reduceLT, Nat.reduceLeDiff, Nat.reduceBEq, Nat.reduceDiv, Nat.reduceMod, Int.reduceToNat, Int.reduceNeg, Int.reduceAdd, Int.reduceSub, Int.reduceMul, Int.reduceEq, Int.reduceNe, Int.reduceLT, Int.reduceLE, Int.reduceGT, Int.reduceGE, h0, h10, h11, h12]
      refine condI_prop (fun hlt => ?_) (fun hlt => ?_)
      · have hi' : i < ops.length := by omega
        have hlen := runL_len s (ops.take i)
        rw [List.length_take] at hlen
        obtain ⟨q, hq⟩ : ∃ q, ops.getD i default = q := ⟨_, rfl⟩
        have hrun : runL s (ops.take (i + 1)) = doL (runL s (ops.take i)) q := by rw [take_snoc _ hi', runL_snoc, hq]
        have hans : runA s (ops.take (i + 1)) = runA s (ops.take i) ++ [doA (runL s (ops.take i)) q] := by rw [take_snoc _ hi', runA_snoc, hq]
        have hal : (runA s (ops.take i)).length = i := by rw [runA_len, List.length_take]; omega
        try have hne : id ≠ ido := fun e => by subst e; rw [hM] at hMo; cases hMo
        rcases hm with ⟨rfl, h5, hMM⟩ | ⟨idO, hO, h5, rfl⟩
        · subst M'
          simp -implicitDefEqProofs (maxSteps := 1000000) (disch := omega) only [↓xsP, ↓vc_seq, xsQ, xsT, xsR, tch, tOf, idsOf, storeE, eqA, fitC, fitL, eqCells, eqL, isNilS, absL, loadA, storeA, fieldAddrA, lenA, sliceA, boundA, buildA, placesOf, overw, buildSliceA, makeSliceA, clearA, unA, convA, extractA, fieldA, indexA, nilChk, capsA, retA, retA1, retL, rowOf, srcRows, gslot, Value.oneCell', ↓reduceIte, reduceCtorEq, eq_self, ne_eq, imp_self, forall_const, Nat.reduceEqDiff, Nat.reduceAdd, Nat.reduceSub, Nat.reduceMul, Nat.reduceLT, Nat.reduceLeDiff, Nat.reduceBEq, Nat.reduceDiv, Nat.reduceMod, Int.reduceToNat, Int.reduceNeg, Int.reduceAdd, Int.reduceSub, Int.reduceMul, Int.reduceEq, Int.reduceNe, Int.reduceLT, Int.reduceLE, Int.reduceGT, Int.reduceGE, h0, h10, h11, h12, h5, hq, hsrc, hMo]
          refine newI_intro fun p7 hp7 => ?_
          have h7 := lt_of_bnd hp7 hM
          try have h7o := lt_of_bnd hp7 hMo
          simp -implicitDefEqProofs (maxSteps := 1000000) (disch := omega) only [↓xsP, ↓vc_seq, xsQ, xsT, xsR, tch, tOf, idsOf, storeE, eqA, fitC, fitL, eqCells, eqL, isNilS, absL, loadA, storeA, fieldAddrA, lenA, sliceA, boundA, buildA, placesOf, overw, buildSliceA, makeSliceA, clearA, unA, convA, extractA, fieldA, indexA, nilChk, capsA, retA, retA1, retL, rowOf, srcRows, gslot, Value.oneCell', ↓reduceIte, reduceCtorEq, eq_self, ne_eq, imp_self, forall_const, Nat.reduceEqDiff, Nat.reduceAdd, Nat.reduceSub, Nat.reduceMul, Nat.reduceLT, Nat.reduceLeDiff, Nat.reduceBEq, Nat.reduceDiv, Nat.reduceMod, Int.reduceToNat, Int.reduceNeg, Int.reduceAdd, Int.reduceSub, Int.reduceMul, Int.reduceEq, Int.reduceNe, Int.reduceLT, Int.reduceLE, Int.reduceGT, Int.reduceGE, h0, h10, h11, h12, h5, hq, hsrc, hMo]
          refine callI_of ((modelDo_spec s (by omega) q id _ (by simp (disch := omega) only [Mem.set_ne, hM])).mono ?_)
          rintro _ _ ⟨rfl, rfl⟩
          simp -implicitDefEqProofs (maxSteps := 1000000) (disch := omega) only [↓xsP, ↓vc_seq, xsQ, xsT, xsR, tch, tOf, idsOf, storeE, eqA, fitC, fitL, eqCells, eqL, isNilS, absL, loadA, storeA, fieldAddrA, lenA, sliceA, boundA, buildA, placesOf, overw, buildSliceA, makeSliceA, clearA, unA, convA, extractA, fieldA, indexA, nilChk, capsA, retA, retA1, retL, rowOf, srcRows, gslot, Value.oneCell', ↓reduceIte, reduceCtorEq, eq_self, ne_eq, imp_self, forall_const, Nat.reduceEqDiff, Nat.reduceAdd, Nat.reduceSub, Nat.reduceMul, Nat.reduceLT, Nat.reduceLeDiff, Nat.reduceBEq, Nat.reduceDiv, Nat.reduceMod, Int.reduceToNat, Int.reduceNeg, Int.reduceAdd, Int.reduceSub, Int.reduceMul, Int.reduceEq, Int.reduceNe, Int.reduceLT, Int.reduceLE, Int.reduceGT, Int.reduceGE, h0, h10, h11, h12, h5, hq, hsrc, hMo]
          refine newI_intro fun pb hpb => ?_
          simp -implicitDefEqProofs (maxSteps := 1000000) (disch := omega) only [↓xsP, ↓vc_seq, xsQ, xsT, xsR, tch, tOf, idsOf, storeE, eqA, fitC, fitL, eqCells, eqL, isNilS, absL, loadA, storeA, fieldAddrA, lenA, sliceA, boundA, buildA, placesOf, overw, buildSliceA, makeSliceA, clearA, unA, convA, extractA, fieldA, indexA, nilChk, capsA, retA, retA1, retL, rowOf, srcRows, gslot, Value.oneCell', ↓reduceIte, reduceCtorEq, eq_self, ne_eq, imp_self, forall_const, Nat.reduceEqDiff, Nat.reduceAdd, Nat.reduceSub, Nat.reduceMul, Nat.reduceLT, Nat.reduceLeDiff, Nat.reduceBEq, Nat.reduceDiv, Nat.reduceMod, Int.reduceToNat, Int.reduceNeg, Int.reduceAdd, Int.reduceSub, Int.reduceMul, Int.reduceEq, Int.reduceNe, Int.reduceLT, Int.reduceLE, Int.reduceGT, Int.reduceGE, h0, h10, h11, h12, h5, hq, hsrc, hMo]
          refine app_nils _ _ _ _ 36 _ _ ti_61 rfl ti_36 (by kernel_rfl) (by decide) _ [(doA s q).row] ?_ ?_ ?_ ?_ ?_
          · simp -implicitDefEqProofs (maxSteps := 1000000) (disch := omega) only [↓xsP, ↓vc_seq, xsQ, xsT, xsR, tch, tOf, idsOf, storeE, eqA, fitC, fitL, eqCells, eqL, isNilS, absL, loadA, storeA, fieldAddrA, lenA, sliceA, boundA, buildA, placesOf, overw, buildSliceA, makeSliceA, clearA, unA, convA, extractA, fieldA, indexA, nilChk, capsA, retA, retA1, retL, rowOf, srcRows, gslot, Value.oneCell', ↓reduceIte, reduceCtorEq, eq_self, ne_eq, imp_self, forall_const, Nat.reduceEqDiff, Nat.reduceAdd, Nat.reduceSub, Nat.reduceMul, Nat.reduceLT, Nat.reduceLeDiff, Nat.reduceBEq, Nat.reduceDiv, Nat.reduceMod, Int.reduceToNat, Int.reduceNeg, Int.reduceAdd, Int.reduceSub, Int.reduceMul, Int.reduceEq, Int.reduceNe, Int.reduceLT, Int.reduceLE, Int.reduceGT, Int.reduceGE]
          · simp
          · simp
          · simp
          · intro _ idA hidA
            obtain ⟨hbA, hidA⟩ := bnd_new hidA
            obtain ⟨hiA, hidA⟩ := bnd_new hidA
            obtain ⟨h7A, hidA⟩ := bnd_new hidA
            obtain ⟨hib, hpb⟩ := bnd_new hpb
            obtain ⟨h7b, hpb⟩ := bnd_new hpb
            simp -implicitDefEqProofs (maxSteps := 1000000) (disch := omega) only [↓xsP, ↓vc_seq, xsQ, xsT, xsR, tch, tOf, idsOf, storeE, eqA, fitC, fitL, eqCells, eqL, isNilS, absL, loadA, storeA, fieldAddrA, lenA, sliceA, boundA, buildA, placesOf, overw, buildSliceA, makeSliceA, clearA, unA, convA, extractA, fieldA, indexA, nilChk, capsA, retA, retA1, retL, rowOf, srcRows, gslot, Value.oneCell', ↓reduceIte, reduceCtorEq, eq_self, ne_eq, imp_self, forall_const, Nat.reduceEqDiff, Nat.reduceAdd, Nat.reduceSub, Nat.reduceMul, Nat.reduceLT, Nat.reduceLeDiff, Nat.reduceBEq, Nat.reduceDiv, Nat.reduceMod, Int.reduceToNat, Int.reduceNeg, Int.reduceAdd, Int.reduceSub, Int.reduceMul, Int.reduceEq, Int.reduceNe, Int.reduceLT, Int.reduceLE, Int.reduceGT, Int.reduceGE, h0, h10, h11, h12, h5, hq, hsrc, hMo]
            refine ⟨_, (M.set id (mapB (runL s (ops.take (0 + 1))))).set idA (.cells 36 ((runA s (ops.take (0 + 1))).map Ans.row) 0), ?_, le_seti2 ?_ ?_ ?_, 0 + 1, by omega, rfl, rfl, .inr ⟨idA, hidA, rfl, rfl⟩⟩
            · omega
            · rw [hrun]
              simp (disch := omega) only [Mem.set_eq, Mem.set_ne]
              rfl
            · rw [hans]
              simp (disch := omega) only [Mem.set_eq, Mem.set_ne]
              rfl
            · intro k bk hk1 hk2 hk
              have := lt_of_bnd hp7 hk
              simp (disch := omega) only [Mem.set_eq, Mem.set_ne, hk]
        · have hio := lt_of_bnd hO hM
          try have hioo := lt_of_bnd hO hMo
          simp -implicitDefEqProofs (maxSteps := 1000000) (disch := omega) only [↓xsP, ↓vc_seq, xsQ, xsT, xsR, tch, tOf, idsOf, storeE, eqA, fitC, fitL, eqCells, eqL, isNilS, absL, loadA, storeA, fieldAddrA, lenA, sliceA, boundA, buildA, placesOf, overw, buildSliceA, makeSliceA, clearA, unA, convA, extractA, fieldA, indexA, nilChk, capsA, retA, retA1, retL, rowOf, srcRows, gslot, Value.oneCell', ↓reduceIte, reduceCtorEq, eq_self, ne_eq, imp_self, forall_const, Nat.reduceEqDiff, Nat.reduceAdd, Nat.reduceSub, Nat.reduceMul, Nat.reduceLT, Nat.reduceLeDiff, Nat.reduceBEq, Nat.reduceDiv, Nat.reduceMod, Int.reduceToNat, Int.reduceNeg, Int.reduceAdd, Int.reduceSub, Int.reduceMul, Int.reduceEq, Int.reduceNe, Int.reduceLT, Int.reduceLE, Int.reduceGT, Int.reduceGE, h0, h10, h11, h12, h5, hq, hsrc, hMo]
          refine newI_intro fun p7 hp7 => ?_
          obtain ⟨hO7, hp7'⟩ := bnd_new hp7
          simp -implicitDefEqProofs (maxSteps := 1000000) (disch := omega) only [↓xsP, ↓vc_seq, xsQ, xsT, xsR, tch, tOf, idsOf, storeE, eqA, fitC, fitL, eqCells, eqL, isNilS, absL, loadA, storeA, fieldAddrA, lenA, sliceA, boundA, buildA, placesOf, overw, buildSliceA, makeSliceA, clearA, unA, convA, extractA, fieldA, indexA, nilChk, capsA, retA, retA1, retL, rowOf, srcRows, gslot, Value.oneCell', ↓reduceIte, reduceCtorEq, eq_self, ne_eq, imp_self, forall_const, Nat.reduceEqDiff, Nat.reduceAdd, Nat.reduceSub, Nat.reduceMul, Nat.reduceLT, Nat.reduceLeDiff, Nat.reduceBEq, Nat.reduceDiv, Nat.reduceMod, Int.reduceToNat, Int.reduceNeg, Int.reduceAdd, Int.reduceSub, Int.reduceMul, Int.reduceEq, Int.reduceNe, Int.reduceLT, Int.reduceLE, Int.reduceGT, Int.reduceGE, h0, h10, h11, h12, h5, hq, hsrc, hMo]
          refine callI_of ((modelDo_spec (runL s (ops.take i)) (by omega) q id _ (by simp (disch := omega) only [Mem.set_ne, Mem.set_eq])).mono ?_)
          rintro _ _ ⟨rfl, rfl⟩
          simp -implicitDefEqProofs (maxSteps := 1000000) (disch := omega) only [↓xsP, ↓vc_seq, xsQ, xsT, xsR, tch, tOf, idsOf, storeE, eqA, fitC, fitL, eqCells, eqL, isNilS, absL, loadA, storeA, fieldAddrA, lenA, sliceA, boundA, buildA, placesOf, overw, buildSliceA, makeSliceA, clearA, unA, convA, extractA, fieldA, indexA, nilChk, capsA, retA, retA1, retL, rowOf, srcRows, gslot, Value.oneCell', ↓reduceIte, reduceCtorEq, eq_self, ne_eq, imp_self, forall_const, Nat.reduceEqDiff, Nat.reduceAdd, Nat.reduceSub, Nat.reduceMul, Nat.reduceLT, Nat.reduceLeDiff, Nat.reduceBEq, Nat.reduceDiv, Nat.reduceMod, Int.reduceToNat, Int.reduceNeg, Int.reduceAdd, Int.reduceSub, Int.reduceMul, Int.reduceEq, Int.reduceNe, Int.reduceLT, Int.reduceLE, Int.reduceGT, Int.reduceGE, h0, h10, h11, h12, h5, hq, hsrc, hMo]
          refine newI_intro fun pb hpb => ?_
          simp -implicitDefEqProofs (maxSteps := 1000000) (disch := omega) only [↓xsP, ↓vc_seq, xsQ, xsT, xsR, tch, tOf, idsOf, storeE, eqA, fitC, fitL, eqCells, eqL, isNilS, absL, loadA, storeA, fieldAddrA, lenA, sliceA, boundA, buildA, placesOf, overw, buildSliceA, makeSliceA, clearA, unA, convA, extractA, fieldA, indexA, nilChk, capsA, retA, retA1, retL, rowOf, srcRows, gslot, Value.oneCell', ↓reduceIte, reduceCtorEq, eq_self, ne_eq, imp_self, forall_const, Nat.reduceEqDiff, Nat.reduceAdd, Nat.reduceSub, Nat.reduceMul, Nat.reduceLT, Nat.reduceLeDiff, Nat.reduceBEq, Nat.reduceDiv, Nat.reduceMod, Int.reduceToNat, Int.reduceNeg, Int.reduceAdd, Int.reduceSub, Int.reduceMul, Int.reduceEq, Int.reduceNe, Int.reduceLT, Int.reduceLE, Int.reduceGT, Int.reduceGE, h0, h10, h11, h12, h5, hq, hsrc, hMo]
          refine app_ms _ _ _ _ 36 _ _ ti_61 rfl ti_36 (by kernel_rfl) (by decide) idO i _ (rows := (runA s (ops.take i)).map Ans.row) (keep := 0) [(doA (runL s (ops.take i)) q).row] ?_ ?_ ?_ (Nat.zero_le _) ?_ ?_ ?_
          · obtain ⟨hib, hpb⟩ := bnd_new hpb
            obtain ⟨h7b, hpb⟩ := bnd_new hpb
            obtain ⟨hOb, hpb⟩ := bnd_new hpb
            simp (disch := omega) only [Mem.set_eq, Mem.set_ne]
          · simp -implicitDefEqProofs (maxSteps := 1000000) (disch := omega) only [↓xsP, ↓vc_seq, xsQ, xsT, xsR, tch, tOf, idsOf, storeE, eqA, fitC, fitL, eqCells, eqL, isNilS, absL, loadA, storeA, fieldAddrA, lenA, sliceA, boundA, buildA, placesOf, overw, buildSliceA, makeSliceA, clearA, unA, convA, extractA, fieldA, indexA, nilChk, capsA, retA, retA1, retL, rowOf, srcRows, gslot, Value.oneCell', ↓reduceIte, reduceCtorEq, eq_self, ne_eq, imp_self, forall_const, Nat.reduceEqDiff, Nat.reduceAdd, Nat.reduceSub, Nat.reduceMul, Nat.reduceLT, Nat.reduceLeDiff, Nat.reduceBEq, Nat.reduceDiv, Nat.reduceMod, Int.reduceToNat, Int.reduceNeg, Int.reduceAdd, Int.reduceSub, Int.reduceMul, Int.reduceEq, Int.reduceNe, Int.reduceLT, Int.reduceLE, Int.reduceGT, Int.reduceGE]
          · simp [hal]
          · exact Nat.le_trans (Nat.mul_le_mul_right _ (show i + [(doA (runL s (ops.take i)) q).row].length ≤ 1000002 by simp; omega)) (by decide)
          · simp
            omega
          · intro idA hidA
            obtain ⟨hbA, hidA⟩ := bnd_new hidA
            obtain ⟨hiA, hidA⟩ := bnd_new hidA
            obtain ⟨h7A, hidA⟩ := bnd_new hidA
            obtain ⟨hOA, hidA⟩ := bnd_new hidA
            obtain ⟨_, hidA⟩ := bnd_new hidA
            obtain ⟨hib, hpb⟩ := bnd_new hpb
            obtain ⟨h7b, hpb⟩ := bnd_new hpb
            obtain ⟨hOb, hpb⟩ := bnd_new hpb
            simp -implicitDefEqProofs (maxSteps := 1000000) (disch := omega) only [↓xsP, ↓vc_seq, xsQ, xsT, xsR, tch, tOf, idsOf, storeE, eqA, fitC, fitL, eqCells, eqL, isNilS, absL, loadA, storeA, fieldAddrA, lenA, sliceA, boundA, buildA, placesOf, overw, buildSliceA, makeSliceA, clearA, unA, convA, extractA, fieldA, indexA, nilChk, capsA, retA, retA1, retL, rowOf, srcRows, gslot, Value.oneCell', ↓reduceIte, reduceCtorEq, eq_self, ne_eq, imp_self, forall_const, Nat.reduceEqDiff, Nat.reduceAdd, Nat.reduceSub, Nat.reduceMul, Nat.reduceLT, Nat.reduceLeDiff, Nat.reduceBEq, Nat.reduceDiv, Nat.reduceMod, Int.reduceToNat, Int.reduceNeg, Int.reduceAdd, Int.reduceSub, Int.reduceMul, Int.reduceEq, Int.reduceNe, Int.reduceLT, Int.reduceLE, Int.reduceGT, Int.reduceGE, h0, h10, h11, h12, h5, hq, hsrc, hMo]
            refine ⟨_, (M.set id (mapB (runL s (ops.take (i + 1))))).set idA (.cells 36 ((runA s (ops.take (i + 1))).map Ans.row) 0), ?_, le_seti2 ?_ ?_ ?_, i + 1, by omega, rfl, rfl, .inr ⟨idA, hidA, rfl, rfl⟩⟩
            · omega
            · rw [hrun]
              simp (disch := omega) only [Mem.set_eq, Mem.set_ne, Mem.del_ne]
            · rw [hans, List.map_append, List.take_of_length_le (l := (runA s (ops.take i)).map Ans.row) (by simp [hal])]
              simp (disch := omega) only [Mem.set_eq, Mem.set_ne]
              rfl
            · intro k bk hk1 hk2 hk
              have := lt_of_bnd hO hk
              simp (disch := omega) only [Mem.set_eq, Mem.set_ne, Mem.del_ne, hk]
      · have hi' : i = ops.length := by omega
        subst hi'
        rcases hm with ⟨hn, h5, rfl⟩ | ⟨idO, hO, h5, rfl⟩
        · simp -implicitDefEqProofs (maxSteps := 1000000) (disch := omega) only [↓xsP, ↓vc_seq, xsQ, xsT, xsR, tch, tOf, idsOf, storeE, eqA, fitC, fitL, eqCells, eqL, isNilS, absL, loadA, storeA, fieldAddrA, lenA, sliceA, boundA, buildA, placesOf, overw, buildSliceA, makeSliceA, clearA, unA, convA, extractA, fieldA, indexA, nilChk, capsA, retA, retA1, retL, rowOf, srcRows, gslot, Value.oneCell', ↓reduceIte, reduceCtorEq, eq_self, ne_eq, imp_self, forall_const, Nat.reduceEqDiff, Nat.reduceAdd, Nat.reduceSub, Nat.reduceMul, Nat.reduceLT, Nat.reduceLeDiff, Nat.reduceBEq, Nat.reduceDiv, Nat.reduceMod, Int.reduceToNat, Int.reduceNeg, Int.reduceAdd, Int.reduceSub, Int.reduceMul, Int.reduceEq, Int.reduceNe, Int.reduceLT, Int.reduceLE, Int.reduceGT, Int.reduceGE, h0, h10, h11, h12, h5]
          have h0' : ops = [] := List.eq_nil_of_length_eq_zero hn
          subst h0'
          exact finI_of (XFin.wk (XFin.here ⟨rfl, hM0⟩))
        · have hio := lt_of_bnd hO hM
          simp -implicitDefEqProofs (maxSteps := 1000000) (disch := omega) only [↓xsP, ↓vc_seq, xsQ, xsT, xsR, tch, tOf, idsOf, storeE, eqA, fitC, fitL, eqCells, eqL, isNilS, absL, loadA, storeA, fieldAddrA, lenA, sliceA, boundA, buildA, placesOf, overw, buildSliceA, makeSliceA, clearA, unA, convA, extractA, fieldA, indexA, nilChk, capsA, retA, retA1, retL, rowOf, srcRows, gslot, Value.oneCell', ↓reduceIte, reduceCtorEq, eq_self, ne_eq, imp_self, forall_const, Nat.reduceEqDiff, Nat.reduceAdd, Nat.reduceSub, Nat.reduceMul, Nat.reduceLT, Nat.reduceLeDiff, Nat.reduceBEq, Nat.reduceDiv, Nat.reduceMod, Int.reduceToNat, Int.reduceNeg, Int.reduceAdd, Int.reduceSub, Int.reduceMul, Int.reduceEq, Int.reduceNe, Int.reduceLT, Int.reduceLE, Int.reduceGT, Int.reduceGE, h0, h10, h11, h12, h5]
          rw [List.take_length]
          refine finI_of (XFin.frz idO (Mem.set_eq _ _ _) (XFin.le (M' := M.set id (mapB (runL s ops))) (le_seti ?_ fun k bk hk h => ?_) ⟨?_, rfl⟩))
          · simp (disch := omega) only [Mem.set_eq, Mem.set_ne]
          · have := lt_of_bnd hO h
            simp (disch := omega) only [Mem.set_eq, Mem.set_ne, h]
          · simp [frzA, frz1, frzL, List.take_of_length_le, runA_len]

theorem copy_spec (s : List Pr) (hl : s.length ≤ 1000001) (id : Nat) (M : Mem) (hM : M id = some (mapB s)) :
    XCalls Go.Proofs.Try.prog 48 [.l (.ptr id 0 0)] M fun r M' => ∃ id2, (∀ j, id2 ≤ j → M j = none) ∧ r = .l (.ptr id2 0 0) ∧ M' = M.set id2 (mapB s) := by
  refine xcalls_intro (rs := [.tmp 2]) Go.Proofs.Try.func48 rfl (by kernel_rfl) rfl rfl (by kernel_rfl) (by simp) ?_
  simp -implicitDefEqProofs (maxSteps := 1000000) (disch := omega) only [↓xsP, ↓vc_seq, xsQ, xsT, xsR, tch, tOf, idsOf, storeE, eqA, fitC, fitL, eqCells, eqL, isNilS, absL, loadA, storeA, fieldAddrA, lenA, sliceA, boundA, buildA, placesOf, overw, buildSliceA, makeSliceA, clearA, unA, convA, extractA, fieldA, indexA, nilChk, capsA, retA, retA1, retL, rowOf, srcRows, gslot, Value.oneCell', ↓reduceIte, reduceCtorEq, eq_self, ne_eq, imp_self, forall_const, Nat.reduceEqDiff, Nat.reduceAdd, Nat.reduceSub, Nat.reduceMul, Nat.reduceLT, Nat.reduceLeDiff, Nat.reduceBEq, Nat.reduceDiv, Nat.reduceMod, Int.reduceToNat, Int.reduceNeg, Int.reduceAdd, Int.reduceSub, Int.reduceMul, Int.reduceEq, Int.reduceNe, Int.reduceLT, Int.reduceLE, Int.reduceGT, Int.reduceGE, hM, mapB]
  refine call_of (clone_spec s hl M) ?_
  simp -implicitDefEqProofs (maxSteps := 1000000) (disch := omega) only [↓xsP, ↓vc_seq, xsQ, xsT, xsR, tch, tOf, idsOf, storeE, eqA, fitC, fitL, eqCells, eqL, isNilS, absL, loadA, storeA, fieldAddrA, lenA, sliceA, boundA, buildA, placesOf, overw, buildSliceA, makeSliceA, clearA, unA, convA, extractA, fieldA, indexA, nilChk, capsA, retA, retA1, retL, rowOf, srcRows, gslot, Value.oneCell', ↓reduceIte, reduceCtorEq, eq_self, ne_eq, imp_self, forall_const, Nat.reduceEqDiff, Nat.reduceAdd, Nat.reduceSub, Nat.reduceMul, Nat.reduceLT, Nat.reduceLeDiff, Nat.reduceBEq, Nat.reduceDiv, Nat.reduceMod, Int.reduceToNat, Int.reduceNeg, Int.reduceAdd, Int.reduceSub, Int.reduceMul, Int.reduceEq, Int.reduceNe, Int.reduceLT, Int.reduceLE, Int.reduceGT, Int.reduceGE]
  refine newI_intro fun p hp => ?_
  simp -implicitDefEqProofs (maxSteps := 1000000) (disch := omega) only [↓xsP, ↓vc_seq, xsQ, xsT, xsR, tch, tOf, idsOf, storeE, eqA, fitC, fitL, eqCells, eqL, isNilS, absL, loadA, storeA, fieldAddrA, lenA, sliceA, boundA, buildA, placesOf, overw, buildSliceA, makeSliceA, clearA, unA, convA, extractA, fieldA, indexA, nilChk, capsA, retA, retA1, retL, rowOf, srcRows, gslot, Value.oneCell', ↓reduceIte, reduceCtorEq, eq_self, ne_eq, imp_self, forall_const, Nat.reduceEqDiff, Nat.reduceAdd, Nat.reduceSub, Nat.reduceMul, Nat.reduceLT, Nat.reduceLeDiff, Nat.reduceBEq, Nat.reduceDiv, Nat.reduceMod, Int.reduceToNat, Int.reduceNeg, Int.reduceAdd, Int.reduceSub, Int.reduceMul, Int.reduceEq, Int.reduceNe, Int.reduceLT, Int.reduceLE, Int.reduceGT, Int.reduceGE]
  exact fin_ok (Mem.le_refl _) ⟨p, hp, rfl, rfl⟩

def aw16 : List Pr := [⟨1, 5⟩]
def aw16o : List Opn := [⟨1, 1, 0, 6⟩, ⟨4, 1, 0, 0⟩]
theorem asc1 (p : Pr) : Asc [p] := by simp [Asc]
theorem aw16_put : putL aw16 = [⟨1, 5⟩] := by
  show doL [] ⟨1, 1, 0, 5⟩ = _
  rw [doL_upd (by simp [Asc]) (by decide) (by decide)]
  decide
theorem aw16_l : runL (putL aw16) aw16o = [⟨1, 6⟩] := by
  rw [aw16_put]
  show doL (doL [⟨1, 5⟩] ⟨1, 1, 0, 6⟩) ⟨4, 1, 0, 0⟩ = _
  rw [doL_read (by decide), doL_upd (asc1 _) (by decide) (by decide)]
  decide
theorem aw16_a : runA (putL aw16) aw16o = [⟨0, true, ⟨1, 5⟩, 0, []⟩, ⟨0, true, ⟨1, 6⟩, 0, []⟩] := by
  rw [aw16_put]
  show [doA [⟨1, 5⟩] ⟨1, 1, 0, 6⟩, doA (doL [⟨1, 5⟩] ⟨1, 1, 0, 6⟩) ⟨4, 1, 0, 0⟩] = _
  have e : doL [⟨1, 5⟩] ⟨1, 1, 0, 6⟩ = [⟨1, 6⟩] := by
    rw [doL_upd (asc1 _) (by decide) (by decide)]
    decide
  rw [e, doA_one (asc1 _) (by decide) (by decide), doA_one (asc1 _) (by decide) (by decide)]
  decide
theorem awake16_spec (M : Mem) : XCalls Go.Proofs.Try.prog 40 [] M fun r M' => r = .l (.bool true) ∧ M' = M := by
  refine xcalls_intro (rs := [.tmp 0]) Go.Proofs.Try.func40 rfl (by kernel_rfl) rfl rfl (by kernel_rfl) (by simp) ?_
  simp -implicitDefEqProofs (maxSteps := 1000000) (disch := omega) only [↓xsP, ↓vc_seq, xsQ, xsT, xsR, tch, tOf, idsOf, storeE, eqA, fitC, fitL, eqCells, eqL, isNilS, absL, loadA, storeA, fieldAddrA, lenA, sliceA, boundA, buildA, placesOf, overw, buildSliceA, makeSliceA, clearA, unA, convA, extractA, fieldA, indexA, nilChk, capsA, retA, retA1, retL, rowOf, srcRows, gslot, Value.oneCell', ↓reduceIte, reduceCtorEq, eq_self, ne_eq, imp_self, forall_const, Nat.reduceEqDiff, Nat.reduceAdd, Nat.reduceSub, Nat.reduceMul, Nat.reduceLT, Nat.reduceLeDiff, Nat.reduceBEq, Nat.reduceDiv, Nat.reduceMod, Int.reduceToNat, Int.reduceNeg, Int.reduceAdd, Int.reduceSub, Int.reduceMul, Int.reduceEq, Int.reduceNe, Int.reduceLT, Int.reduceLE, Int.reduceGT, Int.reduceGE]
  refine newI_intro fun pa hpa => ?_
  simp -implicitDefEqProofs (maxSteps := 1000000) (disch := omega) only [↓xsP, ↓vc_seq, xsQ, xsT, xsR, tch, tOf, idsOf, storeE, eqA, fitC, fitL, eqCells, eqL, isNilS, absL, loadA, storeA, fieldAddrA, lenA, sliceA, boundA, buildA, placesOf, overw, buildSliceA, makeSliceA, clearA, unA, convA, extractA, fieldA, indexA, nilChk, capsA, retA, retA1, retL, rowOf, srcRows, gslot, Value.oneCell', ↓reduceIte, reduceCtorEq, eq_self, ne_eq, imp_self, forall_const, Nat.reduceEqDiff, Nat.reduceAdd, Nat.reduceSub, Nat.reduceMul, Nat.reduceLT, Nat.reduceLeDiff, Nat.reduceBEq, Nat.reduceDiv, Nat.reduceMod, Int.reduceToNat, Int.reduceNeg, Int.reduceAdd, Int.reduceSub, Int.reduceMul, Int.reduceEq, Int.reduceNe, Int.reduceLT, Int.reduceLE, Int.reduceGT, Int.reduceGE]
  refine callI_gs (GStep.keep (rows' := aw16.map Pr.row) rfl) ?_
  refine callI_of ((XCalls.kept pa 1 (Mem.set_eq _ _ _) rfl (Nat.le_refl _) (new_spec aw16 (by decide) _)).mono ?_)
  rintro _ _ ⟨id, hid, rfl, rfl⟩
  obtain ⟨hai, hid⟩ := bnd_new hid
  simp -implicitDefEqProofs (maxSteps := 1000000) (disch := omega) only [↓xsP, ↓vc_seq, xsQ, xsT, xsR, tch, tOf, idsOf, storeE, eqA, fitC, fitL, eqCells, eqL, isNilS, absL, loadA, storeA, fieldAddrA, lenA, sliceA, boundA, buildA, placesOf, overw, buildSliceA, makeSliceA, clearA, unA, convA, extractA, fieldA, indexA, nilChk, capsA, retA, retA1, retL, rowOf, srcRows, gslot, Value.oneCell', ↓reduceIte, reduceCtorEq, eq_self, ne_eq, imp_self, forall_const, Nat.reduceEqDiff, Nat.reduceAdd, Nat.reduceSub, Nat.reduceMul, Nat.reduceLT, Nat.reduceLeDiff, Nat.reduceBEq, Nat.reduceDiv, Nat.reduceMod, Int.reduceToNat, Int.reduceNeg, Int.reduceAdd, Int.reduceSub, Int.reduceMul, Int.reduceEq, Int.reduceNe, Int.reduceLT, Int.reduceLE, Int.reduceGT, Int.reduceGE]
  refine newI_intro fun pb hpb => ?_
  obtain ⟨hib, hpb'⟩ := bnd_new hpb
  simp -implicitDefEqProofs (maxSteps := 1000000) (disch := omega) only [↓xsP, ↓vc_seq, xsQ, xsT, xsR, tch, tOf, idsOf, storeE, eqA, fitC, fitL, eqCells, eqL, isNilS, absL, loadA, storeA, fieldAddrA, lenA, sliceA, boundA, buildA, placesOf, overw, buildSliceA, makeSliceA, clearA, unA, convA, extractA, fieldA, indexA, nilChk, capsA, retA, retA1, retL, rowOf, srcRows, gslot, Value.oneCell', ↓reduceIte, reduceCtorEq, eq_self, ne_eq, imp_self, forall_const, Nat.reduceEqDiff, Nat.reduceAdd, Nat.reduceSub, Nat.reduceMul, Nat.reduceLT, Nat.reduceLeDiff, Nat.reduceBEq, Nat.reduceDiv, Nat.reduceMod, Int.reduceToNat, Int.reduceNeg, Int.reduceAdd, Int.reduceSub, Int.reduceMul, Int.reduceEq, Int.reduceNe, Int.reduceLT, Int.reduceLE, Int.reduceGT, Int.reduceGE]
  have hpl : (putL aw16).length = 1 := by rw [aw16_put]; rfl
  refine callI_of ((run_spec (putL aw16) aw16o (by rw [hpl]; decide) _ id _ (by simp (disch := omega) only [Mem.set_ne, Mem.set_eq]) (OpsIs.ms (Mem.set_eq _ _ _) rfl rfl)).mono ?_)
  rintro _ _ ⟨rfl, rfl⟩
  have hal : (runA (putL aw16) aw16o).length = 2 := by rw [aw16_a]; rfl
  have ha0 : (runA (putL aw16) aw16o).getD 0 default = ⟨0, true, ⟨1, 5⟩, 0, []⟩ := by rw [aw16_a]; rfl
  have ha1 : (runA (putL aw16) aw16o).getD 1 default = ⟨0, true, ⟨1, 6⟩, 0, []⟩ := by rw [aw16_a]; rfl
  have hll : (runL (putL aw16) aw16o).length = 1 := by rw [aw16_l]; rfl
  simp -implicitDefEqProofs (maxSteps := 1000000) (disch := omega) only [↓xsP, ↓vc_seq, xsQ, xsT, xsR, tch, tOf, idsOf, storeE, eqA, fitC, fitL, eqCells, eqL, isNilS, absL, loadA, storeA, fieldAddrA, lenA, sliceA, boundA, buildA, placesOf, overw, buildSliceA, makeSliceA, clearA, unA, convA, extractA, fieldA, indexA, nilChk, capsA, retA, retA1, retL, rowOf, srcRows, gslot, Value.oneCell', ↓reduceIte, reduceCtorEq, eq_self, ne_eq, imp_self, forall_const, Nat.reduceEqDiff, Nat.reduceAdd, Nat.reduceSub, Nat.reduceMul, Nat.reduceLT, Nat.reduceLeDiff, Nat.reduceBEq, Nat.reduceDiv, Nat.reduceMod, Int.reduceToNat, Int.reduceNeg, Int.reduceAdd, Int.reduceSub, Int.reduceMul, Int.reduceEq, Int.reduceNe, Int.reduceLT, Int.reduceLE, Int.reduceGT, Int.reduceGE, Int.cast_ofNat_Int, hal, ha0, ha1]
  refine call_of (len_spec _ id _ (Mem.set_eq _ _ _)) ?_
  simp -implicitDefEqProofs (maxSteps := 1000000) (disch := omega) only [↓xsP, ↓vc_seq, xsQ, xsT, xsR, tch, tOf, idsOf, storeE, eqA, fitC, fitL, eqCells, eqL, isNilS, absL, loadA, storeA, fieldAddrA, lenA, sliceA, boundA, buildA, placesOf, overw, buildSliceA, makeSliceA, clearA, unA, convA, extractA, fieldA, indexA, nilChk, capsA, retA, retA1, retL, rowOf, srcRows, gslot, Value.oneCell', ↓reduceIte, reduceCtorEq, eq_self, ne_eq, imp_self, forall_const, Nat.reduceEqDiff, Nat.reduceAdd, Nat.reduceSub, Nat.reduceMul, Nat.reduceLT, Nat.reduceLeDiff, Nat.reduceBEq, Nat.reduceDiv, Nat.reduceMod, Int.reduceToNat, Int.reduceNeg, Int.reduceAdd, Int.reduceSub, Int.reduceMul, Int.reduceEq, Int.reduceNe, Int.reduceLT, Int.reduceLE, Int.reduceGT, Int.reduceGE, Int.cast_ofNat_Int, hal, ha0, ha1, hll]
  refine fin_ok (fun k bk hk => ?_) ⟨rfl, rfl⟩
  have := lt_of_bnd hpa hk
  simp (disch := omega) only [Mem.set_ne, hk]
end Go.X
