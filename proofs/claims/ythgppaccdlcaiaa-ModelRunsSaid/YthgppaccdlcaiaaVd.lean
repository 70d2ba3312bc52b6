/- What leaf.one does: an operation on one key. -/
import Derived.Test.YthgppaccdlcaiaaVc
set_option linter.unusedVariables false
set_option linter.unusedSimpArgs false
set_option maxHeartbeats 20000000
set_option maxRecDepth 100000
namespace Go.X
open Go.Proofs.Try (prog)

def place (l : List Pr) (k : Int) : Int := pidx (fun p => decide (p.key = k)) l 0
theorem place_cases (l : List Pr) (k : Int) : (place l k = -1 ∧ ∀ p ∈ l, p.key ≠ k) ∨ ∃ i : Nat, i < l.length ∧ place l k = i ∧ (l.getD i default).key = k ∧ ∀ p ∈ l.take i, p.key ≠ k := by
  rcases pidx_cases (fun p => decide (p.key = k)) l 0 with ⟨h1, h2⟩ | ⟨i, hi, h1, h2, h3⟩
  · exact .inl ⟨h1, fun p hp => by simpa using h2 p hp⟩
  · exact .inr ⟨i, hi, by rw [place, h1]; omega, by simpa using h2, fun p hp => by simpa using h3 p hp⟩
def ansAt (l : List Pr) (i : Int) : Ans := if 0 ≤ i then ⟨0, true, l.getD i.toNat default, 0, []⟩ else ans0
def oneL (l : List Pr) (op : Opn) : List Pr :=
  if op.kind = 1 ∨ (op.kind = 2 ∧ place l op.key < 0) then withL l ⟨op.key, op.val⟩
  else if op.kind = 3 ∧ 0 ≤ place l op.key then l.take (place l op.key).toNat ++ l.drop ((place l op.key).toNat + 1)
  else l
/-- An answer's cells, its pairs being nil. -/
def arow (a : Ans) : List Lf := [.int .i64 a.err, .bool a.ok, .int .i64 a.pair.key, .int .i64 a.pair.val, .int .i64 a.n, .nils]
theorem arow_wk (a : Ans) (h : a.pairs = []) : (arow a).map wkL = a.row := by simp [arow, wkL, Ans.row, h]
theorem ansAt_pairs (l : List Pr) (i : Int) : (ansAt l i).pairs = [] := by unfold ansAt; split <;> rfl
theorem one_end {l l' : List Pr} {i : Int} {M N : Mem} (h : l' = l) (hle : M.le N) : XFin Go.Proofs.Try.prog (.tup [.l (.sl (l.map Pr.row)), .agg (arow (ansAt l i))]) N fun r M' => True := XFin.le hle trivial

theorem one_spec (l : List Pr) (hl : l.length ≤ 1000001) (op : Opn) (M : Mem) :
    XCalls Go.Proofs.Try.prog 53 [.l (.sl (l.map Pr.row)), .agg op.row] M fun r M' => r = .tup [.l (.sl ((oneL l op).map Pr.row)), .agg (ansAt l (place l op.key)).row] ∧ M' = M := by
  refine xcalls_intro (rs := [.tmp 4, .cell 5 36]) Go.Proofs.Try.func53 rfl (by kernel_rfl) rfl rfl (by kernel_rfl) (by simp) ?_
  refine vc_seq_of ?_
  simp -implicitDefEqProofs (maxSteps := 1000000) (disch := omega) only [↓xsP, xsQ, xsT, xsR, tch, tOf, idsOf, storeE, eqA, fitC, fitL, eqCells, eqL, isNilS, absL, loadA, storeA, fieldAddrA, lenA, sliceA, boundA, buildA, placesOf, overw, buildSliceA, makeSliceA, clearA, unA, convA, extractA, fieldA, indexA, nilChk, capsA, retA, retA1, retL, rowOf, srcRows, gslot, Value.oneCell', ↓reduceIte, reduceCtorEq, eq_self, ne_eq, imp_self, forall_const, Nat.reduceEqDiff, Nat.reduceAdd, Nat.reduceSub, Nat.reduceMul, Nat.reduceLT, Nat.reduceLeDiff, Nat.reduceBEq, Nat.reduceDiv, Nat.reduceMod, Int.reduceToNat, Int.reduceNeg, Int.reduceAdd, Int.reduceSub, Int.reduceMul, Int.reduceEq, Int.reduceNe, Int.reduceLT, Int.reduceLE, Int.reduceGT, Int.reduceGE]
  refine newI_intro fun id3 hid3 => ?_
  simp -implicitDefEqProofs (maxSteps := 1000000) (disch := omega) only [↓xsP, xsQ, xsT, xsR, tch, tOf, idsOf, storeE, eqA, fitC, fitL, eqCells, eqL, isNilS, absL, loadA, storeA, fieldAddrA, lenA, sliceA, boundA, buildA, placesOf, overw, buildSliceA, makeSliceA, clearA, unA, convA, extractA, fieldA, indexA, nilChk, capsA, retA, retA1, retL, rowOf, srcRows, gslot, Value.oneCell', ↓reduceIte, reduceCtorEq, eq_self, ne_eq, imp_self, forall_const, Nat.reduceEqDiff, Nat.reduceAdd, Nat.reduceSub, Nat.reduceMul, Nat.reduceLT, Nat.reduceLeDiff, Nat.reduceBEq, Nat.reduceDiv, Nat.reduceMod, Int.reduceToNat, Int.reduceNeg, Int.reduceAdd, Int.reduceSub, Int.reduceMul, Int.reduceEq, Int.reduceNe, Int.reduceLT, Int.reduceLE, Int.reduceGT, Int.reduceGE]
  refine newI_intro fun id5 hid5 => ?_
  obtain ⟨h35, hid5⟩ := bnd_new hid5
  simp -implicitDefEqProofs (maxSteps := 1000000) (disch := omega) only [↓xsP, xsQ, xsT, xsR, tch, tOf, idsOf, storeE, eqA, fitC, fitL, eqCells, eqL, isNilS, absL, loadA, storeA, fieldAddrA, lenA, sliceA, boundA, buildA, placesOf, overw, buildSliceA, makeSliceA, clearA, unA, convA, extractA, fieldA, indexA, nilChk, capsA, retA, retA1, retL, rowOf, srcRows, gslot, Value.oneCell', ↓reduceIte, reduceCtorEq, eq_self, ne_eq, imp_self, forall_const, Nat.reduceEqDiff, Nat.reduceAdd, Nat.reduceSub, Nat.reduceMul, Nat.reduceLT, Nat.reduceLeDiff, Nat.reduceBEq, Nat.reduceDiv, Nat.reduceMod, Int.reduceToNat, Int.reduceNeg, Int.reduceAdd, Int.reduceSub, Int.reduceMul, Int.reduceEq, Int.reduceNe, Int.reduceLT, Int.reduceLE, Int.reduceGT, Int.reduceGE]
  refine vc_seq_of ?_
  simp -implicitDefEqProofs (maxSteps := 1000000) (disch := omega) only [↓xsP, xsQ, xsT, xsR, tch, tOf, idsOf, storeE, eqA, fitC, fitL, eqCells, eqL, isNilS, absL, loadA, storeA, fieldAddrA, lenA, sliceA, boundA, buildA, placesOf, overw, buildSliceA, makeSliceA, clearA, unA, convA, extractA, fieldA, indexA, nilChk, capsA, retA, retA1, retL, rowOf, srcRows, gslot, Value.oneCell', ↓reduceIte, reduceCtorEq, eq_self, ne_eq, imp_self, forall_const, Nat.reduceEqDiff, Nat.reduceAdd, Nat.reduceSub, Nat.reduceMul, Nat.reduceLT, Nat.reduceLeDiff, Nat.reduceBEq, Nat.reduceDiv, Nat.reduceMod, Int.reduceToNat, Int.reduceNeg, Int.reduceAdd, Int.reduceSub, Int.reduceMul, Int.reduceEq, Int.reduceNe, Int.reduceLT, Int.reduceLE, Int.reduceGT, Int.reduceGE]
  refine newI_intro fun id6 hid6 => ?_
  obtain ⟨h56, hid6⟩ := bnd_new hid6
  obtain ⟨h36, hid6⟩ := bnd_new hid6
  simp -implicitDefEqProofs (maxSteps := 1000000) (disch := omega) only [↓xsP, xsQ, xsT, xsR, tch, tOf, idsOf, storeE, eqA, fitC, fitL, eqCells, eqL, isNilS, absL, loadA, storeA, fieldAddrA, lenA, sliceA, boundA, buildA, placesOf, overw, buildSliceA, makeSliceA, clearA, unA, convA, extractA, fieldA, indexA, nilChk, capsA, retA, retA1, retL, rowOf, srcRows, gslot, Value.oneCell', ↓reduceIte, reduceCtorEq, eq_self, ne_eq, imp_self, forall_const, Nat.reduceEqDiff, Nat.reduceAdd, Nat.reduceSub, Nat.reduceMul, Nat.reduceLT, Nat.reduceLeDiff, Nat.reduceBEq, Nat.reduceDiv, Nat.reduceMod, Int.reduceToNat, Int.reduceNeg, Int.reduceAdd, Int.reduceSub, Int.reduceMul, Int.reduceEq, Int.reduceNe, Int.reduceLT, Int.reduceLE, Int.reduceGT, Int.reduceGE]
  refine vc_seq_of ?_
  simp -implicitDefEqProofs (maxSteps := 1000000) (disch := omega) only [↓xsP, xsQ, xsT, xsR, tch, tOf, idsOf, storeE, eqA, fitC, fitL, eqCells, eqL, isNilS, absL, loadA, storeA, fieldAddrA, lenA, sliceA, boundA, buildA, placesOf, overw, buildSliceA, makeSliceA, clearA, unA, convA, extractA, fieldA, indexA, nilChk, capsA, retA, retA1, retL, rowOf, srcRows, gslot, Value.oneCell', ↓reduceIte, reduceCtorEq, eq_self, ne_eq, imp_self, forall_const, Nat.reduceEqDiff, Nat.reduceAdd, Nat.reduceSub, Nat.reduceMul, Nat.reduceLT, Nat.reduceLeDiff, Nat.reduceBEq, Nat.reduceDiv, Nat.reduceMod, Int.reduceToNat, Int.reduceNeg, Int.reduceAdd, Int.reduceSub, Int.reduceMul, Int.reduceEq, Int.reduceNe, Int.reduceLT, Int.reduceLE, Int.reduceGT, Int.reduceGE]
  refine call_of (find_spec l (by omega) op.key _) ?_
  simp -implicitDefEqProofs (maxSteps := 1000000) (disch := omega) only [↓xsP, xsQ, xsT, xsR, tch, tOf, idsOf, storeE, eqA, fitC, fitL, eqCells, eqL, isNilS, absL, loadA, storeA, fieldAddrA, lenA, sliceA, boundA, buildA, placesOf, overw, buildSliceA, makeSliceA, clearA, unA, convA, extractA, fieldA, indexA, nilChk, capsA, retA, retA1, retL, rowOf, srcRows, gslot, Value.oneCell', ↓reduceIte, reduceCtorEq, eq_self, ne_eq, imp_self, forall_const, Nat.reduceEqDiff, Nat.reduceAdd, Nat.reduceSub, Nat.reduceMul, Nat.reduceLT, Nat.reduceLeDiff, Nat.reduceBEq, Nat.reduceDiv, Nat.reduceMod, Int.reduceToNat, Int.reduceNeg, Int.reduceAdd, Int.reduceSub, Int.reduceMul, Int.reduceEq, Int.reduceNe, Int.reduceLT, Int.reduceLE, Int.reduceGT, Int.reduceGE]
  have hend : ∀ (l' : List Pr) (N : Mem), M.le N → (N id5 = some (.cells 36 [arow (ansAt l (place l op.key))] 0)) → l' = oneL l op →
      @finI prog (.tup [.l (.sl (l'.map Pr.row)), .agg (arow (ansAt l (place l op.key)))]) N ⟨fun r M' => r = .tup [.l (.sl ((oneL l op).map Pr.row)), .agg (ansAt l (place l op.key)).row] ∧ M' = M⟩ := fun l' N hle _ h => by
    subst h
    refine finI_of (XFin.wk (XFin.le hle ⟨?_, rfl⟩))
    simp only [wkT, List.map_cons, List.map_nil, wkA, wkL]
    rw [arow_wk _ (ansAt_pairs _ _)]
  have hpc := place_cases l op.key
  have hp1 : pidx (fun p => decide (p.key = op.key)) l 0 = place l op.key := rfl
  rw [hp1]
  refine vc_cut (fun fr N => fr 0 = .l (.sl (l.map Pr.row)) ∧ fr 3 = .l (.ptr id3 0 0) ∧ fr 5 = .l (.ptr id5 0 0) ∧ fr 6 = .l (.ptr id6 0 0) ∧ fr 7 = .l (.int .i64 (place l op.key)) ∧ M.le N ∧
    N id3 = some (.cells 30 [op.row] 0) ∧ N id5 = some (.cells 36 [arow ans0] 0) ∧ N id6 = some (.cells 36 [arow (ansAt l (place l op.key))] 0)) ?_ ?_
  · have hpl : place l op.key = -1 ∨ (0 ≤ place l op.key ∧ place l op.key < l.length) := by
      rcases hpc with ⟨h, _⟩ | ⟨i, hi, h, _⟩
      · exact .inl h
      · exact .inr (by omega)
    have hz : arow ans0 = [.int .i64 0, .bool false, .int .i64 0, .int .i64 0, .int .i64 0, .nils] := rfl
    generalize hN : (((M.set id3 _).set id5 _).set id6 _ : Mem) = N
    have hN3 : N id3 = some (.cells 30 [op.row] 0) := by rw [← hN, Mem.set_ne _ _ _ _ (by omega), Mem.set_ne _ _ _ _ (by omega)]; exact Mem.set_eq _ _ _
    have hN5 : N id5 = some (.cells 36 [arow ans0] 0) := by rw [← hN, Mem.set_ne _ _ _ _ (by omega)]; exact Mem.set_eq _ _ _
    have hN6 : N id6 = some (.cells 36 [arow ans0] 0) := by rw [← hN]; exact Mem.set_eq _ _ _
    have hMN : M.le N := by rw [← hN]; exact le_new (le_new (le_new (Mem.le_refl _) hid3) hid5) hid6
    have hN6' : N id6 = some (.cells 36 [[.int .i64 0, .bool false, .int .i64 0, .int .i64 0, .int .i64 0, .nils]] 0) := hN6
    clear hN
    simp -implicitDefEqProofs (maxSteps := 1000000) (disch := omega) only [↓xsP, ↓vc_seq, xsQ, xsT, xsR, tch, tOf, idsOf, storeE, eqA, fitC, fitL, eqCells, eqL, isNilS, absL, loadA, storeA, fieldAddrA, lenA, sliceA, boundA, buildA, placesOf, overw, buildSliceA, makeSliceA, clearA, unA, convA, extractA, fieldA, indexA, nilChk, capsA, retA, retA1, retL, rowOf, srcRows, gslot, Value.oneCell', ↓reduceIte, reduceCtorEq, eq_self, ne_eq, imp_self, forall_const, Nat.reduceEqDiff, Nat.reduceAdd, Nat.reduceSub, Nat.reduceMul, Nat.reduceLT, Nat.reduceLeDiff, Nat.reduceBEq, Nat.reduceDiv, Nat.reduceMod, Int.reduceToNat, Int.reduceNeg, Int.reduceAdd, Int.reduceSub, Int.reduceMul, Int.reduceEq, Int.reduceNe, Int.reduceLT, Int.reduceLE, Int.reduceGT, Int.reduceGE]
    refine condI_prop (fun hc => ?_) (fun hc => ?_)
    · have hp0 : 0 ≤ place l op.key := hc
      have hp2 : place l op.key < l.length := by omega
      simp -implicitDefEqProofs (maxSteps := 1000000) (disch := omega) only [↓xsP, ↓vc_seq, xsQ, xsT, xsR, tch, tOf, idsOf, storeE, eqA, fitC, fitL, eqCells, eqL, isNilS, absL, loadA, storeA, fieldAddrA, lenA, sliceA, boundA, buildA, placesOf, overw, buildSliceA, makeSliceA, clearA, unA, convA, extractA, fieldA, indexA, nilChk, capsA, retA, retA1, retL, rowOf, srcRows, gslot, Value.oneCell', ↓reduceIte, reduceCtorEq, eq_self, ne_eq, imp_self, forall_const, Nat.reduceEqDiff, Nat.reduceAdd, Nat.reduceSub, Nat.reduceMul, Nat.reduceLT, Nat.reduceLeDiff, Nat.reduceBEq, Nat.reduceDiv, Nat.reduceMod, Int.reduceToNat, Int.reduceNeg, Int.reduceAdd, Int.reduceSub, Int.reduceMul, Int.reduceEq, Int.reduceNe, Int.reduceLT, Int.reduceLE, Int.reduceGT, Int.reduceGE, hN6']
      refine ⟨Mem.le_set hMN (hid6 _ (Nat.le_refl _)), ?_, ?_, ?_⟩
      · exact hN3
      · exact hN5
      · rw [ansAt, if_pos hp0]; rfl
    · simp -implicitDefEqProofs (maxSteps := 1000000) (disch := omega) only [↓xsP, ↓vc_seq, xsQ, xsT, xsR, tch, tOf, idsOf, storeE, eqA, fitC, fitL, eqCells, eqL, isNilS, absL, loadA, storeA, fieldAddrA, lenA, sliceA, boundA, buildA, placesOf, overw, buildSliceA, makeSliceA, clearA, unA, convA, extractA, fieldA, indexA, nilChk, capsA, retA, retA1, retL, rowOf, srcRows, gslot, Value.oneCell', ↓reduceIte, reduceCtorEq, eq_self, ne_eq, imp_self, forall_const, Nat.reduceEqDiff, Nat.reduceAdd, Nat.reduceSub, Nat.reduceMul, Nat.reduceLT, Nat.reduceLeDiff, Nat.reduceBEq, Nat.reduceDiv, Nat.reduceMod, Int.reduceToNat, Int.reduceNeg, Int.reduceAdd, Int.reduceSub, Int.reduceMul, Int.reduceEq, Int.reduceNe, Int.reduceLT, Int.reduceLE, Int.reduceGT, Int.reduceGE]
      have hp0 : ¬ 0 ≤ place l op.key := hc
      refine ⟨hMN, hN3, hN5, ?_⟩
      rw [ansAt, if_neg hp0]; exact hN6
  · rintro fr N ⟨h0, h3, h5, h6, h7, hMN, hN3, hN5, hN6⟩
    have hpl : place l op.key = -1 ∨ (0 ≤ place l op.key ∧ place l op.key < l.length) := by
      rcases hpc with ⟨h, _⟩ | ⟨i, hi, h, _⟩
      · exact .inl h
      · exact .inr (by omega)
    have hN3' : N id3 = some (.cells 30 [[.int .i64 op.kind, .int .i64 op.key, .int .i64 op.to, .int .i64 op.val]] 0) := hN3
    refine vc_seq_of ?_
    simp -implicitDefEqProofs (maxSteps := 1000000) (disch := omega) only [↓xsP, xsQ, xsT, xsR, tch, tOf, idsOf, storeE, eqA, fitC, fitL, eqCells, eqL, isNilS, absL, loadA, storeA, fieldAddrA, lenA, sliceA, boundA, buildA, placesOf, overw, buildSliceA, makeSliceA, clearA, unA, convA, extractA, fieldA, indexA, nilChk, capsA, retA, retA1, retL, rowOf, srcRows, gslot, Value.oneCell', ↓reduceIte, reduceCtorEq, eq_self, ne_eq, imp_self, forall_const, Nat.reduceEqDiff, Nat.reduceAdd, Nat.reduceSub, Nat.reduceMul, Nat.reduceLT, Nat.reduceLeDiff, Nat.reduceBEq, Nat.reduceDiv, Nat.reduceMod, Int.reduceToNat, Int.reduceNeg, Int.reduceAdd, Int.reduceSub, Int.reduceMul, Int.reduceEq, Int.reduceNe, Int.reduceLT, Int.reduceLE, Int.reduceGT, Int.reduceGE, h0]
    refine vc_cut (fun fr N' => N' = N ∧ fr 0 = .l (.sl (l.map Pr.row)) ∧ fr 3 = .l (.ptr id3 0 0) ∧ fr 5 = .l (.ptr id5 0 0) ∧ fr 6 = .l (.ptr id6 0 0) ∧ fr 7 = .l (.int .i64 (place l op.key)) ∧ fr 19 = .l (.bool (decide (op.kind = 1 ∨ (op.kind = 2 ∧ place l op.key < 0))))) ?_ ?_
    · by_cases k1 : op.kind = 1
      · have q1 : (op.kind = 1) = True := eq_true k1
        simp -implicitDefEqProofs (maxSteps := 1000000) (disch := omega) only [↓xsP, ↓vc_seq, xsQ, xsT, xsR, tch, tOf, idsOf, storeE, eqA, fitC, fitL, eqCells, eqL, isNilS, absL, loadA, storeA, fieldAddrA, lenA, sliceA, boundA, buildA, placesOf, overw, buildSliceA, makeSliceA, clearA, unA, convA, extractA, fieldA, indexA, nilChk, capsA, retA, retA1, retL, rowOf, srcRows, gslot, Value.oneCell', ↓reduceIte, reduceCtorEq, eq_self, ne_eq, imp_self, forall_const, Nat.reduceEqDiff, Nat.reduceAdd, Nat.reduceSub, Nat.reduceMul, Nat.reduceLT, Nat.reduceLeDiff, Nat.reduceBEq, Nat.reduceDiv, Nat.reduceMod, Int.reduceToNat, Int.reduceNeg, Int.reduceAdd, Int.reduceSub, Int.reduceMul, Int.reduceEq, Int.reduceNe, Int.reduceLT, Int.reduceLE, Int.reduceGT, Int.reduceGE, h0, h3, h5, h6, h7, hN3', q1]
      · have q1 : (op.kind = 1) = False := eq_false k1
        by_cases k2 : op.kind = 2
        · have q2 : (op.kind = 2) = True := eq_true k2
          simp -implicitDefEqProofs (maxSteps := 1000000) (disch := omega) only [↓xsP, ↓vc_seq, xsQ, xsT, xsR, tch, tOf, idsOf, storeE, eqA, fitC, fitL, eqCells, eqL, isNilS, absL, loadA, storeA, fieldAddrA, lenA, sliceA, boundA, buildA, placesOf, overw, buildSliceA, makeSliceA, clearA, unA, convA, extractA, fieldA, indexA, nilChk, capsA, retA, retA1, retL, rowOf, srcRows, gslot, Value.oneCell', ↓reduceIte, reduceCtorEq, eq_self, ne_eq, imp_self, forall_const, Nat.reduceEqDiff, Nat.reduceAdd, Nat.reduceSub, Nat.reduceMul, Nat.reduceLT, Nat.reduceLeDiff, Nat.reduceBEq, Nat.reduceDiv, Nat.reduceMod, Int.reduceToNat, Int.reduceNeg, Int.reduceAdd, Int.reduceSub, Int.reduceMul, Int.reduceEq, Int.reduceNe, Int.reduceLT, Int.reduceLE, Int.reduceGT, Int.reduceGE, h0, h3, h5, h6, h7, hN3', q1, q2, false_or]
        · have q2 : (op.kind = 2) = False := eq_false k2
          simp -implicitDefEqProofs (maxSteps := 1000000) (disch := omega) only [↓xsP, ↓vc_seq, xsQ, xsT, xsR, tch, tOf, idsOf, storeE, eqA, fitC, fitL, eqCells, eqL, isNilS, absL, loadA, storeA, fieldAddrA, lenA, sliceA, boundA, buildA, placesOf, overw, buildSliceA, makeSliceA, clearA, unA, convA, extractA, fieldA, indexA, nilChk, capsA, retA, retA1, retL, rowOf, srcRows, gslot, Value.oneCell', ↓reduceIte, reduceCtorEq, eq_self, ne_eq, imp_self, forall_const, Nat.reduceEqDiff, Nat.reduceAdd, Nat.reduceSub, Nat.reduceMul, Nat.reduceLT, Nat.reduceLeDiff, Nat.reduceBEq, Nat.reduceDiv, Nat.reduceMod, Int.reduceToNat, Int.reduceNeg, Int.reduceAdd, Int.reduceSub, Int.reduceMul, Int.reduceEq, Int.reduceNe, Int.reduceLT, Int.reduceLE, Int.reduceGT, Int.reduceGE, h0, h3, h5, h6, h7, hN3', q1, q2, false_or]
    · clear h0 h3 h5 h6 h7
      rintro fr N' ⟨rfl, h0, h3, h5, h6, h7, h19⟩
      simp -implicitDefEqProofs (maxSteps := 1000000) (disch := omega) only [↓xsP, xsQ, xsT, xsR, tch, tOf, idsOf, storeE, eqA, fitC, fitL, eqCells, eqL, isNilS, absL, loadA, storeA, fieldAddrA, lenA, sliceA, boundA, buildA, placesOf, overw, buildSliceA, makeSliceA, clearA, unA, convA, extractA, fieldA, indexA, nilChk, capsA, retA, retA1, retL, rowOf, srcRows, gslot, Value.oneCell', ↓reduceIte, reduceCtorEq, eq_self, ne_eq, imp_self, forall_const, Nat.reduceEqDiff, Nat.reduceAdd, Nat.reduceSub, Nat.reduceMul, Nat.reduceLT, Nat.reduceLeDiff, Nat.reduceBEq, Nat.reduceDiv, Nat.reduceMod, Int.reduceToNat, Int.reduceNeg, Int.reduceAdd, Int.reduceSub, Int.reduceMul, Int.reduceEq, Int.reduceNe, Int.reduceLT, Int.reduceLE, Int.reduceGT, Int.reduceGE, h19]
      refine condI_prop (fun hc => ?_) (fun hc => ?_)
      · refine vc_seq_of ?_
        simp -implicitDefEqProofs (maxSteps := 1000000) (disch := omega) only [↓xsP, xsQ, xsT, xsR, tch, tOf, idsOf, storeE, eqA, fitC, fitL, eqCells, eqL, isNilS, absL, loadA, storeA, fieldAddrA, lenA, sliceA, boundA, buildA, placesOf, overw, buildSliceA, makeSliceA, clearA, unA, convA, extractA, fieldA, indexA, nilChk, capsA, retA, retA1, retL, rowOf, srcRows, gslot, Value.oneCell', ↓reduceIte, reduceCtorEq, eq_self, ne_eq, imp_self, forall_const, Nat.reduceEqDiff, Nat.reduceAdd, Nat.reduceSub, Nat.reduceMul, Nat.reduceLT, Nat.reduceLeDiff, Nat.reduceBEq, Nat.reduceDiv, Nat.reduceMod, Int.reduceToNat, Int.reduceNeg, Int.reduceAdd, Int.reduceSub, Int.reduceMul, Int.reduceEq, Int.reduceNe, Int.reduceLT, Int.reduceLE, Int.reduceGT, Int.reduceGE, h0, h3, h5, h6, h7]
        refine xwrite (fun n0 => [ (9, id5)]) [9] [] [[], [], [], [], [], [], [], [], [], []] (by kernel_rfl) (by kernel_rfl) (by kernel_rfl) (by kernel_rfl) (fun n0 hn0 => ⟨rfl, ?_, ?_⟩)
        · exact TOk_cons (.inl (lt_of_bnd hn0 hN5)) (TOk_nil _ _)
        · have h5n := lt_of_bnd hn0 hN5
          have h3n := lt_of_bnd hn0 hN3
          have h6n := lt_of_bnd hn0 hN6
          simp -implicitDefEqProofs (maxSteps := 1000000) (disch := omega) only [↓xsP, ↓vc_seq, xsQ, xsT, xsR, tch, tOf, idsOf, storeE, eqA, fitC, fitL, eqCells, eqL, isNilS, absL, loadA, storeA, fieldAddrA, lenA, sliceA, boundA, buildA, placesOf, overw, buildSliceA, makeSliceA, clearA, unA, convA, extractA, fieldA, indexA, nilChk, capsA, retA, retA1, retL, rowOf, srcRows, gslot, Value.oneCell', ↓reduceIte, reduceCtorEq, eq_self, ne_eq, imp_self, forall_const, Nat.reduceEqDiff, Nat.reduceAdd, Nat.reduceSub, Nat.reduceMul, Nat.reduceLT, Nat.reduceLeDiff, Nat.reduceBEq, Nat.reduceDiv, Nat.reduceMod, Int.reduceToNat, Int.reduceNeg, Int.reduceAdd, Int.reduceSub, Int.reduceMul, Int.reduceEq, Int.reduceNe, Int.reduceLT, Int.reduceLE, Int.reduceGT, Int.reduceGE, h0, h3, h5, h6, h7, hN3']
          refine ⟨.l (.sl ((withL l ⟨op.key, op.val⟩).map Pr.row)), [], fun M' hle => XCalls.mono (with_spec l hl ⟨op.key, op.val⟩ M') (by rintro _ _ ⟨rfl, rfl⟩; exact ⟨rfl, Mem.le_refl _⟩), ?_⟩
          simp -implicitDefEqProofs (maxSteps := 1000000) (disch := omega) only [↓xsP, ↓vc_seq, xsQ, xsT, xsR, tch, tOf, idsOf, storeE, eqA, fitC, fitL, eqCells, eqL, isNilS, absL, loadA, storeA, fieldAddrA, lenA, sliceA, boundA, buildA, placesOf, overw, buildSliceA, makeSliceA, clearA, unA, convA, extractA, fieldA, indexA, nilChk, capsA, retA, retA1, retL, rowOf, srcRows, gslot, Value.oneCell', ↓reduceIte, reduceCtorEq, eq_self, ne_eq, imp_self, forall_const, Nat.reduceEqDiff, Nat.reduceAdd, Nat.reduceSub, Nat.reduceMul, Nat.reduceLT, Nat.reduceLeDiff, Nat.reduceBEq, Nat.reduceDiv, Nat.reduceMod, Int.reduceToNat, Int.reduceNeg, Int.reduceAdd, Int.reduceSub, Int.reduceMul, Int.reduceEq, Int.reduceNe, Int.reduceLT, Int.reduceLE, Int.reduceGT, Int.reduceGE, h0, h3, h5, h6, h7, hN5, hN6, arow]
          refine hend _ _ (Mem.le_set hMN (hid5 _ (Nat.le_refl _))) (Mem.set_eq _ _ _) ?_
          rw [oneL, if_pos hc]
      · refine vc_cut (fun fr N => N = N' ∧ fr 0 = .l (.sl (l.map Pr.row)) ∧ fr 3 = .l (.ptr id3 0 0) ∧ fr 5 = .l (.ptr id5 0 0) ∧ fr 6 = .l (.ptr id6 0 0) ∧ fr 7 = .l (.int .i64 (place l op.key)) ∧ fr 40 = .l (.bool (decide (op.kind = 3 ∧ 0 ≤ place l op.key)))) ?_ ?_
        · by_cases k3 : op.kind = 3
          · have q3 : (op.kind = 3) = True := eq_true k3
            simp -implicitDefEqProofs (maxSteps := 1000000) (disch := omega) only [↓xsP, ↓vc_seq, xsQ, xsT, xsR, tch, tOf, idsOf, storeE, eqA, fitC, fitL, eqCells, eqL, isNilS, absL, loadA, storeA, fieldAddrA, lenA, sliceA, boundA, buildA, placesOf, overw, buildSliceA, makeSliceA, clearA, unA, convA, extractA, fieldA, indexA, nilChk, capsA, retA, retA1, retL, rowOf, srcRows, gslot, Value.oneCell', ↓reduceIte, reduceCtorEq, eq_self, ne_eq, imp_self, forall_const, Nat.reduceEqDiff, Nat.reduceAdd, Nat.reduceSub, Nat.reduceMul, Nat.reduceLT, Nat.reduceLeDiff, Nat.reduceBEq, Nat.reduceDiv, Nat.reduceMod, Int.reduceToNat, Int.reduceNeg, Int.reduceAdd, Int.reduceSub, Int.reduceMul, Int.reduceEq, Int.reduceNe, Int.reduceLT, Int.reduceLE, Int.reduceGT, Int.reduceGE, h0, h3, h5, h6, h7, hN3', q3]
          · have q3 : (op.kind = 3) = False := eq_false k3
            simp -implicitDefEqProofs (maxSteps := 1000000) (disch := omega) only [↓xsP, ↓vc_seq, xsQ, xsT, xsR, tch, tOf, idsOf, storeE, eqA, fitC, fitL, eqCells, eqL, isNilS, absL, loadA, storeA, fieldAddrA, lenA, sliceA, boundA, buildA, placesOf, overw, buildSliceA, makeSliceA, clearA, unA, convA, extractA, fieldA, indexA, nilChk, capsA, retA, retA1, retL, rowOf, srcRows, gslot, Value.oneCell', ↓reduceIte, reduceCtorEq, eq_self, ne_eq, imp_self, forall_const, Nat.reduceEqDiff, Nat.reduceAdd, Nat.reduceSub, Nat.reduceMul, Nat.reduceLT, Nat.reduceLeDiff, Nat.reduceBEq, Nat.reduceDiv, Nat.reduceMod, Int.reduceToNat, Int.reduceNeg, Int.reduceAdd, Int.reduceSub, Int.reduceMul, Int.reduceEq, Int.reduceNe, Int.reduceLT, Int.reduceLE, Int.reduceGT, Int.reduceGE, h0, h3, h5, h6, h7, hN3', q3]
        · clear h0 h3 h5 h6 h7 h19
          rintro fr N ⟨rfl, h0, h3, h5, h6, h7, h40⟩
          simp -implicitDefEqProofs (maxSteps := 1000000) (disch := omega) only [↓xsP, xsQ, xsT, xsR, tch, tOf, idsOf, storeE, eqA, fitC, fitL, eqCells, eqL, isNilS, absL, loadA, storeA, fieldAddrA, lenA, sliceA, boundA, buildA, placesOf, overw, buildSliceA, makeSliceA, clearA, unA, convA, extractA, fieldA, indexA, nilChk, capsA, retA, retA1, retL, rowOf, srcRows, gslot, Value.oneCell', ↓reduceIte, reduceCtorEq, eq_self, ne_eq, imp_self, forall_const, Nat.reduceEqDiff, Nat.reduceAdd, Nat.reduceSub, Nat.reduceMul, Nat.reduceLT, Nat.reduceLeDiff, Nat.reduceBEq, Nat.reduceDiv, Nat.reduceMod, Int.reduceToNat, Int.reduceNeg, Int.reduceAdd, Int.reduceSub, Int.reduceMul, Int.reduceEq, Int.reduceNe, Int.reduceLT, Int.reduceLE, Int.reduceGT, Int.reduceGE, h40]
          refine condI_prop (fun hc2 => ?_) (fun hc2 => ?_)
          · refine vc_seq_of ?_
            simp -implicitDefEqProofs (maxSteps := 1000000) (disch := omega) only [↓xsP, xsQ, xsT, xsR, tch, tOf, idsOf, storeE, eqA, fitC, fitL, eqCells, eqL, isNilS, absL, loadA, storeA, fieldAddrA, lenA, sliceA, boundA, buildA, placesOf, overw, buildSliceA, makeSliceA, clearA, unA, convA, extractA, fieldA, indexA, nilChk, capsA, retA, retA1, retL, rowOf, srcRows, gslot, Value.oneCell', ↓reduceIte, reduceCtorEq, eq_self, ne_eq, imp_self, forall_const, Nat.reduceEqDiff, Nat.reduceAdd, Nat.reduceSub, Nat.reduceMul, Nat.reduceLT, Nat.reduceLeDiff, Nat.reduceBEq, Nat.reduceDiv, Nat.reduceMod, Int.reduceToNat, Int.reduceNeg, Int.reduceAdd, Int.reduceSub, Int.reduceMul, Int.reduceEq, Int.reduceNe, Int.reduceLT, Int.reduceLE, Int.reduceGT, Int.reduceGE, h0, h3, h5, h6, h7]
            refine xwrite (fun n0 => [ (11, id5)]) [11] [7] [[], [], [], [], [], [], [], [], [], [7], [], []] (by kernel_rfl) (by kernel_rfl) (by kernel_rfl) (by kernel_rfl) (fun n0 hn0 => ⟨rfl, ?_, ?_⟩)
            · exact TOk_cons (.inl (lt_of_bnd hn0 hN5)) (TOk_nil _ _)
            · have h5n := lt_of_bnd hn0 hN5
              have h3n := lt_of_bnd hn0 hN3
              have h6n := lt_of_bnd hn0 hN6
              obtain ⟨i, hi⟩ := Int.eq_ofNat_of_zero_le hc2.2
              have hin : i < l.length := by omega
              have q0 : (0 ≤ (i : Int)) = True := eq_true (by omega)
              have q1 : (0 ≤ (i : Int) + 1) = True := eq_true (by omega)
              have q2 : (i ≤ l.length) = True := eq_true (by omega)
              have q3 : (i + 1 ≤ l.length) = True := eq_true (by omega)
              have hrows : (∀ r, r ∈ l.map Pr.row → r.length = 2) = True := eq_true (rows2 l)
              have hdr : List.take (l.length - (i + 1)) (List.drop (i + 1) (l.map Pr.row)) = (l.drop (i + 1)).map Pr.row := by
                rw [List.take_of_length_le (by simp), List.map_drop]
              simp -implicitDefEqProofs (maxSteps := 1000000) (disch := omega) only [↓xsP, ↓vc_seq, xsQ, xsT, xsR, tch, tOf, idsOf, storeE, eqA, fitC, fitL, eqCells, eqL, isNilS, absL, loadA, storeA, fieldAddrA, lenA, sliceA, boundA, buildA, placesOf, overw, buildSliceA, makeSliceA, clearA, unA, convA, extractA, fieldA, indexA, nilChk, capsA, retA, retA1, retL, rowOf, srcRows, gslot, Value.oneCell', ↓reduceIte, reduceCtorEq, eq_self, ne_eq, imp_self, forall_const, Nat.reduceEqDiff, Nat.reduceAdd, Nat.reduceSub, Nat.reduceMul, Nat.reduceLT, Nat.reduceLeDiff, Nat.reduceBEq, Nat.reduceDiv, Nat.reduceMod, Int.reduceToNat, Int.reduceNeg, Int.reduceAdd, Int.reduceSub, Int.reduceMul, Int.reduceEq, Int.reduceNe, Int.reduceLT, Int.reduceLE, Int.reduceGT, Int.reduceGE, h0, h3, h5, h6, h7, hN3', hi, q0, q1, q2, q3, hrows, hdr, ← List.map_take]
              refine ⟨.inl (by decide), ?_⟩
              have hL : [l.take i, l.drop (i + 1)].flatten = oneL l op := by
                rw [oneL, if_neg hc, if_pos hc2, hi]
                simp
              refine ⟨.l (.sl ((oneL l op).map Pr.row)), [], fun M' hle => ?_, ?_⟩
              · have hcc := concat_spec [l.take i, l.drop (i + 1)] [.sl ((l.take i).map Pr.row), .sl ((l.drop (i + 1)).map Pr.row)] rfl (by simp) (by simp; omega) (n0 + 7) M' (hle _ _ (Mem.set_eq _ _ _)) (fun j hj => by
                  match j, hj with
                  | 0, _ => exact .inl rfl
                  | 1, _ => exact .inl rfl)
                rw [hL] at hcc
                refine XCalls.mono hcc ?_
                rintro _ _ ⟨rfl, rfl⟩
                exact ⟨rfl, Mem.le_refl _⟩
              · simp -implicitDefEqProofs (maxSteps := 1000000) (disch := omega) only [↓xsP, ↓vc_seq, xsQ, xsT, xsR, tch, tOf, idsOf, storeE, eqA, fitC, fitL, eqCells, eqL, isNilS, absL, loadA, storeA, fieldAddrA, lenA, sliceA, boundA, buildA, placesOf, overw, buildSliceA, makeSliceA, clearA, unA, convA, extractA, fieldA, indexA, nilChk, capsA, retA, retA1, retL, rowOf, srcRows, gslot, Value.oneCell', ↓reduceIte, reduceCtorEq, eq_self, ne_eq, imp_self, forall_const, Nat.reduceEqDiff, Nat.reduceAdd, Nat.reduceSub, Nat.reduceMul, Nat.reduceLT, Nat.reduceLeDiff, Nat.reduceBEq, Nat.reduceDiv, Nat.reduceMod, Int.reduceToNat, Int.reduceNeg, Int.reduceAdd, Int.reduceSub, Int.reduceMul, Int.reduceEq, Int.reduceNe, Int.reduceLT, Int.reduceLE, Int.reduceGT, Int.reduceGE, h0, h3, h5, h6, h7, hN5, hN6, arow]
                refine hend _ _ ?_ (Mem.set_eq _ _ _) rfl
                refine Mem.le_set (fun j b hj => ?_) (hid5 _ (Nat.le_refl _))
                have h1 := hMN _ _ hj
                rw [Mem.set_ne _ _ _ _ (by have := lt_of_bnd hn0 h1; omega)]
                exact h1
          · simp -implicitDefEqProofs (maxSteps := 1000000) (disch := omega) only [↓xsP, xsQ, xsT, xsR, tch, tOf, idsOf, storeE, eqA, fitC, fitL, eqCells, eqL, isNilS, absL, loadA, storeA, fieldAddrA, lenA, sliceA, boundA, buildA, placesOf, overw, buildSliceA, makeSliceA, clearA, unA, convA, extractA, fieldA, indexA, nilChk, capsA, retA, retA1, retL, rowOf, srcRows, gslot, Value.oneCell', ↓reduceIte, reduceCtorEq, eq_self, ne_eq, imp_self, forall_const, Nat.reduceEqDiff, Nat.reduceAdd, Nat.reduceSub, Nat.reduceMul, Nat.reduceLT, Nat.reduceLeDiff, Nat.reduceBEq, Nat.reduceDiv, Nat.reduceMod, Int.reduceToNat, Int.reduceNeg, Int.reduceAdd, Int.reduceSub, Int.reduceMul, Int.reduceEq, Int.reduceNe, Int.reduceLT, Int.reduceLE, Int.reduceGT, Int.reduceGE, h0, h3, h5, h6, h7]
            refine vc_seq_of ?_
            simp -implicitDefEqProofs (maxSteps := 1000000) (disch := omega) only [↓xsP, xsQ, xsT, xsR, tch, tOf, idsOf, storeE, eqA, fitC, fitL, eqCells, eqL, isNilS, absL, loadA, storeA, fieldAddrA, lenA, sliceA, boundA, buildA, placesOf, overw, buildSliceA, makeSliceA, clearA, unA, convA, extractA, fieldA, indexA, nilChk, capsA, retA, retA1, retL, rowOf, srcRows, gslot, Value.oneCell', ↓reduceIte, reduceCtorEq, eq_self, ne_eq, imp_self, forall_const, Nat.reduceEqDiff, Nat.reduceAdd, Nat.reduceSub, Nat.reduceMul, Nat.reduceLT, Nat.reduceLeDiff, Nat.reduceBEq, Nat.reduceDiv, Nat.reduceMod, Int.reduceToNat, Int.reduceNeg, Int.reduceAdd, Int.reduceSub, Int.reduceMul, Int.reduceEq, Int.reduceNe, Int.reduceLT, Int.reduceLE, Int.reduceGT, Int.reduceGE, h0, h3, h5, h6, h7]
            refine xwrite (fun n0 => [ (4, id5)]) [4] [] [[], [], [], [], []] (by kernel_rfl) (by kernel_rfl) (by kernel_rfl) (by kernel_rfl) (fun n0 hn0 => ⟨rfl, ?_, ?_⟩)
            · exact TOk_cons (.inl (lt_of_bnd hn0 hN5)) (TOk_nil _ _)
            · have h5n := lt_of_bnd hn0 hN5
              have h3n := lt_of_bnd hn0 hN3
              have h6n := lt_of_bnd hn0 hN6
              simp -implicitDefEqProofs (maxSteps := 1000000) (disch := omega) only [↓xsP, ↓vc_seq, xsQ, xsT, xsR, tch, tOf, idsOf, storeE, eqA, fitC, fitL, eqCells, eqL, isNilS, absL, loadA, storeA, fieldAddrA, lenA, sliceA, boundA, buildA, placesOf, overw, buildSliceA, makeSliceA, clearA, unA, convA, extractA, fieldA, indexA, nilChk, capsA, retA, retA1, retL, rowOf, srcRows, gslot, Value.oneCell', ↓reduceIte, reduceCtorEq, eq_self, ne_eq, imp_self, forall_const, Nat.reduceEqDiff, Nat.reduceAdd, Nat.reduceSub, Nat.reduceMul, Nat.reduceLT, Nat.reduceLeDiff, Nat.reduceBEq, Nat.reduceDiv, Nat.reduceMod, Int.reduceToNat, Int.reduceNeg, Int.reduceAdd, Int.reduceSub, Int.reduceMul, Int.reduceEq, Int.reduceNe, Int.reduceLT, Int.reduceLE, Int.reduceGT, Int.reduceGE, h0, h3, h5, h6, h7, hN3']
              refine ⟨.l (.sl (l.map Pr.row)), [], fun M' hle => XCalls.mono (clone_spec l hl M') (by rintro _ _ ⟨rfl, rfl⟩; exact ⟨rfl, Mem.le_refl _⟩), ?_⟩
              simp -implicitDefEqProofs (maxSteps := 1000000) (disch := omega) only [↓xsP, ↓vc_seq, xsQ, xsT, xsR, tch, tOf, idsOf, storeE, eqA, fitC, fitL, eqCells, eqL, isNilS, absL, loadA, storeA, fieldAddrA, lenA, sliceA, boundA, buildA, placesOf, overw, buildSliceA, makeSliceA, clearA, unA, convA, extractA, fieldA, indexA, nilChk, capsA, retA, retA1, retL, rowOf, srcRows, gslot, Value.oneCell', ↓reduceIte, reduceCtorEq, eq_self, ne_eq, imp_self, forall_const, Nat.reduceEqDiff, Nat.reduceAdd, Nat.reduceSub, Nat.reduceMul, Nat.reduceLT, Nat.reduceLeDiff, Nat.reduceBEq, Nat.reduceDiv, Nat.reduceMod, Int.reduceToNat, Int.reduceNeg, Int.reduceAdd, Int.reduceSub, Int.reduceMul, Int.reduceEq, Int.reduceNe, Int.reduceLT, Int.reduceLE, Int.reduceGT, Int.reduceGE, h0, h3, h5, h6, h7, hN5, hN6, arow]
              refine hend _ _ (Mem.le_set hMN (hid5 _ (Nat.le_refl _))) (Mem.set_eq _ _ _) ?_
              rw [oneL, if_neg hc, if_neg hc2]
end Go.X
