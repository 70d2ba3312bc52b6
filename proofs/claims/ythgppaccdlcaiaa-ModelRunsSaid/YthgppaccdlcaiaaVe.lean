/- What leaf.Do does. -/
import Derived.Test.YthgppaccdlcaiaaVd
set_option linter.unusedVariables false
set_option linter.unusedSimpArgs false
set_option maxHeartbeats 20000000
set_option maxRecDepth 100000
namespace Go.X
open Go.Proofs.Try (prog)

noncomputable def okOp (l : List Pr) (op : Opn) : Bool := bof (Rises l) && mayOpB op
def inRange (l : List Pr) (op : Opn) : List Pr := stays (outside op.key op.to) l
noncomputable def doL (l : List Pr) (op : Opn) : List Pr := if okOp l op = false then l else if op.kind = 1 ∨ op.kind = 2 ∨ op.kind = 3 then oneL l op else l
noncomputable def doA (l : List Pr) (op : Opn) : Ans :=
  if okOp l op = false then ⟨1, false, ⟨0, 0⟩, 0, []⟩
  else if op.kind = 5 then ⟨0, false, ⟨0, 0⟩, (inRange l op).length, inRange l op⟩
  else if op.kind = 6 then ⟨0, false, ⟨0, 0⟩, (inRange l op).length, []⟩
  else if op.kind = 7 then (if l = [] then ans0 else ⟨0, true, l.getD 0 default, 0, []⟩)
  else if op.kind = 8 then (if l = [] then ans0 else ⟨0, true, l.getD (l.length - 1) default, 0, []⟩)
  else ansAt l (place l op.key)

theorem oneL_get {l : List Pr} {op : Opn} (h1 : op.kind ≠ 1) (h2 : op.kind ≠ 2) (h3 : op.kind ≠ 3) : oneL l op = l := by
  rw [oneL, if_neg (by simp [h1, h2]), if_neg (by simp [h3])]
theorem stays_len (q : Pr → Bool) (l : List Pr) : (stays q l).length ≤ l.length := List.length_filter_le _ _

def DoMid (l : List Pr) (op : Opn) (M : Mem) (id5 id6 : Nat) (N : Mem) : Prop :=
  doL l op = l ∧ M.le N ∧ N id5 = some (.cells 36 [arow ans0] 0) ∧ ∃ a b c d e f, N id6 = some (.cells 36 [[a, b, c, d, e, f]] 0) ∧ [a, b, c, d, e, f].map wkL = (doA l op).row
theorem doMid_set {l : List Pr} {op : Opn} {M N : Mem} {id5 id6 : Nat} {a b c d e f : Lf} (h : doL l op = l) (hle : M.le N) (h6 : M id6 = none) (hne : id6 ≠ id5) (h5 : N id5 = some (.cells 36 [arow ans0] 0)) (hw : [a, b, c, d, e, f].map wkL = (doA l op).row) :
    DoMid l op M id5 id6 (N.set id6 (.cells 36 [[a, b, c, d, e, f]] 0)) :=
  ⟨h, Mem.le_set hle h6, by rw [Mem.set_ne _ _ _ _ hne]; exact h5, a, b, c, d, e, f, Mem.set_eq _ _ _, hw⟩

theorem do_spec (l : List Pr) (hl : l.length ≤ 1000001) (op : Opn) (M : Mem) :
    XCalls Go.Proofs.Try.prog 30 [.l (.sl (l.map Pr.row)), .agg op.row] M fun r M' => r = .tup [.l (.sl ((doL l op).map Pr.row)), .agg (doA l op).row] ∧ M' = M := by
  refine xcalls_intro (rs := [.tmp 4, .cell 5 36]) Go.Proofs.Try.func30 rfl (by kernel_rfl) rfl rfl (by kernel_rfl) (by simp) ?_
  refine vc_seq_of ?_
  simp -implicitDefEqProofs (maxSteps := 1000000) (disch := omega) only [↓xsP, xsQ, xsT, xsR, tch, tOf, idsOf, storeE, eqA, fitC, fitL, eqCells, eqL, isNilS, absL, loadA, storeA, fieldAddrA, lenA, sliceA, boundA, buildA, placesOf, overw, buildSliceA, makeSliceA, clearA, unA, convA, extractA, fieldA, indexA, nilChk, capsA, retA, retA1, retL, rowOf, srcRows, gslot, Value.oneCell', ↓reduceIte, reduceCtorEq, eq_self, ne_eq, imp_self, forall_const, Nat.reduceEqDiff, Nat.reduceAdd, Nat.reduceSub, Nat.reduceMul, Nat.reduceLT, Nat.reduceLeDiff, Nat.reduceBEq, Nat.reduceDiv, Nat.reduceMod, Int.reduceToNat, Int.reduceNeg, Int.reduceAdd, Int.reduceSub, Int.reduceMul, Int.reduceEq, Int.reduceNe, Int.reduceLT, Int.reduceLE, Int.reduceGT, Int.reduceGE]
  refine newI_intro fun id3 hid3 => ?_
  simp -implicitDefEqProofs (maxSteps := 1000000) (disch := omega) only [↓xsP, xsQ, xsT, xsR, tch, tOf, idsOf, storeE, eqA, fitC, fitL, eqCells, eqL, isNilS, absL, loadA, storeA, fieldAddrA, lenA, sliceA, boundA, buildA, placesOf, overw, buildSliceA, makeSliceA, clearA, unA, convA, extractA, fieldA, indexA, nilChk, capsA, retA, retA1, retL, rowOf, srcRows, gslot, Value.oneCell', ↓reduceIte, reduceCtorEq, eq_self, ne_eq, imp_self, forall_const, Nat.reduceEqDiff, Nat.reduceAdd, Nat.reduceSub, Nat.reduceMul, Nat.reduceLT, Nat.reduceLeDiff, Nat.reduceBEq, Nat.reduceDiv, Nat.reduceMod, Int.reduceToNat, Int.reduceNeg, Int.reduceAdd, Int.reduceSub, Int.reduceMul, Int.reduceEq, Int.reduceNe, Int.reduceLT, Int.reduceLE, Int.reduceGT, Int.reduceGE]
  refine newI_intro fun id5 hid5 => ?_
  obtain ⟨h35, hid5⟩ := bnd_new hid5
  simp -implicitDefEqProofs (maxSteps := 1000000) (disch := omega) only [↓xsP, xsQ, xsT, xsR, tch, tOf, idsOf, storeE, eqA, fitC, fitL, eqCells, eqL, isNilS, absL, loadA, storeA, fieldAddrA, lenA, sliceA, boundA, buildA, placesOf, overw, buildSliceA, makeSliceA, clearA, unA, convA, extractA, fieldA, indexA, nilChk, capsA, retA, retA1, retL, rowOf, srcRows, gslot, Value.oneCell', ↓reduceIte, reduceCtorEq, eq_self, ne_eq, imp_self, forall_const, Nat.reduceEqDiff, Nat.reduceAdd, Nat.reduceSub, Nat.reduceMul, Nat.reduceLT, Nat.reduceLeDiff, Nat.reduceBEq, Nat.reduceDiv, Nat.reduceMod, Int.reduceToNat, Int.reduceNeg, Int.reduceAdd, Int.reduceSub, Int.reduceMul, Int.reduceEq, Int.reduceNe, Int.reduceLT, Int.reduceLE, Int.reduceGT, Int.reduceGE]
  have hend : ∀ (l' : List Pr) (a b c d e f : Lf) (N : Mem), M.le N → l' = doL l op → [a, b, c, d, e, f].map wkL = (doA l op).row →
      @finI prog (.tup [.l (.sl (l'.map Pr.row)), .agg [a, b, c, d, e, f]]) N ⟨fun r M' => r = .tup [.l (.sl ((doL l op).map Pr.row)), .agg (doA l op).row] ∧ M' = M⟩ := fun l' a b c d e f N hle h hw => by
    subst h
    refine finI_of (XFin.wk (XFin.le hle ⟨?_, rfl⟩))
    simp only [wkT, List.map_cons, List.map_nil, wkA]
    rw [← hw]
    rfl
  generalize hN : ((M.set id3 _).set id5 _ : Mem) = N
  have hN3 : N id3 = some (.cells 30 [[.int .i64 op.kind, .int .i64 op.key, .int .i64 op.to, .int .i64 op.val]] 0) := by rw [← hN, Mem.set_ne _ _ _ _ (by omega)]; exact Mem.set_eq _ _ _
  have hN5 : N id5 = some (.cells 36 [arow ans0] 0) := by rw [← hN]; exact Mem.set_eq _ _ _
  have hMN : M.le N := by rw [← hN]; exact le_new (le_new (Mem.le_refl _) hid3) hid5
  clear hN
  refine vc_cut (fun fr N' => N' = N ∧ okOp l op = true ∧ fr 0 = .l (.sl (l.map Pr.row)) ∧ fr 3 = .l (.ptr id3 0 0) ∧ fr 5 = .l (.ptr id5 0 0)) ?_ ?_
  · simp -implicitDefEqProofs (maxSteps := 1000000) (disch := omega) only [↓xsP, ↓vc_seq, xsQ, xsT, xsR, tch, tOf, idsOf, storeE, eqA, fitC, fitL, eqCells, eqL, isNilS, absL, loadA, storeA, fieldAddrA, lenA, sliceA, boundA, buildA, placesOf, overw, buildSliceA, makeSliceA, clearA, unA, convA, extractA, fieldA, indexA, nilChk, capsA, retA, retA1, retL, rowOf, srcRows, gslot, Value.oneCell', ↓reduceIte, reduceCtorEq, eq_self, ne_eq, imp_self, forall_const, Nat.reduceEqDiff, Nat.reduceAdd, Nat.reduceSub, Nat.reduceMul, Nat.reduceLT, Nat.reduceLeDiff, Nat.reduceBEq, Nat.reduceDiv, Nat.reduceMod, Int.reduceToNat, Int.reduceNeg, Int.reduceAdd, Int.reduceSub, Int.reduceMul, Int.reduceEq, Int.reduceNe, Int.reduceLT, Int.reduceLE, Int.reduceGT, Int.reduceGE]
    refine call_of (may_spec l (by omega) N) ?_
    cases hr : bof (Rises l) with
    | false =>
      have hk : okOp l op = false := by rw [okOp, hr]; rfl
      simp -implicitDefEqProofs (maxSteps := 1000000) (disch := omega) only [↓xsP, ↓vc_seq, xsQ, xsT, xsR, tch, tOf, idsOf, storeE, eqA, fitC, fitL, eqCells, eqL, isNilS, absL, loadA, storeA, fieldAddrA, lenA, sliceA, boundA, buildA, placesOf, overw, buildSliceA, makeSliceA, clearA, unA, convA, extractA, fieldA, indexA, nilChk, capsA, retA, retA1, retL, rowOf, srcRows, gslot, Value.oneCell', ↓reduceIte, reduceCtorEq, eq_self, ne_eq, imp_self, forall_const, Nat.reduceEqDiff, Nat.reduceAdd, Nat.reduceSub, Nat.reduceMul, Nat.reduceLT, Nat.reduceLeDiff, Nat.reduceBEq, Nat.reduceDiv, Nat.reduceMod, Int.reduceToNat, Int.reduceNeg, Int.reduceAdd, Int.reduceSub, Int.reduceMul, Int.reduceEq, Int.reduceNe, Int.reduceLT, Int.reduceLE, Int.reduceGT, Int.reduceGE]
      refine call_of (clone_spec l hl N) ?_
      simp -implicitDefEqProofs (maxSteps := 1000000) (disch := omega) only [↓xsP, ↓vc_seq, xsQ, xsT, xsR, tch, tOf, idsOf, storeE, eqA, fitC, fitL, eqCells, eqL, isNilS, absL, loadA, storeA, fieldAddrA, lenA, sliceA, boundA, buildA, placesOf, overw, buildSliceA, makeSliceA, clearA, unA, convA, extractA, fieldA, indexA, nilChk, capsA, retA, retA1, retL, rowOf, srcRows, gslot, Value.oneCell', ↓reduceIte, reduceCtorEq, eq_self, ne_eq, imp_self, forall_const, Nat.reduceEqDiff, Nat.reduceAdd, Nat.reduceSub, Nat.reduceMul, Nat.reduceLT, Nat.reduceLeDiff, Nat.reduceBEq, Nat.reduceDiv, Nat.reduceMod, Int.reduceToNat, Int.reduceNeg, Int.reduceAdd, Int.reduceSub, Int.reduceMul, Int.reduceEq, Int.reduceNe, Int.reduceLT, Int.reduceLE, Int.reduceGT, Int.reduceGE, hN5, arow, ans0]
      refine hend _ _ _ _ _ _ _ _ (Mem.le_set hMN (hid5 _ (Nat.le_refl _))) (by rw [doL, if_pos hk]) (by rw [doA, if_pos hk]; rfl)
    | true =>
      simp -implicitDefEqProofs (maxSteps := 1000000) (disch := omega) only [↓xsP, ↓vc_seq, xsQ, xsT, xsR, tch, tOf, idsOf, storeE, eqA, fitC, fitL, eqCells, eqL, isNilS, absL, loadA, storeA, fieldAddrA, lenA, sliceA, boundA, buildA, placesOf, overw, buildSliceA, makeSliceA, clearA, unA, convA, extractA, fieldA, indexA, nilChk, capsA, retA, retA1, retL, rowOf, srcRows, gslot, Value.oneCell', ↓reduceIte, reduceCtorEq, eq_self, ne_eq, imp_self, forall_const, Nat.reduceEqDiff, Nat.reduceAdd, Nat.reduceSub, Nat.reduceMul, Nat.reduceLT, Nat.reduceLeDiff, Nat.reduceBEq, Nat.reduceDiv, Nat.reduceMod, Int.reduceToNat, Int.reduceNeg, Int.reduceAdd, Int.reduceSub, Int.reduceMul, Int.reduceEq, Int.reduceNe, Int.reduceLT, Int.reduceLE, Int.reduceGT, Int.reduceGE, hN3]
      refine call_of (mayOp_spec op N) ?_
      cases hm : mayOpB op with
      | false =>
        have hk : okOp l op = false := by rw [okOp, hr, hm]; rfl
        simp -implicitDefEqProofs (maxSteps := 1000000) (disch := omega) only [↓xsP, ↓vc_seq, xsQ, xsT, xsR, tch, tOf, idsOf, storeE, eqA, fitC, fitL, eqCells, eqL, isNilS, absL, loadA, storeA, fieldAddrA, lenA, sliceA, boundA, buildA, placesOf, overw, buildSliceA, makeSliceA, clearA, unA, convA, extractA, fieldA, indexA, nilChk, capsA, retA, retA1, retL, rowOf, srcRows, gslot, Value.oneCell', ↓reduceIte, reduceCtorEq, eq_self, ne_eq, imp_self, forall_const, Nat.reduceEqDiff, Nat.reduceAdd, Nat.reduceSub, Nat.reduceMul, Nat.reduceLT, Nat.reduceLeDiff, Nat.reduceBEq, Nat.reduceDiv, Nat.reduceMod, Int.reduceToNat, Int.reduceNeg, Int.reduceAdd, Int.reduceSub, Int.reduceMul, Int.reduceEq, Int.reduceNe, Int.reduceLT, Int.reduceLE, Int.reduceGT, Int.reduceGE]
        refine call_of (clone_spec l hl N) ?_
        simp -implicitDefEqProofs (maxSteps := 1000000) (disch := omega) only [↓xsP, ↓vc_seq, xsQ, xsT, xsR, tch, tOf, idsOf, storeE, eqA, fitC, fitL, eqCells, eqL, isNilS, absL, loadA, storeA, fieldAddrA, lenA, sliceA, boundA, buildA, placesOf, overw, buildSliceA, makeSliceA, clearA, unA, convA, extractA, fieldA, indexA, nilChk, capsA, retA, retA1, retL, rowOf, srcRows, gslot, Value.oneCell', ↓reduceIte, reduceCtorEq, eq_self, ne_eq, imp_self, forall_const, Nat.reduceEqDiff, Nat.reduceAdd, Nat.reduceSub, Nat.reduceMul, Nat.reduceLT, Nat.reduceLeDiff, Nat.reduceBEq, Nat.reduceDiv, Nat.reduceMod, Int.reduceToNat, Int.reduceNeg, Int.reduceAdd, Int.reduceSub, Int.reduceMul, Int.reduceEq, Int.reduceNe, Int.reduceLT, Int.reduceLE, Int.reduceGT, Int.reduceGE, hN5, arow, ans0]
        refine hend _ _ _ _ _ _ _ _ (Mem.le_set hMN (hid5 _ (Nat.le_refl _))) (by rw [doL, if_pos hk]) (by rw [doA, if_pos hk]; rfl)
      | true =>
        simp -implicitDefEqProofs (maxSteps := 1000000) (disch := omega) only [↓xsP, ↓vc_seq, xsQ, xsT, xsR, tch, tOf, idsOf, storeE, eqA, fitC, fitL, eqCells, eqL, isNilS, absL, loadA, storeA, fieldAddrA, lenA, sliceA, boundA, buildA, placesOf, overw, buildSliceA, makeSliceA, clearA, unA, convA, extractA, fieldA, indexA, nilChk, capsA, retA, retA1, retL, rowOf, srcRows, gslot, Value.oneCell', ↓reduceIte, reduceCtorEq, eq_self, ne_eq, imp_self, forall_const, Nat.reduceEqDiff, Nat.reduceAdd, Nat.reduceSub, Nat.reduceMul, Nat.reduceLT, Nat.reduceLeDiff, Nat.reduceBEq, Nat.reduceDiv, Nat.reduceMod, Int.reduceToNat, Int.reduceNeg, Int.reduceAdd, Int.reduceSub, Int.reduceMul, Int.reduceEq, Int.reduceNe, Int.reduceLT, Int.reduceLE, Int.reduceGT, Int.reduceGE]
        rw [okOp, hr, hm]
        rfl
  · rintro fr N' ⟨rfl, hok, h0, h3, h5⟩
    have hok' : ¬ okOp l op = false := by rw [hok]; simp
    have hmay : mayOpB op = true := by
      rw [okOp, Bool.and_eq_true] at hok
      exact hok.2
    simp only [mayOpB, Bool.and_eq_true, decide_eq_true_eq] at hmay
    refine vc_seq_of ?_
    simp -implicitDefEqProofs (maxSteps := 1000000) (disch := omega) only [↓xsP, xsQ, xsT, xsR, tch, tOf, idsOf, storeE, eqA, fitC, fitL, eqCells, eqL, isNilS, absL, loadA, storeA, fieldAddrA, lenA, sliceA, boundA, buildA, placesOf, overw, buildSliceA, makeSliceA, clearA, unA, convA, extractA, fieldA, indexA, nilChk, capsA, retA, retA1, retL, rowOf, srcRows, gslot, Value.oneCell', ↓reduceIte, reduceCtorEq, eq_self, ne_eq, imp_self, forall_const, Nat.reduceEqDiff, Nat.reduceAdd, Nat.reduceSub, Nat.reduceMul, Nat.reduceLT, Nat.reduceLeDiff, Nat.reduceBEq, Nat.reduceDiv, Nat.reduceMod, Int.reduceToNat, Int.reduceNeg, Int.reduceAdd, Int.reduceSub, Int.reduceMul, Int.reduceEq, Int.reduceNe, Int.reduceLT, Int.reduceLE, Int.reduceGT, Int.reduceGE, h0, h3, h5]
    refine newI_intro fun id6 hid6 => ?_
    have h56 : id5 < id6 := lt_of_bnd hid6 hN5
    have h36 : id3 < id6 := lt_of_bnd hid6 hN3
    simp -implicitDefEqProofs (maxSteps := 1000000) (disch := omega) only [↓xsP, xsQ, xsT, xsR, tch, tOf, idsOf, storeE, eqA, fitC, fitL, eqCells, eqL, isNilS, absL, loadA, storeA, fieldAddrA, lenA, sliceA, boundA, buildA, placesOf, overw, buildSliceA, makeSliceA, clearA, unA, convA, extractA, fieldA, indexA, nilChk, capsA, retA, retA1, retL, rowOf, srcRows, gslot, Value.oneCell', ↓reduceIte, reduceCtorEq, eq_self, ne_eq, imp_self, forall_const, Nat.reduceEqDiff, Nat.reduceAdd, Nat.reduceSub, Nat.reduceMul, Nat.reduceLT, Nat.reduceLeDiff, Nat.reduceBEq, Nat.reduceDiv, Nat.reduceMod, Int.reduceToNat, Int.reduceNeg, Int.reduceAdd, Int.reduceSub, Int.reduceMul, Int.reduceEq, Int.reduceNe, Int.reduceLT, Int.reduceLE, Int.reduceGT, Int.reduceGE, h0, h3, h5]
    have hM6 : M id6 = none := by
      cases hq : M id6 with
      | none => rfl
      | some b => have := hMN _ _ hq; rw [hid6 _ (Nat.le_refl _)] at this; cases this
    refine vc_cut (fun fr N => fr 0 = .l (.sl (l.map Pr.row)) ∧ fr 5 = .l (.ptr id5 0 0) ∧ fr 6 = .l (.ptr id6 0 0) ∧ DoMid l op M id5 id6 N) ?_ ?_
    · have hget : ∀ {k : Int}, op.kind = k → 5 ≤ k → doL l op = l := fun h1 h2 => by
        rw [doL, if_neg hok', if_neg (by omega)]
      by_cases k5 : op.kind = 5
      · have q5 : (op.kind = 5) = True := eq_true k5
        have hdo : doA l op = ⟨0, false, ⟨0, 0⟩, (inRange l op).length, inRange l op⟩ := by rw [doA, if_neg hok', if_pos k5]
        simp -implicitDefEqProofs (maxSteps := 1000000) (disch := omega) only [↓xsP, ↓vc_seq, xsQ, xsT, xsR, tch, tOf, idsOf, storeE, eqA, fitC, fitL, eqCells, eqL, isNilS, absL, loadA, storeA, fieldAddrA, lenA, sliceA, boundA, buildA, placesOf, overw, buildSliceA, makeSliceA, clearA, unA, convA, extractA, fieldA, indexA, nilChk, capsA, retA, retA1, retL, rowOf, srcRows, gslot, Value.oneCell', ↓reduceIte, reduceCtorEq, eq_self, ne_eq, imp_self, forall_const, Nat.reduceEqDiff, Nat.reduceAdd, Nat.reduceSub, Nat.reduceMul, Nat.reduceLT, Nat.reduceLeDiff, Nat.reduceBEq, Nat.reduceDiv, Nat.reduceMod, Int.reduceToNat, Int.reduceNeg, Int.reduceAdd, Int.reduceSub, Int.reduceMul, Int.reduceEq, Int.reduceNe, Int.reduceLT, Int.reduceLE, Int.reduceGT, Int.reduceGE, h0, h3, h5, hN3, q5]
        refine call_of (within_spec l hl op.key op.to _) ?_
        simp -implicitDefEqProofs (maxSteps := 1000000) (disch := omega) only [↓xsP, ↓vc_seq, xsQ, xsT, xsR, tch, tOf, idsOf, storeE, eqA, fitC, fitL, eqCells, eqL, isNilS, absL, loadA, storeA, fieldAddrA, lenA, sliceA, boundA, buildA, placesOf, overw, buildSliceA, makeSliceA, clearA, unA, convA, extractA, fieldA, indexA, nilChk, capsA, retA, retA1, retL, rowOf, srcRows, gslot, Value.oneCell', ↓reduceIte, reduceCtorEq, eq_self, ne_eq, imp_self, forall_const, Nat.reduceEqDiff, Nat.reduceAdd, Nat.reduceSub, Nat.reduceMul, Nat.reduceLT, Nat.reduceLeDiff, Nat.reduceBEq, Nat.reduceDiv, Nat.reduceMod, Int.reduceToNat, Int.reduceNeg, Int.reduceAdd, Int.reduceSub, Int.reduceMul, Int.reduceEq, Int.reduceNe, Int.reduceLT, Int.reduceLE, Int.reduceGT, Int.reduceGE, h0, h3, h5, hN3, q5]
        exact doMid_set (hget k5 (by omega)) hMN hM6 (by omega) hN5 (by rw [hdo]; rfl)
      · have q5 : (op.kind = 5) = False := eq_false k5
        by_cases k6 : op.kind = 6
        · have q6 : (op.kind = 6) = True := eq_true k6
          have hdo : doA l op = ⟨0, false, ⟨0, 0⟩, (inRange l op).length, []⟩ := by rw [doA, if_neg hok', if_neg k5, if_pos k6]
          simp -implicitDefEqProofs (maxSteps := 1000000) (disch := omega) only [↓xsP, ↓vc_seq, xsQ, xsT, xsR, tch, tOf, idsOf, storeE, eqA, fitC, fitL, eqCells, eqL, isNilS, absL, loadA, storeA, fieldAddrA, lenA, sliceA, boundA, buildA, placesOf, overw, buildSliceA, makeSliceA, clearA, unA, convA, extractA, fieldA, indexA, nilChk, capsA, retA, retA1, retL, rowOf, srcRows, gslot, Value.oneCell', ↓reduceIte, reduceCtorEq, eq_self, ne_eq, imp_self, forall_const, Nat.reduceEqDiff, Nat.reduceAdd, Nat.reduceSub, Nat.reduceMul, Nat.reduceLT, Nat.reduceLeDiff, Nat.reduceBEq, Nat.reduceDiv, Nat.reduceMod, Int.reduceToNat, Int.reduceNeg, Int.reduceAdd, Int.reduceSub, Int.reduceMul, Int.reduceEq, Int.reduceNe, Int.reduceLT, Int.reduceLE, Int.reduceGT, Int.reduceGE, h0, h3, h5, hN3, q5, q6]
          refine call_of (within_spec l hl op.key op.to _) ?_
          simp -implicitDefEqProofs (maxSteps := 1000000) (disch := omega) only [↓xsP, ↓vc_seq, xsQ, xsT, xsR, tch, tOf, idsOf, storeE, eqA, fitC, fitL, eqCells, eqL, isNilS, absL, loadA, storeA, fieldAddrA, lenA, sliceA, boundA, buildA, placesOf, overw, buildSliceA, makeSliceA, clearA, unA, convA, extractA, fieldA, indexA, nilChk, capsA, retA, retA1, retL, rowOf, srcRows, gslot, Value.oneCell', ↓reduceIte, reduceCtorEq, eq_self, ne_eq, imp_self, forall_const, Nat.reduceEqDiff, Nat.reduceAdd, Nat.reduceSub, Nat.reduceMul, Nat.reduceLT, Nat.reduceLeDiff, Nat.reduceBEq, Nat.reduceDiv, Nat.reduceMod, Int.reduceToNat, Int.reduceNeg, Int.reduceAdd, Int.reduceSub, Int.reduceMul, Int.reduceEq, Int.reduceNe, Int.reduceLT, Int.reduceLE, Int.reduceGT, Int.reduceGE, h0, h3, h5, hN3, q5, q6]
          exact doMid_set (hget k6 (by omega)) hMN hM6 (by omega) hN5 (by rw [hdo]; rfl)
        · have q6 : (op.kind = 6) = False := eq_false k6
          by_cases k7 : op.kind = 7
          · have q7 : (op.kind = 7) = True := eq_true k7
            have q8 : (op.kind = 8) = False := eq_false (by omega)
            have hdo : doA l op = (if l = [] then ans0 else ⟨0, true, l.getD 0 default, 0, []⟩) := by rw [doA, if_neg hok', if_neg k5, if_neg k6, if_pos k7]
            simp -implicitDefEqProofs (maxSteps := 1000000) (disch := omega) only [↓xsP, ↓vc_seq, xsQ, xsT, xsR, tch, tOf, idsOf, storeE, eqA, fitC, fitL, eqCells, eqL, isNilS, absL, loadA, storeA, fieldAddrA, lenA, sliceA, boundA, buildA, placesOf, overw, buildSliceA, makeSliceA, clearA, unA, convA, extractA, fieldA, indexA, nilChk, capsA, retA, retA1, retL, rowOf, srcRows, gslot, Value.oneCell', ↓reduceIte, reduceCtorEq, eq_self, ne_eq, imp_self, forall_const, Nat.reduceEqDiff, Nat.reduceAdd, Nat.reduceSub, Nat.reduceMul, Nat.reduceLT, Nat.reduceLeDiff, Nat.reduceBEq, Nat.reduceDiv, Nat.reduceMod, Int.reduceToNat, Int.reduceNeg, Int.reduceAdd, Int.reduceSub, Int.reduceMul, Int.reduceEq, Int.reduceNe, Int.reduceLT, Int.reduceLE, Int.reduceGT, Int.reduceGE, h0, h3, h5, hN3, q5, q6, q7]
            refine condI_prop (fun hp => ?_) (fun hp => ?_)
            · have hl0 : ¬ l = [] := fun e => by subst e; simp at hp
              have hpos : ((l.length : Int) > 0) = True := eq_true hp
              have hpos' : 0 < l.length := by omega
              rw [if_neg hl0] at hdo
              simp -implicitDefEqProofs (maxSteps := 1000000) (disch := omega) only [↓xsP, ↓vc_seq, xsQ, xsT, xsR, tch, tOf, idsOf, storeE, eqA, fitC, fitL, eqCells, eqL, isNilS, absL, loadA, storeA, fieldAddrA, lenA, sliceA, boundA, buildA, placesOf, overw, buildSliceA, makeSliceA, clearA, unA, convA, extractA, fieldA, indexA, nilChk, capsA, retA, retA1, retL, rowOf, srcRows, gslot, Value.oneCell', ↓reduceIte, reduceCtorEq, eq_self, ne_eq, imp_self, forall_const, Nat.reduceEqDiff, Nat.reduceAdd, Nat.reduceSub, Nat.reduceMul, Nat.reduceLT, Nat.reduceLeDiff, Nat.reduceBEq, Nat.reduceDiv, Nat.reduceMod, Int.reduceToNat, Int.reduceNeg, Int.reduceAdd, Int.reduceSub, Int.reduceMul, Int.reduceEq, Int.reduceNe, Int.reduceLT, Int.reduceLE, Int.reduceGT, Int.reduceGE, h0, h3, h5, hN3, q7, q8, hpos]
              exact doMid_set (hget k7 (by omega)) hMN hM6 (by omega) hN5 (by rw [hdo]; rfl)
            · have hl0 : l = [] := List.eq_nil_of_length_eq_zero (by omega)
              have hpos : ((l.length : Int) > 0) = False := eq_false hp
              rw [if_pos hl0] at hdo
              simp -implicitDefEqProofs (maxSteps := 1000000) (disch := omega) only [↓xsP, ↓vc_seq, xsQ, xsT, xsR, tch, tOf, idsOf, storeE, eqA, fitC, fitL, eqCells, eqL, isNilS, absL, loadA, storeA, fieldAddrA, lenA, sliceA, boundA, buildA, placesOf, overw, buildSliceA, makeSliceA, clearA, unA, convA, extractA, fieldA, indexA, nilChk, capsA, retA, retA1, retL, rowOf, srcRows, gslot, Value.oneCell', ↓reduceIte, reduceCtorEq, eq_self, ne_eq, imp_self, forall_const, Nat.reduceEqDiff, Nat.reduceAdd, Nat.reduceSub, Nat.reduceMul, Nat.reduceLT, Nat.reduceLeDiff, Nat.reduceBEq, Nat.reduceDiv, Nat.reduceMod, Int.reduceToNat, Int.reduceNeg, Int.reduceAdd, Int.reduceSub, Int.reduceMul, Int.reduceEq, Int.reduceNe, Int.reduceLT, Int.reduceLE, Int.reduceGT, Int.reduceGE, h0, h3, h5, hN3, q7, q8, hpos]
              exact doMid_set (hget k7 (by omega)) hMN hM6 (by omega) hN5 (by rw [hdo]; rfl)
          · have q7 : (op.kind = 7) = False := eq_false k7
            by_cases k8 : op.kind = 8
            · have q8 : (op.kind = 8) = True := eq_true k8
              have hdo : doA l op = (if l = [] then ans0 else ⟨0, true, l.getD (l.length - 1) default, 0, []⟩) := by rw [doA, if_neg hok', if_neg k5, if_neg k6, if_neg k7, if_pos k8]
              simp -implicitDefEqProofs (maxSteps := 1000000) (disch := omega) only [↓xsP, ↓vc_seq, xsQ, xsT, xsR, tch, tOf, idsOf, storeE, eqA, fitC, fitL, eqCells, eqL, isNilS, absL, loadA, storeA, fieldAddrA, lenA, sliceA, boundA, buildA, placesOf, overw, buildSliceA, makeSliceA, clearA, unA, convA, extractA, fieldA, indexA, nilChk, capsA, retA, retA1, retL, rowOf, srcRows, gslot, Value.oneCell', ↓reduceIte, reduceCtorEq, eq_self, ne_eq, imp_self, forall_const, Nat.reduceEqDiff, Nat.reduceAdd, Nat.reduceSub, Nat.reduceMul, Nat.reduceLT, Nat.reduceLeDiff, Nat.reduceBEq, Nat.reduceDiv, Nat.reduceMod, Int.reduceToNat, Int.reduceNeg, Int.reduceAdd, Int.reduceSub, Int.reduceMul, Int.reduceEq, Int.reduceNe, Int.reduceLT, Int.reduceLE, Int.reduceGT, Int.reduceGE, h0, h3, h5, hN3, q5, q6, q7, q8]
              refine condI_prop (fun hp => ?_) (fun hp => ?_)
              · have hl0 : ¬ l = [] := fun e => by subst e; simp at hp
                have hpos : ((l.length : Int) > 0) = True := eq_true hp
                have hpos' : 0 < l.length := by omega
                rw [if_neg hl0] at hdo
                simp -implicitDefEqProofs (maxSteps := 1000000) (disch := omega) only [↓xsP, ↓vc_seq, xsQ, xsT, xsR, tch, tOf, idsOf, storeE, eqA, fitC, fitL, eqCells, eqL, isNilS, absL, loadA, storeA, fieldAddrA, lenA, sliceA, boundA, buildA, placesOf, overw, buildSliceA, makeSliceA, clearA, unA, convA, extractA, fieldA, indexA, nilChk, capsA, retA, retA1, retL, rowOf, srcRows, gslot, Value.oneCell', ↓reduceIte, reduceCtorEq, eq_self, ne_eq, imp_self, forall_const, Nat.reduceEqDiff, Nat.reduceAdd, Nat.reduceSub, Nat.reduceMul, Nat.reduceLT, Nat.reduceLeDiff, Nat.reduceBEq, Nat.reduceDiv, Nat.reduceMod, Int.reduceToNat, Int.reduceNeg, Int.reduceAdd, Int.reduceSub, Int.reduceMul, Int.reduceEq, Int.reduceNe, Int.reduceLT, Int.reduceLE, Int.reduceGT, Int.reduceGE, h0, h3, h5, hN3, q7, q8, hpos]
                exact doMid_set (hget k8 (by omega)) hMN hM6 (by omega) hN5 (by rw [hdo]; rfl)
              · have hl0 : l = [] := List.eq_nil_of_length_eq_zero (by omega)
                have hpos : ((l.length : Int) > 0) = False := eq_false hp
                rw [if_pos hl0] at hdo
                simp -implicitDefEqProofs (maxSteps := 1000000) (disch := omega) only [↓xsP, ↓vc_seq, xsQ, xsT, xsR, tch, tOf, idsOf, storeE, eqA, fitC, fitL, eqCells, eqL, isNilS, absL, loadA, storeA, fieldAddrA, lenA, sliceA, boundA, buildA, placesOf, overw, buildSliceA, makeSliceA, clearA, unA, convA, extractA, fieldA, indexA, nilChk, capsA, retA, retA1, retL, rowOf, srcRows, gslot, Value.oneCell', ↓reduceIte, reduceCtorEq, eq_self, ne_eq, imp_self, forall_const, Nat.reduceEqDiff, Nat.reduceAdd, Nat.reduceSub, Nat.reduceMul, Nat.reduceLT, Nat.reduceLeDiff, Nat.reduceBEq, Nat.reduceDiv, Nat.reduceMod, Int.reduceToNat, Int.reduceNeg, Int.reduceAdd, Int.reduceSub, Int.reduceMul, Int.reduceEq, Int.reduceNe, Int.reduceLT, Int.reduceLE, Int.reduceGT, Int.reduceGE, h0, h3, h5, hN3, q7, q8, hpos]
                exact doMid_set (hget k8 (by omega)) hMN hM6 (by omega) hN5 (by rw [hdo]; rfl)
            · have q8 : (op.kind = 8) = False := eq_false k8
              have hdo : doA l op = ansAt l (place l op.key) := by rw [doA, if_neg hok', if_neg k5, if_neg k6, if_neg k7, if_neg k8]
              have hdl : doL l op = oneL l op := by
                rw [doL, if_neg hok']
                split
                · rfl
                · rename_i hk
                  exact (oneL_get (by omega) (by omega) (by omega)).symm
              simp -implicitDefEqProofs (maxSteps := 1000000) (disch := omega) only [↓xsP, ↓vc_seq, xsQ, xsT, xsR, tch, tOf, idsOf, storeE, eqA, fitC, fitL, eqCells, eqL, isNilS, absL, loadA, storeA, fieldAddrA, lenA, sliceA, boundA, buildA, placesOf, overw, buildSliceA, makeSliceA, clearA, unA, convA, extractA, fieldA, indexA, nilChk, capsA, retA, retA1, retL, rowOf, srcRows, gslot, Value.oneCell', ↓reduceIte, reduceCtorEq, eq_self, ne_eq, imp_self, forall_const, Nat.reduceEqDiff, Nat.reduceAdd, Nat.reduceSub, Nat.reduceMul, Nat.reduceLT, Nat.reduceLeDiff, Nat.reduceBEq, Nat.reduceDiv, Nat.reduceMod, Int.reduceToNat, Int.reduceNeg, Int.reduceAdd, Int.reduceSub, Int.reduceMul, Int.reduceEq, Int.reduceNe, Int.reduceLT, Int.reduceLE, Int.reduceGT, Int.reduceGE, h0, h3, h5, hN3, q5, q6, q7, q8]
              refine call_of (one_spec l hl op _) ?_
              simp -implicitDefEqProofs (maxSteps := 1000000) (disch := omega) only [↓xsP, ↓vc_seq, xsQ, xsT, xsR, tch, tOf, idsOf, storeE, eqA, fitC, fitL, eqCells, eqL, isNilS, absL, loadA, storeA, fieldAddrA, lenA, sliceA, boundA, buildA, placesOf, overw, buildSliceA, makeSliceA, clearA, unA, convA, extractA, fieldA, indexA, nilChk, capsA, retA, retA1, retL, rowOf, srcRows, gslot, Value.oneCell', ↓reduceIte, reduceCtorEq, eq_self, ne_eq, imp_self, forall_const, Nat.reduceEqDiff, Nat.reduceAdd, Nat.reduceSub, Nat.reduceMul, Nat.reduceLT, Nat.reduceLeDiff, Nat.reduceBEq, Nat.reduceDiv, Nat.reduceMod, Int.reduceToNat, Int.reduceNeg, Int.reduceAdd, Int.reduceSub, Int.reduceMul, Int.reduceEq, Int.reduceNe, Int.reduceLT, Int.reduceLE, Int.reduceGT, Int.reduceGE, h0, h3, h5, hN5, arow, ans0]
              exact hend _ _ _ _ _ _ _ _ (Mem.le_set (Mem.le_set hMN hM6) (hid5 _ (Nat.le_refl _))) hdl.symm (by rw [hdo]; rfl)
    · clear h0 h3 h5
      rintro fr N ⟨h0, h5, h6, hdl, hMN2, hN5', a, b, c, d, e, f, hN6, hw⟩
      refine vc_seq_of ?_
      simp -implicitDefEqProofs (maxSteps := 1000000) (disch := omega) only [↓xsP, xsQ, xsT, xsR, tch, tOf, idsOf, storeE, eqA, fitC, fitL, eqCells, eqL, isNilS, absL, loadA, storeA, fieldAddrA, lenA, sliceA, boundA, buildA, placesOf, overw, buildSliceA, makeSliceA, clearA, unA, convA, extractA, fieldA, indexA, nilChk, capsA, retA, retA1, retL, rowOf, srcRows, gslot, Value.oneCell', ↓reduceIte, reduceCtorEq, eq_self, ne_eq, imp_self, forall_const, Nat.reduceEqDiff, Nat.reduceAdd, Nat.reduceSub, Nat.reduceMul, Nat.reduceLT, Nat.reduceLeDiff, Nat.reduceBEq, Nat.reduceDiv, Nat.reduceMod, Int.reduceToNat, Int.reduceNeg, Int.reduceAdd, Int.reduceSub, Int.reduceMul, Int.reduceEq, Int.reduceNe, Int.reduceLT, Int.reduceLE, Int.reduceGT, Int.reduceGE, h0, h5, h6]
      refine xwrite (fun n0 => [ (4, id5)]) [4] [] [[], [], [], [], []] (by kernel_rfl) (by kernel_rfl) (by kernel_rfl) (by kernel_rfl) (fun n0 hn0 => ⟨rfl, ?_, ?_⟩)
      · exact TOk_cons (.inl (lt_of_bnd hn0 hN5')) (TOk_nil _ _)
      · have h5n := lt_of_bnd hn0 hN5'
        have h6n := lt_of_bnd hn0 hN6
        simp -implicitDefEqProofs (maxSteps := 1000000) (disch := omega) only [↓xsP, ↓vc_seq, xsQ, xsT, xsR, tch, tOf, idsOf, storeE, eqA, fitC, fitL, eqCells, eqL, isNilS, absL, loadA, storeA, fieldAddrA, lenA, sliceA, boundA, buildA, placesOf, overw, buildSliceA, makeSliceA, clearA, unA, convA, extractA, fieldA, indexA, nilChk, capsA, retA, retA1, retL, rowOf, srcRows, gslot, Value.oneCell', ↓reduceIte, reduceCtorEq, eq_self, ne_eq, imp_self, forall_const, Nat.reduceEqDiff, Nat.reduceAdd, Nat.reduceSub, Nat.reduceMul, Nat.reduceLT, Nat.reduceLeDiff, Nat.reduceBEq, Nat.reduceDiv, Nat.reduceMod, Int.reduceToNat, Int.reduceNeg, Int.reduceAdd, Int.reduceSub, Int.reduceMul, Int.reduceEq, Int.reduceNe, Int.reduceLT, Int.reduceLE, Int.reduceGT, Int.reduceGE, h0, h5, h6]
        refine ⟨.l (.sl (l.map Pr.row)), [], fun M' hle => XCalls.mono (clone_spec l hl M') (by rintro _ _ ⟨rfl, rfl⟩; exact ⟨rfl, Mem.le_refl _⟩), ?_⟩
        simp -implicitDefEqProofs (maxSteps := 1000000) (disch := omega) only [↓xsP, ↓vc_seq, xsQ, xsT, xsR, tch, tOf, idsOf, storeE, eqA, fitC, fitL, eqCells, eqL, isNilS, absL, loadA, storeA, fieldAddrA, lenA, sliceA, boundA, buildA, placesOf, overw, buildSliceA, makeSliceA, clearA, unA, convA, extractA, fieldA, indexA, nilChk, capsA, retA, retA1, retL, rowOf, srcRows, gslot, Value.oneCell', ↓reduceIte, reduceCtorEq, eq_self, ne_eq, imp_self, forall_const, Nat.reduceEqDiff, Nat.reduceAdd, Nat.reduceSub, Nat.reduceMul, Nat.reduceLT, Nat.reduceLeDiff, Nat.reduceBEq, Nat.reduceDiv, Nat.reduceMod, Int.reduceToNat, Int.reduceNeg, Int.reduceAdd, Int.reduceSub, Int.reduceMul, Int.reduceEq, Int.reduceNe, Int.reduceLT, Int.reduceLE, Int.reduceGT, Int.reduceGE, h0, h5, h6, hN5', hN6, arow]
        exact hend _ _ _ _ _ _ _ _ (Mem.le_set hMN2 (hid5 _ (Nat.le_refl _))) hdl.symm hw
end Go.X
