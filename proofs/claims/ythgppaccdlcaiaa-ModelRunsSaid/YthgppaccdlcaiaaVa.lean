/- What leaf's small functions do: Find, IndexFunc, Clone. -/
import Derived.Test.YthgppaccdlcaiaaYd
import Derived.Test.YthgppaccdlcaiaaXz
set_option linter.unusedVariables false
set_option linter.unusedSimpArgs false
set_option maxHeartbeats 20000000
set_option maxRecDepth 100000
namespace Go.X
open Go.Proofs.Try (prog)

/-- What may be said when a call is over, once the ghost has been turned. -/
theorem XCalls.fin {P : Program} {f : FuncId} {args : List AV} {M : Mem} {K K' : AV → Mem → Prop} (h : XCalls P f args M K) (hk : ∀ v M', K v M' → XFin P v M' K') : XCalls P f args M K' := by
  refine ⟨h.1, fun g w vs hP hA hR => ?_⟩
  refine (h.2 g w vs hP hA hR).mono ?_
  rintro e w' ⟨rv, v, g', M', rfl, hK, hev, hc, hR'⟩
  obtain ⟨g2, v', M2, h1, h2, h3, h4⟩ := hk v M' hK g' w' rv (hev.P.trans hP) hc hR'
  exact ⟨rv, v', g2, M2, rfl, h1, hev.trans h2, h3, h4⟩

/-- A slice of pairs, kept or of a live block. -/
def SrcIs (M : Mem) (s : Lf) (l : List Pr) : Prop := s = .sl (l.map Pr.row) ∨ ∃ id keep, s = .ms id 0 l.length ∧ M id = some (.cells 33 (l.map Pr.row) keep)
theorem SrcIs.le {M M' : Mem} {s : Lf} {l : List Pr} (h : SrcIs M s l) (hle : M.le M') : SrcIs M' s l := by
  rcases h with h | ⟨id, keep, h, h2⟩
  · exact .inl h
  · exact .inr ⟨id, keep, h, hle _ _ h2⟩

theorem findClo_spec (p : Pr) (id : Nat) (k : Int) (M : Mem) {keep : Nat} (hM : M id = some (.cells 3 [[.int .i64 k]] keep)) :
    XCalls Go.Proofs.Try.prog 56 [.agg p.row, .l (.ptr id 0 0)] M fun r M' => r = .l (.bool (decide (p.key = k))) ∧ M' = M := by
  refine xcalls_intro (rs := [.tmp 3]) Go.Proofs.Try.func56 rfl (by kernel_rfl) rfl rfl (by kernel_rfl) (by simp) ?_
  simp -implicitDefEqProofs (maxSteps := 1000000) (disch := omega) only [↓xsP, ↓vc_seq, xsQ, xsT, xsR, tch, tOf, idsOf, storeE, eqA, fitC, fitL, eqCells, eqL, isNilS, absL, loadA, storeA, fieldAddrA, lenA, sliceA, boundA, buildA, placesOf, overw, buildSliceA, makeSliceA, clearA, unA, convA, extractA, fieldA, indexA, nilChk, capsA, retA, retA1, retL, rowOf, srcRows, gslot, Value.oneCell', ↓reduceIte, reduceCtorEq, eq_self, ne_eq, imp_self, forall_const, Nat.reduceEqDiff, Nat.reduceAdd, Nat.reduceSub, Nat.reduceMul, Nat.reduceLT, Nat.reduceLeDiff, Nat.reduceBEq, Nat.reduceDiv, Nat.reduceMod, Int.reduceToNat, Int.reduceNeg, Int.reduceAdd, Int.reduceSub, Int.reduceMul, Int.reduceEq, Int.reduceNe, Int.reduceLT, Int.reduceLE, Int.reduceGT, Int.reduceGE]
  refine newI_intro fun id2 hid2 => ?_
  have hlt : id < id2 := lt_of_bnd hid2 hM
  simp -implicitDefEqProofs (maxSteps := 1000000) (disch := omega) only [↓xsP, ↓vc_seq, xsQ, xsT, xsR, tch, tOf, idsOf, storeE, eqA, fitC, fitL, eqCells, eqL, isNilS, absL, loadA, storeA, fieldAddrA, lenA, sliceA, boundA, buildA, placesOf, overw, buildSliceA, makeSliceA, clearA, unA, convA, extractA, fieldA, indexA, nilChk, capsA, retA, retA1, retL, rowOf, srcRows, gslot, Value.oneCell', ↓reduceIte, reduceCtorEq, eq_self, ne_eq, imp_self, forall_const, Nat.reduceEqDiff, Nat.reduceAdd, Nat.reduceSub, Nat.reduceMul, Nat.reduceLT, Nat.reduceLeDiff, Nat.reduceBEq, Nat.reduceDiv, Nat.reduceMod, Int.reduceToNat, Int.reduceNeg, Int.reduceAdd, Int.reduceSub, Int.reduceMul, Int.reduceEq, Int.reduceNe, Int.reduceLT, Int.reduceLE, Int.reduceGT, Int.reduceGE, hM]
  exact fin_ok (le_new (Mem.le_refl _) hid2) ⟨rfl, rfl⟩

theorem withinClo_spec (p : Pr) (id id' : Nat) (lo hi : Int) (M : Mem) {keep keep' : Nat} (hM : M id = some (.cells 3 [[.int .i64 lo]] keep)) (hM' : M id' = some (.cells 3 [[.int .i64 hi]] keep')) :
    XCalls Go.Proofs.Try.prog 59 [.agg p.row, .l (.ptr id 0 0), .l (.ptr id' 0 0)] M fun r M' => r = .l (.bool (decide (p.key < lo) || decide (p.key > hi))) ∧ M' = M := by
  refine xcalls_intro (rs := [.tmp 4]) Go.Proofs.Try.func59 rfl (by kernel_rfl) rfl rfl (by kernel_rfl) (by simp) ?_
  simp -implicitDefEqProofs (maxSteps := 1000000) (disch := omega) only [↓xsP, ↓vc_seq, xsQ, xsT, xsR, tch, tOf, idsOf, storeE, eqA, fitC, fitL, eqCells, eqL, isNilS, absL, loadA, storeA, fieldAddrA, lenA, sliceA, boundA, buildA, placesOf, overw, buildSliceA, makeSliceA, clearA, unA, convA, extractA, fieldA, indexA, nilChk, capsA, retA, retA1, retL, rowOf, srcRows, gslot, Value.oneCell', ↓reduceIte, reduceCtorEq, eq_self, ne_eq, imp_self, forall_const, Nat.reduceEqDiff, Nat.reduceAdd, Nat.reduceSub, Nat.reduceMul, Nat.reduceLT, Nat.reduceLeDiff, Nat.reduceBEq, Nat.reduceDiv, Nat.reduceMod, Int.reduceToNat, Int.reduceNeg, Int.reduceAdd, Int.reduceSub, Int.reduceMul, Int.reduceEq, Int.reduceNe, Int.reduceLT, Int.reduceLE, Int.reduceGT, Int.reduceGE]
  refine newI_intro fun id2 hid2 => ?_
  have hlt : id < id2 := lt_of_bnd hid2 hM
  have hlt' : id' < id2 := lt_of_bnd hid2 hM'
  simp -implicitDefEqProofs (maxSteps := 1000000) (disch := omega) only [↓xsP, ↓vc_seq, xsQ, xsT, xsR, tch, tOf, idsOf, storeE, eqA, fitC, fitL, eqCells, eqL, isNilS, absL, loadA, storeA, fieldAddrA, lenA, sliceA, boundA, buildA, placesOf, overw, buildSliceA, makeSliceA, clearA, unA, convA, extractA, fieldA, indexA, nilChk, capsA, retA, retA1, retL, rowOf, srcRows, gslot, Value.oneCell', ↓reduceIte, reduceCtorEq, eq_self, ne_eq, imp_self, forall_const, Nat.reduceEqDiff, Nat.reduceAdd, Nat.reduceSub, Nat.reduceMul, Nat.reduceLT, Nat.reduceLeDiff, Nat.reduceBEq, Nat.reduceDiv, Nat.reduceMod, Int.reduceToNat, Int.reduceNeg, Int.reduceAdd, Int.reduceSub, Int.reduceMul, Int.reduceEq, Int.reduceNe, Int.reduceLT, Int.reduceLE, Int.reduceGT, Int.reduceGE, hM, hM']
  refine gI_prop_f (fun h => ?_) (fun h => ?_)
  · simp -implicitDefEqProofs (maxSteps := 1000000) (disch := omega) only [↓xsP, ↓vc_seq, xsQ, xsT, xsR, tch, tOf, idsOf, storeE, eqA, fitC, fitL, eqCells, eqL, isNilS, absL, loadA, storeA, fieldAddrA, lenA, sliceA, boundA, buildA, placesOf, overw, buildSliceA, makeSliceA, clearA, unA, convA, extractA, fieldA, indexA, nilChk, capsA, retA, retA1, retL, rowOf, srcRows, gslot, Value.oneCell', ↓reduceIte, reduceCtorEq, eq_self, ne_eq, imp_self, forall_const, Nat.reduceEqDiff, Nat.reduceAdd, Nat.reduceSub, Nat.reduceMul, Nat.reduceLT, Nat.reduceLeDiff, Nat.reduceBEq, Nat.reduceDiv, Nat.reduceMod, Int.reduceToNat, Int.reduceNeg, Int.reduceAdd, Int.reduceSub, Int.reduceMul, Int.reduceEq, Int.reduceNe, Int.reduceLT, Int.reduceLE, Int.reduceGT, Int.reduceGE, hM, hM', h]
    refine fin_ok (le_new (Mem.le_refl _) hid2) ⟨?_, rfl⟩
    simp [h]
  · simp -implicitDefEqProofs (maxSteps := 1000000) (disch := omega) only [↓xsP, ↓vc_seq, xsQ, xsT, xsR, tch, tOf, idsOf, storeE, eqA, fitC, fitL, eqCells, eqL, isNilS, absL, loadA, storeA, fieldAddrA, lenA, sliceA, boundA, buildA, placesOf, overw, buildSliceA, makeSliceA, clearA, unA, convA, extractA, fieldA, indexA, nilChk, capsA, retA, retA1, retL, rowOf, srcRows, gslot, Value.oneCell', ↓reduceIte, reduceCtorEq, eq_self, ne_eq, imp_self, forall_const, Nat.reduceEqDiff, Nat.reduceAdd, Nat.reduceSub, Nat.reduceMul, Nat.reduceLT, Nat.reduceLeDiff, Nat.reduceBEq, Nat.reduceDiv, Nat.reduceMod, Int.reduceToNat, Int.reduceNeg, Int.reduceAdd, Int.reduceSub, Int.reduceMul, Int.reduceEq, Int.reduceNe, Int.reduceLT, Int.reduceLE, Int.reduceGT, Int.reduceGE, hM, hM', h]
    refine fin_ok (le_new (Mem.le_refl _) hid2) ⟨?_, rfl⟩
    simp [h]

/-- The first place from i on of what is looked for; -1: none. -/
def pidx (q : Pr → Bool) : List Pr → Nat → Int
  | [], _ => -1
  | p :: r, i => if q p then i else pidx q r (i + 1)

theorem index_spec (l : List Pr) (hl : l.length ≤ 140737488355328) (s : Lf) (M : Mem) (hs : SrcIs M s l) (f : FuncId) (caps : List Lf) (q : Pr → Bool) (hq : ∀ p, XCalls Go.Proofs.Try.prog f ([.agg p.row] ++ caps.map .l) M fun r M' => r = .l (.bool (q p)) ∧ M' = M) :
    XCalls Go.Proofs.Try.prog 55 [.l s, .l (.clo f caps)] M fun r M' => r = .l (.int .i64 (pidx q l 0)) ∧ M' = M := by
  refine xcalls_intro (rs := [.tmp 4]) Go.Proofs.Try.func55 rfl (by kernel_rfl) rfl rfl (by kernel_rfl) (by simp) ?_
  have hstep : ∀ i, i < l.length → l.drop i = l.getD i default :: l.drop (i + 1) := fun i hi => by
    rw [List.drop_eq_getElem_cons hi, List.getD_eq_getElem?_getD, List.getElem?_eq_getElem hi, Option.getD_some]
  have inv0 : ∀ i, (i : Nat) = 0 → pidx q l 0 = pidx q (l.drop i) i := fun i h => by subst h; rfl
  rcases hs with rfl | ⟨id, keep, rfl, hM⟩
  · simp -implicitDefEqProofs (maxSteps := 1000000) (disch := omega) only [↓xsP, ↓vc_seq, xsQ, xsT, xsR, tch, tOf, idsOf, storeE, eqA, fitC, fitL, eqCells, eqL, isNilS, absL, loadA, storeA, fieldAddrA, lenA, sliceA, boundA, buildA, placesOf, overw, buildSliceA, makeSliceA, clearA, unA, convA, extractA, fieldA, indexA, nilChk, capsA, retA, retA1, retL, rowOf, srcRows, gslot, Value.oneCell', ↓reduceIte, reduceCtorEq, eq_self, ne_eq, imp_self, forall_const, Nat.reduceEqDiff, Nat.reduceAdd, Nat.reduceSub, Nat.reduceMul, Nat.reduceLT, Nat.reduceLeDiff, Nat.reduceBEq, Nat.reduceDiv, Nat.reduceMod, Int.reduceToNat, Int.reduceNeg, Int.reduceAdd, Int.reduceSub, Int.reduceMul, Int.reduceEq, Int.reduceNe, Int.reduceLT, Int.reduceLE, Int.reduceGT, Int.reduceGE]
    refine loopI_of (xloop (by kernel_rfl) (fun k fr M' => ∃ i : Nat, i ≤ l.length ∧ k = l.length - i ∧ fr 0 = .l (.sl (l.map Pr.row)) ∧ fr 1 = .l (.clo f caps) ∧ fr 7 = .l (.int .i64 l.length) ∧ fr 8 = .l (.int .i64 i) ∧ M' = M ∧ pidx q l 0 = pidx q (l.drop i) i) l.length ?_ ?_)
    · exact ⟨0, Nat.zero_le _, rfl, by simp -implicitDefEqProofs (maxSteps := 1000000) (disch := omega) only [↓xsP, ↓vc_seq, xsQ, xsT, xsR, tch, tOf, idsOf, storeE, eqA, fitC, fitL, eqCells, eqL, isNilS, absL, loadA, storeA, fieldAddrA, lenA, sliceA, boundA, buildA, placesOf, overw, buildSliceA, makeSliceA, clearA, unA, convA, extractA, fieldA, indexA, nilChk, capsA, retA, retA1, retL, rowOf, srcRows, gslot, Value.oneCell', ↓reduceIte, reduceCtorEq, eq_self, ne_eq, imp_self, forall_const, Nat.reduceEqDiff, Nat.reduceAdd, Nat.reduceSub, Nat.reduceMul, Nat.reduceLT, Nat.reduceLeDiff, Nat.reduceBEq, Nat.reduceDiv, Nat.reduceMod, Int.reduceToNat, Int.reduceNeg, Int.reduceAdd, Int.reduceSub, Int.reduceMul, Int.reduceEq, Int.reduceNe, Int.reduceLT, Int.reduceLE, Int.reduceGT, Int.reduceGE], by simp -implicitDefEqProofs (maxSteps := 1000000) (disch := omega) only [↓xsP, ↓vc_seq, xsQ, xsT, xsR, tch, tOf, idsOf, storeE, eqA, fitC, fitL, eqCells, eqL, isNilS, absL, loadA, storeA, fieldAddrA, lenA, sliceA, boundA, buildA, placesOf, overw, buildSliceA, makeSliceA, clearA, unA, convA, extractA, fieldA, indexA, nilChk, capsA, retA, retA1, retL, rowOf, srcRows, gslot, Value.oneCell', ↓reduceIte, reduceCtorEq, eq_self, ne_eq, imp_self, forall_const, Nat.reduceEqDiff, Nat.reduceAdd, Nat.reduceSub, Nat.reduceMul, Nat.reduceLT, Nat.reduceLeDiff, Nat.reduceBEq, Nat.reduceDiv, Nat.reduceMod, Int.reduceToNat, Int.reduceNeg, Int.reduceAdd, Int.reduceSub, Int.reduceMul, Int.reduceEq, Int.reduceNe, Int.reduceLT, Int.reduceLE, Int.reduceGT, Int.reduceGE], by simp -implicitDefEqProofs (maxSteps := 1000000) (disch := omega) only [↓xsP, ↓vc_seq, xsQ, xsT, xsR, tch, tOf, idsOf, storeE, eqA, fitC, fitL, eqCells, eqL, isNilS, absL, loadA, storeA, fieldAddrA, lenA, sliceA, boundA, buildA, placesOf, overw, buildSliceA, makeSliceA, clearA, unA, convA, extractA, fieldA, indexA, nilChk, capsA, retA, retA1, retL, rowOf, srcRows, gslot, Value.oneCell', ↓reduceIte, reduceCtorEq, eq_self, ne_eq, imp_self, forall_const, Nat.reduceEqDiff, Nat.reduceAdd, Nat.reduceSub, Nat.reduceMul, Nat.reduceLT, Nat.reduceLeDiff, Nat.reduceBEq, Nat.reduceDiv, Nat.reduceMod, Int.reduceToNat, Int.reduceNeg, Int.reduceAdd, Int.reduceSub, Int.reduceMul, Int.reduceEq, Int.reduceNe, Int.reduceLT, Int.reduceLE, Int.reduceGT, Int.reduceGE], by simp -implicitDefEqProofs (maxSteps := 1000000) (disch := omega) only [↓xsP, ↓vc_seq, xsQ, xsT, xsR, tch, tOf, idsOf, storeE, eqA, fitC, fitL, eqCells, eqL, isNilS, absL, loadA, storeA, fieldAddrA, lenA, sliceA, boundA, buildA, placesOf, overw, buildSliceA, makeSliceA, clearA, unA, convA, extractA, fieldA, indexA, nilChk, capsA, retA, retA1, retL, rowOf, srcRows, gslot, Value.oneCell', ↓reduceIte, reduceCtorEq, eq_self, ne_eq, imp_self, forall_const, Nat.reduceEqDiff, Nat.reduceAdd, Nat.reduceSub, Nat.reduceMul, Nat.reduceLT, Nat.reduceLeDiff, Nat.reduceBEq, Nat.reduceDiv, Nat.reduceMod, Int.reduceToNat, Int.reduceNeg, Int.reduceAdd, Int.reduceSub, Int.reduceMul, Int.reduceEq, Int.reduceNe, Int.reduceLT, Int.reduceLE, Int.reduceGT, Int.reduceGE, Int.cast_ofNat_Int], rfl, inv0 0 rfl⟩
    · rintro k fr M' ⟨i, hi, rfl, h0, h1, h7, h8, rfl, hinv⟩
      simp -implicitDefEqProofs (maxSteps := 1000000) (disch := omega) only [↓xsP, ↓vc_seq, xsQ, xsT, xsR, tch, tOf, idsOf, storeE, eqA, fitC, fitL, eqCells, eqL, isNilS, absL, loadA, storeA, fieldAddrA, lenA, sliceA, boundA, buildA, placesOf, overw, buildSliceA, makeSliceA, clearA, unA, convA, extractA, fieldA, indexA, nilChk, capsA, retA, retA1, retL, rowOf, srcRows, gslot, Value.oneCell', ↓reduceIte, reduceCtorEq, eq_self, ne_eq, imp_self, forall_const, Nat.reduceEqDiff, Nat.reduceAdd, Nat.reduceSub, Nat.reduceMul, Nat.reduceLT, Nat.reduceLeDiff, Nat.reduceBEq, Nat.reduceDiv, Nat.reduceMod, Int.reduceToNat, Int.reduceNeg, Int.reduceAdd, Int.reduceSub, Int.reduceMul, Int.reduceEq, Int.reduceNe, Int.reduceLT, Int.reduceLE, Int.reduceGT, Int.reduceGE, h0, h1, h7, h8]
      refine condI_prop (fun hlt => ?_) (fun hlt => ?_)
      · simp -implicitDefEqProofs (maxSteps := 1000000) (disch := omega) only [↓xsP, ↓vc_seq, xsQ, xsT, xsR, tch, tOf, idsOf, storeE, eqA, fitC, fitL, eqCells, eqL, isNilS, absL, loadA, storeA, fieldAddrA, lenA, sliceA, boundA, buildA, placesOf, overw, buildSliceA, makeSliceA, clearA, unA, convA, extractA, fieldA, indexA, nilChk, capsA, retA, retA1, retL, rowOf, srcRows, gslot, Value.oneCell', ↓reduceIte, reduceCtorEq, eq_self, ne_eq, imp_self, forall_const, Nat.reduceEqDiff, Nat.reduceAdd, Nat.reduceSub, Nat.reduceMul, Nat.reduceLT, Nat.reduceLeDiff, Nat.reduceBEq, Nat.reduceDiv, Nat.reduceMod, Int.reduceToNat, Int.reduceNeg, Int.reduceAdd, Int.reduceSub, Int.reduceMul, Int.reduceEq, Int.reduceNe, Int.reduceLT, Int.reduceLE, Int.reduceGT, Int.reduceGE, h0, h1, h7, h8]
        rw [hstep i (by omega), pidx] at hinv
        refine call_of (hq (l.getD i default)) ?_
        cases hb : q (l.getD i default) with
        | true =>
          rw [hb, if_pos rfl] at hinv
          simp -implicitDefEqProofs (maxSteps := 1000000) (disch := omega) only [↓xsP, ↓vc_seq, xsQ, xsT, xsR, tch, tOf, idsOf, storeE, eqA, fitC, fitL, eqCells, eqL, isNilS, absL, loadA, storeA, fieldAddrA, lenA, sliceA, boundA, buildA, placesOf, overw, buildSliceA, makeSliceA, clearA, unA, convA, extractA, fieldA, indexA, nilChk, capsA, retA, retA1, retL, rowOf, srcRows, gslot, Value.oneCell', ↓reduceIte, reduceCtorEq, eq_self, ne_eq, imp_self, forall_const, Nat.reduceEqDiff, Nat.reduceAdd, Nat.reduceSub, Nat.reduceMul, Nat.reduceLT, Nat.reduceLeDiff, Nat.reduceBEq, Nat.reduceDiv, Nat.reduceMod, Int.reduceToNat, Int.reduceNeg, Int.reduceAdd, Int.reduceSub, Int.reduceMul, Int.reduceEq, Int.reduceNe, Int.reduceLT, Int.reduceLE, Int.reduceGT, Int.reduceGE, h0, h1, h7, h8]
          exact fin_ok (Mem.le_refl _) ⟨by rw [hinv], rfl⟩
        | false =>
          rw [hb] at hinv
          simp -implicitDefEqProofs (maxSteps := 1000000) (disch := omega) only [↓xsP, ↓vc_seq, xsQ, xsT, xsR, tch, tOf, idsOf, storeE, eqA, fitC, fitL, eqCells, eqL, isNilS, absL, loadA, storeA, fieldAddrA, lenA, sliceA, boundA, buildA, placesOf, overw, buildSliceA, makeSliceA, clearA, unA, convA, extractA, fieldA, indexA, nilChk, capsA, retA, retA1, retL, rowOf, srcRows, gslot, Value.oneCell', ↓reduceIte, reduceCtorEq, eq_self, ne_eq, imp_self, forall_const, Nat.reduceEqDiff, Nat.reduceAdd, Nat.reduceSub, Nat.reduceMul, Nat.reduceLT, Nat.reduceLeDiff, Nat.reduceBEq, Nat.reduceDiv, Nat.reduceMod, Int.reduceToNat, Int.reduceNeg, Int.reduceAdd, Int.reduceSub, Int.reduceMul, Int.reduceEq, Int.reduceNe, Int.reduceLT, Int.reduceLE, Int.reduceGT, Int.reduceGE, h0, h1, h7, h8]
          exact ⟨l.length - (i + 1), M', by omega, Mem.le_refl _, i + 1, by omega, rfl, by simp, rfl, by simpa using hinv⟩
      · simp -implicitDefEqProofs (maxSteps := 1000000) (disch := omega) only [↓xsP, ↓vc_seq, xsQ, xsT, xsR, tch, tOf, idsOf, storeE, eqA, fitC, fitL, eqCells, eqL, isNilS, absL, loadA, storeA, fieldAddrA, lenA, sliceA, boundA, buildA, placesOf, overw, buildSliceA, makeSliceA, clearA, unA, convA, extractA, fieldA, indexA, nilChk, capsA, retA, retA1, retL, rowOf, srcRows, gslot, Value.oneCell', ↓reduceIte, reduceCtorEq, eq_self, ne_eq, imp_self, forall_const, Nat.reduceEqDiff, Nat.reduceAdd, Nat.reduceSub, Nat.reduceMul, Nat.reduceLT, Nat.reduceLeDiff, Nat.reduceBEq, Nat.reduceDiv, Nat.reduceMod, Int.reduceToNat, Int.reduceNeg, Int.reduceAdd, Int.reduceSub, Int.reduceMul, Int.reduceEq, Int.reduceNe, Int.reduceLT, Int.reduceLE, Int.reduceGT, Int.reduceGE, h0, h1, h7, h8]
        have hil : i = l.length := by omega
        rw [hil, List.drop_length, pidx] at hinv
        exact fin_ok (Mem.le_refl _) ⟨by rw [hinv], rfl⟩
  · simp -implicitDefEqProofs (maxSteps := 1000000) (disch := omega) only [↓xsP, ↓vc_seq, xsQ, xsT, xsR, tch, tOf, idsOf, storeE, eqA, fitC, fitL, eqCells, eqL, isNilS, absL, loadA, storeA, fieldAddrA, lenA, sliceA, boundA, buildA, placesOf, overw, buildSliceA, makeSliceA, clearA, unA, convA, extractA, fieldA, indexA, nilChk, capsA, retA, retA1, retL, rowOf, srcRows, gslot, Value.oneCell', ↓reduceIte, reduceCtorEq, eq_self, ne_eq, imp_self, forall_const, Nat.reduceEqDiff, Nat.reduceAdd, Nat.reduceSub, Nat.reduceMul, Nat.reduceLT, Nat.reduceLeDiff, Nat.reduceBEq, Nat.reduceDiv, Nat.reduceMod, Int.reduceToNat, Int.reduceNeg, Int.reduceAdd, Int.reduceSub, Int.reduceMul, Int.reduceEq, Int.reduceNe, Int.reduceLT, Int.reduceLE, Int.reduceGT, Int.reduceGE]
    refine loopI_of (xloop (by kernel_rfl) (fun k fr M' => ∃ i : Nat, i ≤ l.length ∧ k = l.length - i ∧ fr 0 = .l (.ms id 0 l.length) ∧ fr 1 = .l (.clo f caps) ∧ fr 7 = .l (.int .i64 l.length) ∧ fr 8 = .l (.int .i64 i) ∧ M' = M ∧ pidx q l 0 = pidx q (l.drop i) i) l.length ?_ ?_)
    · exact ⟨0, Nat.zero_le _, rfl, by simp -implicitDefEqProofs (maxSteps := 1000000) (disch := omega) only [↓xsP, ↓vc_seq, xsQ, xsT, xsR, tch, tOf, idsOf, storeE, eqA, fitC, fitL, eqCells, eqL, isNilS, absL, loadA, storeA, fieldAddrA, lenA, sliceA, boundA, buildA, placesOf, overw, buildSliceA, makeSliceA, clearA, unA, convA, extractA, fieldA, indexA, nilChk, capsA, retA, retA1, retL, rowOf, srcRows, gslot, Value.oneCell', ↓reduceIte, reduceCtorEq, eq_self, ne_eq, imp_self, forall_const, Nat.reduceEqDiff, Nat.reduceAdd, Nat.reduceSub, Nat.reduceMul, Nat.reduceLT, Nat.reduceLeDiff, Nat.reduceBEq, Nat.reduceDiv, Nat.reduceMod, Int.reduceToNat, Int.reduceNeg, Int.reduceAdd, Int.reduceSub, Int.reduceMul, Int.reduceEq, Int.reduceNe, Int.reduceLT, Int.reduceLE, Int.reduceGT, Int.reduceGE], by simp -implicitDefEqProofs (maxSteps := 1000000) (disch := omega) only [↓xsP, ↓vc_seq, xsQ, xsT, xsR, tch, tOf, idsOf, storeE, eqA, fitC, fitL, eqCells, eqL, isNilS, absL, loadA, storeA, fieldAddrA, lenA, sliceA, boundA, buildA, placesOf, overw, buildSliceA, makeSliceA, clearA, unA, convA, extractA, fieldA, indexA, nilChk, capsA, retA, retA1, retL, rowOf, srcRows, gslot, Value.oneCell', ↓reduceIte, reduceCtorEq, eq_self, ne_eq, imp_self, forall_const, Nat.reduceEqDiff, Nat.reduceAdd, Nat.reduceSub, Nat.reduceMul, Nat.reduceLT, Nat.reduceLeDiff, Nat.reduceBEq, Nat.reduceDiv, Nat.reduceMod, Int.reduceToNat, Int.reduceNeg, Int.reduceAdd, Int.reduceSub, Int.reduceMul, Int.reduceEq, Int.reduceNe, Int.reduceLT, Int.reduceLE, Int.reduceGT, Int.reduceGE], by simp -implicitDefEqProofs (maxSteps := 1000000) (disch := omega) only [↓xsP, ↓vc_seq, xsQ, xsT, xsR, tch, tOf, idsOf, storeE, eqA, fitC, fitL, eqCells, eqL, isNilS, absL, loadA, storeA, fieldAddrA, lenA, sliceA, boundA, buildA, placesOf, overw, buildSliceA, makeSliceA, clearA, unA, convA, extractA, fieldA, indexA, nilChk, capsA, retA, retA1, retL, rowOf, srcRows, gslot, Value.oneCell', ↓reduceIte, reduceCtorEq, eq_self, ne_eq, imp_self, forall_const, Nat.reduceEqDiff, Nat.reduceAdd, Nat.reduceSub, Nat.reduceMul, Nat.reduceLT, Nat.reduceLeDiff, Nat.reduceBEq, Nat.reduceDiv, Nat.reduceMod, Int.reduceToNat, Int.reduceNeg, Int.reduceAdd, Int.reduceSub, Int.reduceMul, Int.reduceEq, Int.reduceNe, Int.reduceLT, Int.reduceLE, Int.reduceGT, Int.reduceGE], by simp -implicitDefEqProofs (maxSteps := 1000000) (disch := omega) only [↓xsP, ↓vc_seq, xsQ, xsT, xsR, tch, tOf, idsOf, storeE, eqA, fitC, fitL, eqCells, eqL, isNilS, absL, loadA, storeA, fieldAddrA, lenA, sliceA, boundA, buildA, placesOf, overw, buildSliceA, makeSliceA, clearA, unA, convA, extractA, fieldA, indexA, nilChk, capsA, retA, retA1, retL, rowOf, srcRows, gslot, Value.oneCell', ↓reduceIte, reduceCtorEq, eq_self, ne_eq, imp_self, forall_const, Nat.reduceEqDiff, Nat.reduceAdd, Nat.reduceSub, Nat.reduceMul, Nat.reduceLT, Nat.reduceLeDiff, Nat.reduceBEq, Nat.reduceDiv, Nat.reduceMod, Int.reduceToNat, Int.reduceNeg, Int.reduceAdd, Int.reduceSub, Int.reduceMul, Int.reduceEq, Int.reduceNe, Int.reduceLT, Int.reduceLE, Int.reduceGT, Int.reduceGE, Int.cast_ofNat_Int], rfl, inv0 0 rfl⟩
    · rintro k fr M' ⟨i, hi, rfl, h0, h1, h7, h8, rfl, hinv⟩
      simp -implicitDefEqProofs (maxSteps := 1000000) (disch := omega) only [↓xsP, ↓vc_seq, xsQ, xsT, xsR, tch, tOf, idsOf, storeE, eqA, fitC, fitL, eqCells, eqL, isNilS, absL, loadA, storeA, fieldAddrA, lenA, sliceA, boundA, buildA, placesOf, overw, buildSliceA, makeSliceA, clearA, unA, convA, extractA, fieldA, indexA, nilChk, capsA, retA, retA1, retL, rowOf, srcRows, gslot, Value.oneCell', ↓reduceIte, reduceCtorEq, eq_self, ne_eq, imp_self, forall_const, Nat.reduceEqDiff, Nat.reduceAdd, Nat.reduceSub, Nat.reduceMul, Nat.reduceLT, Nat.reduceLeDiff, Nat.reduceBEq, Nat.reduceDiv, Nat.reduceMod, Int.reduceToNat, Int.reduceNeg, Int.reduceAdd, Int.reduceSub, Int.reduceMul, Int.reduceEq, Int.reduceNe, Int.reduceLT, Int.reduceLE, Int.reduceGT, Int.reduceGE, h0, h1, h7, h8]
      refine condI_prop (fun hlt => ?_) (fun hlt => ?_)
      · simp -implicitDefEqProofs (maxSteps := 1000000) (disch := omega) only [↓xsP, ↓vc_seq, xsQ, xsT, xsR, tch, tOf, idsOf, storeE, eqA, fitC, fitL, eqCells, eqL, isNilS, absL, loadA, storeA, fieldAddrA, lenA, sliceA, boundA, buildA, placesOf, overw, buildSliceA, makeSliceA, clearA, unA, convA, extractA, fieldA, indexA, nilChk, capsA, retA, retA1, retL, rowOf, srcRows, gslot, Value.oneCell', ↓reduceIte, reduceCtorEq, eq_self, ne_eq, imp_self, forall_const, Nat.reduceEqDiff, Nat.reduceAdd, Nat.reduceSub, Nat.reduceMul, Nat.reduceLT, Nat.reduceLeDiff, Nat.reduceBEq, Nat.reduceDiv, Nat.reduceMod, Int.reduceToNat, Int.reduceNeg, Int.reduceAdd, Int.reduceSub, Int.reduceMul, Int.reduceEq, Int.reduceNe, Int.reduceLT, Int.reduceLE, Int.reduceGT, Int.reduceGE, h0, h1, h7, h8, hM]
        rw [hstep i (by omega), pidx] at hinv
        refine call_of (hq (l.getD i default)) ?_
        cases hb : q (l.getD i default) with
        | true =>
          rw [hb, if_pos rfl] at hinv
          simp -implicitDefEqProofs (maxSteps := 1000000) (disch := omega) only [↓xsP, ↓vc_seq, xsQ, xsT, xsR, tch, tOf, idsOf, storeE, eqA, fitC, fitL, eqCells, eqL, isNilS, absL, loadA, storeA, fieldAddrA, lenA, sliceA, boundA, buildA, placesOf, overw, buildSliceA, makeSliceA, clearA, unA, convA, extractA, fieldA, indexA, nilChk, capsA, retA, retA1, retL, rowOf, srcRows, gslot, Value.oneCell', ↓reduceIte, reduceCtorEq, eq_self, ne_eq, imp_self, forall_const, Nat.reduceEqDiff, Nat.reduceAdd, Nat.reduceSub, Nat.reduceMul, Nat.reduceLT, Nat.reduceLeDiff, Nat.reduceBEq, Nat.reduceDiv, Nat.reduceMod, Int.reduceToNat, Int.reduceNeg, Int.reduceAdd, Int.reduceSub, Int.reduceMul, Int.reduceEq, Int.reduceNe, Int.reduceLT, Int.reduceLE, Int.reduceGT, Int.reduceGE, h0, h1, h7, h8]
          exact fin_ok (Mem.le_refl _) ⟨by rw [hinv], rfl⟩
        | false =>
          rw [hb] at hinv
          simp -implicitDefEqProofs (maxSteps := 1000000) (disch := omega) only [↓xsP, ↓vc_seq, xsQ, xsT, xsR, tch, tOf, idsOf, storeE, eqA, fitC, fitL, eqCells, eqL, isNilS, absL, loadA, storeA, fieldAddrA, lenA, sliceA, boundA, buildA, placesOf, overw, buildSliceA, makeSliceA, clearA, unA, convA, extractA, fieldA, indexA, nilChk, capsA, retA, retA1, retL, rowOf, srcRows, gslot, Value.oneCell', ↓reduceIte, reduceCtorEq, eq_self, ne_eq, imp_self, forall_const, Nat.reduceEqDiff, Nat.reduceAdd, Nat.reduceSub, Nat.reduceMul, Nat.reduceLT, Nat.reduceLeDiff, Nat.reduceBEq, Nat.reduceDiv, Nat.reduceMod, Int.reduceToNat, Int.reduceNeg, Int.reduceAdd, Int.reduceSub, Int.reduceMul, Int.reduceEq, Int.reduceNe, Int.reduceLT, Int.reduceLE, Int.reduceGT, Int.reduceGE, h0, h1, h7, h8]
          exact ⟨l.length - (i + 1), M', by omega, Mem.le_refl _, i + 1, by omega, rfl, by simp, rfl, by simpa using hinv⟩
      · simp -implicitDefEqProofs (maxSteps := 1000000) (disch := omega) only [↓xsP, ↓vc_seq, xsQ, xsT, xsR, tch, tOf, idsOf, storeE, eqA, fitC, fitL, eqCells, eqL, isNilS, absL, loadA, storeA, fieldAddrA, lenA, sliceA, boundA, buildA, placesOf, overw, buildSliceA, makeSliceA, clearA, unA, convA, extractA, fieldA, indexA, nilChk, capsA, retA, retA1, retL, rowOf, srcRows, gslot, Value.oneCell', ↓reduceIte, reduceCtorEq, eq_self, ne_eq, imp_self, forall_const, Nat.reduceEqDiff, Nat.reduceAdd, Nat.reduceSub, Nat.reduceMul, Nat.reduceLT, Nat.reduceLeDiff, Nat.reduceBEq, Nat.reduceDiv, Nat.reduceMod, Int.reduceToNat, Int.reduceNeg, Int.reduceAdd, Int.reduceSub, Int.reduceMul, Int.reduceEq, Int.reduceNe, Int.reduceLT, Int.reduceLE, Int.reduceGT, Int.reduceGE, h0, h1, h7, h8]
        have hil : i = l.length := by omega
        rw [hil, List.drop_length, pidx] at hinv
        exact fin_ok (Mem.le_refl _) ⟨by rw [hinv], rfl⟩

theorem find_spec (l : List Pr) (hl : l.length ≤ 140737488355328) (k : Int) (M : Mem) :
    XCalls Go.Proofs.Try.prog 36 [.l (.sl (l.map Pr.row)), .l (.int .i64 k)] M fun r M' => r = .l (.int .i64 (pidx (fun p => decide (p.key = k)) l 0)) ∧ M' = M := by
  refine xcalls_intro (rs := [.tmp 4]) Go.Proofs.Try.func36 rfl (by kernel_rfl) rfl rfl (by kernel_rfl) (by simp) ?_
  simp -implicitDefEqProofs (maxSteps := 1000000) (disch := omega) only [↓xsP, ↓vc_seq, xsQ, xsT, xsR, tch, tOf, idsOf, storeE, eqA, fitC, fitL, eqCells, eqL, isNilS, absL, loadA, storeA, fieldAddrA, lenA, sliceA, boundA, buildA, placesOf, overw, buildSliceA, makeSliceA, clearA, unA, convA, extractA, fieldA, indexA, nilChk, capsA, retA, retA1, retL, rowOf, srcRows, gslot, Value.oneCell', ↓reduceIte, reduceCtorEq, eq_self, ne_eq, imp_self, forall_const, Nat.reduceEqDiff, Nat.reduceAdd, Nat.reduceSub, Nat.reduceMul, Nat.reduceLT, Nat.reduceLeDiff, Nat.reduceBEq, Nat.reduceDiv, Nat.reduceMod, Int.reduceToNat, Int.reduceNeg, Int.reduceAdd, Int.reduceSub, Int.reduceMul, Int.reduceEq, Int.reduceNe, Int.reduceLT, Int.reduceLE, Int.reduceGT, Int.reduceGE]
  refine newI_intro fun id hid => ?_
  simp -implicitDefEqProofs (maxSteps := 1000000) (disch := omega) only [↓xsP, ↓vc_seq, xsQ, xsT, xsR, tch, tOf, idsOf, storeE, eqA, fitC, fitL, eqCells, eqL, isNilS, absL, loadA, storeA, fieldAddrA, lenA, sliceA, boundA, buildA, placesOf, overw, buildSliceA, makeSliceA, clearA, unA, convA, extractA, fieldA, indexA, nilChk, capsA, retA, retA1, retL, rowOf, srcRows, gslot, Value.oneCell', ↓reduceIte, reduceCtorEq, eq_self, ne_eq, imp_self, forall_const, Nat.reduceEqDiff, Nat.reduceAdd, Nat.reduceSub, Nat.reduceMul, Nat.reduceLT, Nat.reduceLeDiff, Nat.reduceBEq, Nat.reduceDiv, Nat.reduceMod, Int.reduceToNat, Int.reduceNeg, Int.reduceAdd, Int.reduceSub, Int.reduceMul, Int.reduceEq, Int.reduceNe, Int.reduceLT, Int.reduceLE, Int.reduceGT, Int.reduceGE]
  refine call_of (index_spec l hl _ _ (.inl rfl) _ _ (fun p => decide (p.key = k)) (fun p => findClo_spec p id k _ (Mem.set_eq _ _ _))) ?_
  simp -implicitDefEqProofs (maxSteps := 1000000) (disch := omega) only [↓xsP, ↓vc_seq, xsQ, xsT, xsR, tch, tOf, idsOf, storeE, eqA, fitC, fitL, eqCells, eqL, isNilS, absL, loadA, storeA, fieldAddrA, lenA, sliceA, boundA, buildA, placesOf, overw, buildSliceA, makeSliceA, clearA, unA, convA, extractA, fieldA, indexA, nilChk, capsA, retA, retA1, retL, rowOf, srcRows, gslot, Value.oneCell', ↓reduceIte, reduceCtorEq, eq_self, ne_eq, imp_self, forall_const, Nat.reduceEqDiff, Nat.reduceAdd, Nat.reduceSub, Nat.reduceMul, Nat.reduceLT, Nat.reduceLeDiff, Nat.reduceBEq, Nat.reduceDiv, Nat.reduceMod, Int.reduceToNat, Int.reduceNeg, Int.reduceAdd, Int.reduceSub, Int.reduceMul, Int.reduceEq, Int.reduceNe, Int.reduceLT, Int.reduceLE, Int.reduceGT, Int.reduceGE]
  exact fin_ok (le_new (Mem.le_refl _) hid) ⟨rfl, rfl⟩

theorem eql_sl_nil (P : Program) (t : TypeId) (x : Operand) (rows : List (List Lf)) (K : AV → Prop) : @binI P .eql t x (.const (.slice none 0 0)) (.l (.sl rows)) (.l .nils) ⟨K⟩ = @optI _ (tiOf P t) ⟨fun i => match i.d with | .slice _ => @nilSI false (.l (.sl rows)) ⟨K⟩ | _ => False⟩ :=
  eql_nils P t x _ _ (fun k n h => by cases h) K
theorem rows2 (l : List Pr) : ∀ r ∈ l.map Pr.row, r.length = 2 := fun r hr => by
  obtain ⟨p, _, rfl⟩ := List.mem_map.1 hr
  rfl
/-- append of pairs to a slice of a live block. -/
theorem app_prs {l : List Pr} {id len : Nat} {rows : List (List Lf)} {keep : Nat} {M : Mem} (hM : M id = some (.cells 33 rows keep)) (hlen : len ≤ rows.length) (hk : keep ≤ len) (hb : len + l.length ≤ 2000002) {K : AV → Mem → Prop}
    (h : ∀ id', (∀ j, id' ≤ j → M j = none) → K (.l (.ms id' 0 (len + l.length))) ((M.del id).set id' (.cells 33 (rows.take len ++ l.map Pr.row) keep))) :
    @appI Go.Proofs.Try.prog M 34 34 (.l (.ms id 0 len)) (.l (.sl (l.map Pr.row))) ⟨K⟩ := by
  refine app_ms _ _ _ _ 33 _ _ ti_34 rfl ti_33 (by kernel_rfl) (by decide) id len _ (rows := rows) (keep := keep) (l.map Pr.row) hM ?_ hlen hk ?_ ?_ ?_
  · simp -implicitDefEqProofs (maxSteps := 1000000) (disch := omega) only [↓xsP, ↓vc_seq, xsQ, xsT, xsR, tch, tOf, idsOf, storeE, eqA, fitC, fitL, eqCells, eqL, isNilS, absL, loadA, storeA, fieldAddrA, lenA, sliceA, boundA, buildA, placesOf, overw, buildSliceA, makeSliceA, clearA, unA, convA, extractA, fieldA, indexA, nilChk, capsA, retA, retA1, retL, rowOf, srcRows, gslot, Value.oneCell', ↓reduceIte, reduceCtorEq, eq_self, ne_eq, imp_self, forall_const, Nat.reduceEqDiff, Nat.reduceAdd, Nat.reduceSub, Nat.reduceMul, Nat.reduceLT, Nat.reduceLeDiff, Nat.reduceBEq, Nat.reduceDiv, Nat.reduceMod, Int.reduceToNat, Int.reduceNeg, Int.reduceAdd, Int.reduceSub, Int.reduceMul, Int.reduceEq, Int.reduceNe, Int.reduceLT, Int.reduceLE, Int.reduceGT, Int.reduceGE]
    rw [if_pos (rows2 l)]
  · exact Nat.le_trans (Nat.mul_le_mul_right _ (show len + (l.map Pr.row).length ≤ 2000002 by simpa using hb)) (by decide)
  · simp
    omega
  · simpa using h
theorem le_clone {M : Mem} {id id' : Nat} {X Y : Blk} (h : M id = none) : (M.set id' X).le (((M.set id Y).del id).set id' X) := fun i b hb => by
  simp only [Mem.set_app, Mem.del_app] at hb ⊢
  by_cases e : id' = i
  · rw [if_pos e] at hb ⊢; exact hb
  · rw [if_neg e] at hb ⊢
    have hne : ¬ id = i := fun e' => by subst e'; rw [h] at hb; cases hb
    rw [if_neg hne, if_neg hne]
    exact hb
/-- A copy: nil, or a block of its own. -/
theorem clone_live (l : List Pr) (hl : l.length ≤ 1000001) (M : Mem) :
    XCalls Go.Proofs.Try.prog 51 [.l (.sl (l.map Pr.row))] M fun r M' => (r = .l .nils ∧ l = [] ∧ M' = M) ∨ ∃ id, (∀ j, id ≤ j → M j = none) ∧ r = .l (.ms id 0 l.length) ∧ M' = M.set id (.cells 33 (l.map Pr.row) 0) := by
  refine xcalls_intro (rs := [.tmp 2]) Go.Proofs.Try.func51 rfl (by kernel_rfl) rfl rfl (by kernel_rfl) (by simp) ?_
  simp -implicitDefEqProofs (maxSteps := 1000000) (disch := omega) only [↓xsP, ↓vc_seq, xsQ, xsT, xsR, tch, tOf, idsOf, storeE, eqA, fitC, fitL, eqCells, eqL, isNilS, absL, loadA, storeA, fieldAddrA, lenA, sliceA, boundA, buildA, placesOf, overw, buildSliceA, makeSliceA, clearA, unA, convA, extractA, fieldA, indexA, nilChk, capsA, retA, retA1, retL, rowOf, srcRows, gslot, Value.oneCell', ↓reduceIte, reduceCtorEq, eq_self, ne_eq, imp_self, forall_const, Nat.reduceEqDiff, Nat.reduceAdd, Nat.reduceSub, Nat.reduceMul, Nat.reduceLT, Nat.reduceLeDiff, Nat.reduceBEq, Nat.reduceDiv, Nat.reduceMod, Int.reduceToNat, Int.reduceNeg, Int.reduceAdd, Int.reduceSub, Int.reduceMul, Int.reduceEq, Int.reduceNe, Int.reduceLT, Int.reduceLE, Int.reduceGT, Int.reduceGE]
  rw [eql_sl_nil]
  simp -implicitDefEqProofs (maxSteps := 1000000) (disch := omega) only [↓xsP, ↓vc_seq, xsQ, xsT, xsR, tch, tOf, idsOf, storeE, eqA, fitC, fitL, eqCells, eqL, isNilS, absL, loadA, storeA, fieldAddrA, lenA, sliceA, boundA, buildA, placesOf, overw, buildSliceA, makeSliceA, clearA, unA, convA, extractA, fieldA, indexA, nilChk, capsA, retA, retA1, retL, rowOf, srcRows, gslot, Value.oneCell', ↓reduceIte, reduceCtorEq, eq_self, ne_eq, imp_self, forall_const, Nat.reduceEqDiff, Nat.reduceAdd, Nat.reduceSub, Nat.reduceMul, Nat.reduceLT, Nat.reduceLeDiff, Nat.reduceBEq, Nat.reduceDiv, Nat.reduceMod, Int.reduceToNat, Int.reduceNeg, Int.reduceAdd, Int.reduceSub, Int.reduceMul, Int.reduceEq, Int.reduceNe, Int.reduceLT, Int.reduceLE, Int.reduceGT, Int.reduceGE]
  refine nilSI_sl _ (fun he b => ?_) (fun hne => ?_)
  · have hl0 : l = [] := by simpa using he
    subst hl0
    cases b with
    | true =>
      simp -implicitDefEqProofs (maxSteps := 1000000) (disch := omega) only [↓xsP, ↓vc_seq, xsQ, xsT, xsR, tch, tOf, idsOf, storeE, eqA, fitC, fitL, eqCells, eqL, isNilS, absL, loadA, storeA, fieldAddrA, lenA, sliceA, boundA, buildA, placesOf, overw, buildSliceA, makeSliceA, clearA, unA, convA, extractA, fieldA, indexA, nilChk, capsA, retA, retA1, retL, rowOf, srcRows, gslot, Value.oneCell', ↓reduceIte, reduceCtorEq, eq_self, ne_eq, imp_self, forall_const, Nat.reduceEqDiff, Nat.reduceAdd, Nat.reduceSub, Nat.reduceMul, Nat.reduceLT, Nat.reduceLeDiff, Nat.reduceBEq, Nat.reduceDiv, Nat.reduceMod, Int.reduceToNat, Int.reduceNeg, Int.reduceAdd, Int.reduceSub, Int.reduceMul, Int.reduceEq, Int.reduceNe, Int.reduceLT, Int.reduceLE, Int.reduceGT, Int.reduceGE]
      exact fin_ok (Mem.le_refl _) (.inl ⟨rfl, rfl, rfl⟩)
    | false =>
      simp -implicitDefEqProofs (maxSteps := 1000000) (disch := omega) only [↓xsP, ↓vc_seq, xsQ, xsT, xsR, tch, tOf, idsOf, storeE, eqA, fitC, fitL, eqCells, eqL, isNilS, absL, loadA, storeA, fieldAddrA, lenA, sliceA, boundA, buildA, placesOf, overw, buildSliceA, makeSliceA, clearA, unA, convA, extractA, fieldA, indexA, nilChk, capsA, retA, retA1, retL, rowOf, srcRows, gslot, Value.oneCell', ↓reduceIte, reduceCtorEq, eq_self, ne_eq, imp_self, forall_const, Nat.reduceEqDiff, Nat.reduceAdd, Nat.reduceSub, Nat.reduceMul, Nat.reduceLT, Nat.reduceLeDiff, Nat.reduceBEq, Nat.reduceDiv, Nat.reduceMod, Int.reduceToNat, Int.reduceNeg, Int.reduceAdd, Int.reduceSub, Int.reduceMul, Int.reduceEq, Int.reduceNe, Int.reduceLT, Int.reduceLE, Int.reduceGT, Int.reduceGE]
      refine newI_intro fun id hid => ?_
      simp -implicitDefEqProofs (maxSteps := 1000000) (disch := omega) only [↓xsP, ↓vc_seq, xsQ, xsT, xsR, tch, tOf, idsOf, storeE, eqA, fitC, fitL, eqCells, eqL, isNilS, absL, loadA, storeA, fieldAddrA, lenA, sliceA, boundA, buildA, placesOf, overw, buildSliceA, makeSliceA, clearA, unA, convA, extractA, fieldA, indexA, nilChk, capsA, retA, retA1, retL, rowOf, srcRows, gslot, Value.oneCell', ↓reduceIte, reduceCtorEq, eq_self, ne_eq, imp_self, forall_const, Nat.reduceEqDiff, Nat.reduceAdd, Nat.reduceSub, Nat.reduceMul, Nat.reduceLT, Nat.reduceLeDiff, Nat.reduceBEq, Nat.reduceDiv, Nat.reduceMod, Int.reduceToNat, Int.reduceNeg, Int.reduceAdd, Int.reduceSub, Int.reduceMul, Int.reduceEq, Int.reduceNe, Int.reduceLT, Int.reduceLE, Int.reduceGT, Int.reduceGE]
      refine app_prs (l := []) (rows := []) (keep := 0) (Mem.set_eq _ _ _) (Nat.zero_le _) (Nat.le_refl _) (by simp) fun id' hid' => ?_
      obtain ⟨hlt, hid'⟩ := bnd_new hid'
      simp -implicitDefEqProofs (maxSteps := 1000000) (disch := omega) only [↓xsP, ↓vc_seq, xsQ, xsT, xsR, tch, tOf, idsOf, storeE, eqA, fitC, fitL, eqCells, eqL, isNilS, absL, loadA, storeA, fieldAddrA, lenA, sliceA, boundA, buildA, placesOf, overw, buildSliceA, makeSliceA, clearA, unA, convA, extractA, fieldA, indexA, nilChk, capsA, retA, retA1, retL, rowOf, srcRows, gslot, Value.oneCell', ↓reduceIte, reduceCtorEq, eq_self, ne_eq, imp_self, forall_const, Nat.reduceEqDiff, Nat.reduceAdd, Nat.reduceSub, Nat.reduceMul, Nat.reduceLT, Nat.reduceLeDiff, Nat.reduceBEq, Nat.reduceDiv, Nat.reduceMod, Int.reduceToNat, Int.reduceNeg, Int.reduceAdd, Int.reduceSub, Int.reduceMul, Int.reduceEq, Int.reduceNe, Int.reduceLT, Int.reduceLE, Int.reduceGT, Int.reduceGE]
      exact finI_of (XFin.le (le_clone (hid _ (Nat.le_refl _))) (.inr ⟨id', hid', rfl, rfl⟩))
  · simp -implicitDefEqProofs (maxSteps := 1000000) (disch := omega) only [↓xsP, ↓vc_seq, xsQ, xsT, xsR, tch, tOf, idsOf, storeE, eqA, fitC, fitL, eqCells, eqL, isNilS, absL, loadA, storeA, fieldAddrA, lenA, sliceA, boundA, buildA, placesOf, overw, buildSliceA, makeSliceA, clearA, unA, convA, extractA, fieldA, indexA, nilChk, capsA, retA, retA1, retL, rowOf, srcRows, gslot, Value.oneCell', ↓reduceIte, reduceCtorEq, eq_self, ne_eq, imp_self, forall_const, Nat.reduceEqDiff, Nat.reduceAdd, Nat.reduceSub, Nat.reduceMul, Nat.reduceLT, Nat.reduceLeDiff, Nat.reduceBEq, Nat.reduceDiv, Nat.reduceMod, Int.reduceToNat, Int.reduceNeg, Int.reduceAdd, Int.reduceSub, Int.reduceMul, Int.reduceEq, Int.reduceNe, Int.reduceLT, Int.reduceLE, Int.reduceGT, Int.reduceGE]
    refine newI_intro fun id hid => ?_
    simp -implicitDefEqProofs (maxSteps := 1000000) (disch := omega) only [↓xsP, ↓vc_seq, xsQ, xsT, xsR, tch, tOf, idsOf, storeE, eqA, fitC, fitL, eqCells, eqL, isNilS, absL, loadA, storeA, fieldAddrA, lenA, sliceA, boundA, buildA, placesOf, overw, buildSliceA, makeSliceA, clearA, unA, convA, extractA, fieldA, indexA, nilChk, capsA, retA, retA1, retL, rowOf, srcRows, gslot, Value.oneCell', ↓reduceIte, reduceCtorEq, eq_self, ne_eq, imp_self, forall_const, Nat.reduceEqDiff, Nat.reduceAdd, Nat.reduceSub, Nat.reduceMul, Nat.reduceLT, Nat.reduceLeDiff, Nat.reduceBEq, Nat.reduceDiv, Nat.reduceMod, Int.reduceToNat, Int.reduceNeg, Int.reduceAdd, Int.reduceSub, Int.reduceMul, Int.reduceEq, Int.reduceNe, Int.reduceLT, Int.reduceLE, Int.reduceGT, Int.reduceGE]
    refine app_prs (l := l) (rows := []) (keep := 0) (Mem.set_eq _ _ _) (Nat.zero_le _) (Nat.le_refl _) (by omega) fun id' hid' => ?_
    obtain ⟨hlt, hid'⟩ := bnd_new hid'
    simp -implicitDefEqProofs (maxSteps := 1000000) (disch := omega) only [↓xsP, ↓vc_seq, xsQ, xsT, xsR, tch, tOf, idsOf, storeE, eqA, fitC, fitL, eqCells, eqL, isNilS, absL, loadA, storeA, fieldAddrA, lenA, sliceA, boundA, buildA, placesOf, overw, buildSliceA, makeSliceA, clearA, unA, convA, extractA, fieldA, indexA, nilChk, capsA, retA, retA1, retL, rowOf, srcRows, gslot, Value.oneCell', ↓reduceIte, reduceCtorEq, eq_self, ne_eq, imp_self, forall_const, Nat.reduceEqDiff, Nat.reduceAdd, Nat.reduceSub, Nat.reduceMul, Nat.reduceLT, Nat.reduceLeDiff, Nat.reduceBEq, Nat.reduceDiv, Nat.reduceMod, Int.reduceToNat, Int.reduceNeg, Int.reduceAdd, Int.reduceSub, Int.reduceMul, Int.reduceEq, Int.reduceNe, Int.reduceLT, Int.reduceLE, Int.reduceGT, Int.reduceGE]
    exact finI_of (XFin.le (le_clone (hid _ (Nat.le_refl _))) (.inr ⟨id', hid', rfl, rfl⟩))
/-- A copy, kept. -/
theorem clone_spec (l : List Pr) (hl : l.length ≤ 1000001) (M : Mem) :
    XCalls Go.Proofs.Try.prog 51 [.l (.sl (l.map Pr.row))] M fun r M' => r = .l (.sl (l.map Pr.row)) ∧ M' = M := by
  refine (clone_live l hl M).fin ?_
  rintro v M' (⟨rfl, rfl, rfl⟩ | ⟨id, hid, rfl, rfl⟩)
  · exact XFin.wk (XFin.here ⟨rfl, rfl⟩)
  · refine XFin.frz id (Mem.set_eq _ _ _) (XFin.le ?_ ⟨?_, rfl⟩)
    · exact le_new (le_new (Mem.le_refl _) hid) hid
    · simp [frzA, frz1, frzL, List.take_of_length_le]

theorem pidx_cases (q : Pr → Bool) : ∀ (l : List Pr) (i : Nat), (pidx q l i = -1 ∧ ∀ p ∈ l, q p = false) ∨ ∃ k, k < l.length ∧ pidx q l i = (i : Int) + k ∧ q (l.getD k default) = true ∧ ∀ p ∈ l.take k, q p = false
  | [], i => .inl ⟨rfl, fun p hp => by cases hp⟩
  | p :: r, i => by
    simp only [pidx]
    cases hq : q p with
    | true => exact .inr ⟨0, by simp, by simp, by simpa using hq, fun p hp => by simp at hp⟩
    | false =>
      rcases pidx_cases q r (i + 1) with ⟨h1, h2⟩ | ⟨k, hk, h1, h2, h3⟩
      · refine .inl ⟨by simpa using h1, fun x hx => ?_⟩
        rcases List.mem_cons.1 hx with rfl | hx
        · exact hq
        · exact h2 x hx
      · refine .inr ⟨k + 1, by simpa using hk, ?_, by simpa using h2, fun x hx => ?_⟩
        · simp only [Bool.false_eq_true, if_false]
          rw [h1]
          omega
        · rw [List.take_succ_cons] at hx
          rcases List.mem_cons.1 hx with rfl | hx
          · exact hq
          · exact h3 x hx

/-- The pairs that stay. -/
def stays (q : Pr → Bool) (l : List Pr) : List Pr := l.filter fun p => !q p
theorem stays_all {q : Pr → Bool} {l : List Pr} (h : ∀ p ∈ l, q p = false) : stays q l = l := List.filter_eq_self.2 fun p hp => by simp [h p hp]
theorem stays_snoc (q : Pr → Bool) (l : List Pr) {j : Nat} (hj : j < l.length) : stays q (l.take (j + 1)) = stays q (l.take j) ++ (if q (l.getD j default) then [] else [l.getD j default]) := by
  have : l.take (j + 1) = l.take j ++ [l.getD j default] := by
    rw [List.take_add_one, List.getD_eq_getElem?_getD, List.getElem?_eq_getElem hj]
    rfl
  rw [this, stays, List.filter_append, stays]
  congr 1
  cases hq : q (l.getD j default) <;> simp [hq, -List.getD_eq_getElem?_getD]

theorem delete_spec (l : List Pr) (hl : l.length ≤ 1000001) (id : Nat) (M : Mem) (hM : M id = some (.cells 33 (l.map Pr.row) 0)) (f : FuncId) (caps : List Lf) (q : Pr → Bool)
    (hq : ∀ p M', (∀ j b, j ≠ id → M j = some b → M' j = some b) → XCalls Go.Proofs.Try.prog f ([.agg p.row] ++ caps.map .l) M' fun r M'' => r = .l (.bool (q p)) ∧ M'' = M') :
    XCalls Go.Proofs.Try.prog 58 [.l (.ms id 0 l.length), .l (.clo f caps)] M fun r M' => ∃ R : List Pr, r = .l (.ms id 0 (stays q l).length) ∧ M' = M.set id (.cells 33 (R.map Pr.row) 0) ∧ R.take (stays q l).length = stays q l ∧ (stays q l).length ≤ R.length := by
  refine xcalls_intro (rs := [.tmp 4]) Go.Proofs.Try.func58 rfl (by kernel_rfl) rfl rfl (by kernel_rfl) (by simp) ?_
  simp -implicitDefEqProofs (maxSteps := 1000000) (disch := omega) only [↓xsP, ↓vc_seq, xsQ, xsT, xsR, tch, tOf, idsOf, storeE, eqA, fitC, fitL, eqCells, eqL, isNilS, absL, loadA, storeA, fieldAddrA, lenA, sliceA, boundA, buildA, placesOf, overw, buildSliceA, makeSliceA, clearA, unA, convA, extractA, fieldA, indexA, nilChk, capsA, retA, retA1, retL, rowOf, srcRows, gslot, Value.oneCell', ↓reduceIte, reduceCtorEq, eq_self, ne_eq, imp_self, forall_const, Nat.reduceEqDiff, Nat.reduceAdd, Nat.reduceSub, Nat.reduceMul, Nat.reduceLT, Nat.reduceLeDiff, Nat.reduceBEq, Nat.reduceDiv, Nat.reduceMod, Int.reduceToNat, Int.reduceNeg, Int.reduceAdd, Int.reduceSub, Int.reduceMul, Int.reduceEq, Int.reduceNe, Int.reduceLT, Int.reduceLE, Int.reduceGT, Int.reduceGE]
  refine call_of (index_spec l (by omega) _ _ (.inr ⟨id, 0, rfl, hM⟩) _ _ q fun p => hq p M fun j b _ h => h) ?_
  have hset : M.set id (.cells 33 (l.map Pr.row) 0) = M := by
    funext i
    rw [Mem.set_app]
    split
    · rename_i e; subst e; exact hM.symm
    · rfl
  rcases pidx_cases q l 0 with ⟨h1, h2⟩ | ⟨k, hk, h1, h2, h3⟩
  · rw [h1]
    simp -implicitDefEqProofs (maxSteps := 1000000) (disch := omega) only [↓xsP, ↓vc_seq, xsQ, xsT, xsR, tch, tOf, idsOf, storeE, eqA, fitC, fitL, eqCells, eqL, isNilS, absL, loadA, storeA, fieldAddrA, lenA, sliceA, boundA, buildA, placesOf, overw, buildSliceA, makeSliceA, clearA, unA, convA, extractA, fieldA, indexA, nilChk, capsA, retA, retA1, retL, rowOf, srcRows, gslot, Value.oneCell', ↓reduceIte, reduceCtorEq, eq_self, ne_eq, imp_self, forall_const, Nat.reduceEqDiff, Nat.reduceAdd, Nat.reduceSub, Nat.reduceMul, Nat.reduceLT, Nat.reduceLeDiff, Nat.reduceBEq, Nat.reduceDiv, Nat.reduceMod, Int.reduceToNat, Int.reduceNeg, Int.reduceAdd, Int.reduceSub, Int.reduceMul, Int.reduceEq, Int.reduceNe, Int.reduceLT, Int.reduceLE, Int.reduceGT, Int.reduceGE]
    refine finI_of (XFin.here ⟨l, by rw [stays_all h2], hset.symm, by rw [stays_all h2, List.take_length], by rw [stays_all h2]; exact Nat.le_refl _⟩)
  · rw [h1]
    have hk1 : ((0 : Nat) : Int) + (k : Int) = (k : Int) := by omega
    rw [hk1]
    have hkn : ((k : Int) = -1) = False := eq_false (by omega)
    simp -implicitDefEqProofs (maxSteps := 1000000) (disch := omega) only [↓xsP, ↓vc_seq, xsQ, xsT, xsR, tch, tOf, idsOf, storeE, eqA, fitC, fitL, eqCells, eqL, isNilS, absL, loadA, storeA, fieldAddrA, lenA, sliceA, boundA, buildA, placesOf, overw, buildSliceA, makeSliceA, clearA, unA, convA, extractA, fieldA, indexA, nilChk, capsA, retA, retA1, retL, rowOf, srcRows, gslot, Value.oneCell', ↓reduceIte, reduceCtorEq, eq_self, ne_eq, imp_self, forall_const, Nat.reduceEqDiff, Nat.reduceAdd, Nat.reduceSub, Nat.reduceMul, Nat.reduceLT, Nat.reduceLeDiff, Nat.reduceBEq, Nat.reduceDiv, Nat.reduceMod, Int.reduceToNat, Int.reduceNeg, Int.reduceAdd, Int.reduceSub, Int.reduceMul, Int.reduceEq, Int.reduceNe, Int.reduceLT, Int.reduceLE, Int.reduceGT, Int.reduceGE, hkn]
    have hst0 : stays q (l.take (k + 1)) = l.take k := by
      rw [stays_snoc q l hk, h2, if_pos rfl, List.append_nil, stays_all h3]
    refine loopI_of (xloop (by kernel_rfl) (fun r fr M' => ∃ (j i : Nat) (R : List Pr), i < j ∧ j ≤ l.length ∧ r = l.length - j ∧ fr 0 = .l (.ms id 0 l.length) ∧ fr 1 = .l (.clo f caps) ∧ fr 5 = .l (.int .i64 i) ∧ fr 6 = .l (.int .i64 j) ∧
      R.length = l.length ∧ R.take i = stays q (l.take j) ∧ i = (stays q (l.take j)).length ∧ R.drop j = l.drop j ∧ M' = M.set id (.cells 33 (R.map Pr.row) 0)) (l.length - (k + 1)) ?_ ?_)
    · exact ⟨k + 1, k, l, by omega, by omega, rfl, by simp -implicitDefEqProofs (maxSteps := 1000000) (disch := omega) only [↓xsP, ↓vc_seq, xsQ, xsT, xsR, tch, tOf, idsOf, storeE, eqA, fitC, fitL, eqCells, eqL, isNilS, absL, loadA, storeA, fieldAddrA, lenA, sliceA, boundA, buildA, placesOf, overw, buildSliceA, makeSliceA, clearA, unA, convA, extractA, fieldA, indexA, nilChk, capsA, retA, retA1, retL, rowOf, srcRows, gslot, Value.oneCell', ↓reduceIte, reduceCtorEq, eq_self, ne_eq, imp_self, forall_const, Nat.reduceEqDiff, Nat.reduceAdd, Nat.reduceSub, Nat.reduceMul, Nat.reduceLT, Nat.reduceLeDiff, Nat.reduceBEq, Nat.reduceDiv, Nat.reduceMod, Int.reduceToNat, Int.reduceNeg, Int.reduceAdd, Int.reduceSub, Int.reduceMul, Int.reduceEq, Int.reduceNe, Int.reduceLT, Int.reduceLE, Int.reduceGT, Int.reduceGE], by simp -implicitDefEqProofs (maxSteps := 1000000) (disch := omega) only [↓xsP, ↓vc_seq, xsQ, xsT, xsR, tch, tOf, idsOf, storeE, eqA, fitC, fitL, eqCells, eqL, isNilS, absL, loadA, storeA, fieldAddrA, lenA, sliceA, boundA, buildA, placesOf, overw, buildSliceA, makeSliceA, clearA, unA, convA, extractA, fieldA, indexA, nilChk, capsA, retA, retA1, retL, rowOf, srcRows, gslot, Value.oneCell', ↓reduceIte, reduceCtorEq, eq_self, ne_eq, imp_self, forall_const, Nat.reduceEqDiff, Nat.reduceAdd, Nat.reduceSub, Nat.reduceMul, Nat.reduceLT, Nat.reduceLeDiff, Nat.reduceBEq, Nat.reduceDiv, Nat.reduceMod, Int.reduceToNat, Int.reduceNeg, Int.reduceAdd, Int.reduceSub, Int.reduceMul, Int.reduceEq, Int.reduceNe, Int.reduceLT, Int.reduceLE, Int.reduceGT, Int.reduceGE], by simp -implicitDefEqProofs (maxSteps := 1000000) (disch := omega) only [↓xsP, ↓vc_seq, xsQ, xsT, xsR, tch, tOf, idsOf, storeE, eqA, fitC, fitL, eqCells, eqL, isNilS, absL, loadA, storeA, fieldAddrA, lenA, sliceA, boundA, buildA, placesOf, overw, buildSliceA, makeSliceA, clearA, unA, convA, extractA, fieldA, indexA, nilChk, capsA, retA, retA1, retL, rowOf, srcRows, gslot, Value.oneCell', ↓reduceIte, reduceCtorEq, eq_self, ne_eq, imp_self, forall_const, Nat.reduceEqDiff, Nat.reduceAdd, Nat.reduceSub, Nat.reduceMul, Nat.reduceLT, Nat.reduceLeDiff, Nat.reduceBEq, Nat.reduceDiv, Nat.reduceMod, Int.reduceToNat, Int.reduceNeg, Int.reduceAdd, Int.reduceSub, Int.reduceMul, Int.reduceEq, Int.reduceNe, Int.reduceLT, Int.reduceLE, Int.reduceGT, Int.reduceGE], by simp -implicitDefEqProofs (maxSteps := 1000000) (disch := omega) only [↓xsP, ↓vc_seq, xsQ, xsT, xsR, tch, tOf, idsOf, storeE, eqA, fitC, fitL, eqCells, eqL, isNilS, absL, loadA, storeA, fieldAddrA, lenA, sliceA, boundA, buildA, placesOf, overw, buildSliceA, makeSliceA, clearA, unA, convA, extractA, fieldA, indexA, nilChk, capsA, retA, retA1, retL, rowOf, srcRows, gslot, Value.oneCell', ↓reduceIte, reduceCtorEq, eq_self, ne_eq, imp_self, forall_const, Nat.reduceEqDiff, Nat.reduceAdd, Nat.reduceSub, Nat.reduceMul, Nat.reduceLT, Nat.reduceLeDiff, Nat.reduceBEq, Nat.reduceDiv, Nat.reduceMod, Int.reduceToNat, Int.reduceNeg, Int.reduceAdd, Int.reduceSub, Int.reduceMul, Int.reduceEq, Int.reduceNe, Int.reduceLT, Int.reduceLE, Int.reduceGT, Int.reduceGE, Int.natCast_add, Int.cast_ofNat_Int], rfl, hst0.symm, by rw [hst0]; simp; omega, rfl, hset.symm⟩
    · rintro r fr M' ⟨j, i, R, hij, hj, rfl, h0, h1, h5, h6, hR, hRt, hil, hRd, rfl⟩
      simp -implicitDefEqProofs (maxSteps := 1000000) (disch := omega) only [↓xsP, ↓vc_seq, xsQ, xsT, xsR, tch, tOf, idsOf, storeE, eqA, fitC, fitL, eqCells, eqL, isNilS, absL, loadA, storeA, fieldAddrA, lenA, sliceA, boundA, buildA, placesOf, overw, buildSliceA, makeSliceA, clearA, unA, convA, extractA, fieldA, indexA, nilChk, capsA, retA, retA1, retL, rowOf, srcRows, gslot, Value.oneCell', ↓reduceIte, reduceCtorEq, eq_self, ne_eq, imp_self, forall_const, Nat.reduceEqDiff, Nat.reduceAdd, Nat.reduceSub, Nat.reduceMul, Nat.reduceLT, Nat.reduceLeDiff, Nat.reduceBEq, Nat.reduceDiv, Nat.reduceMod, Int.reduceToNat, Int.reduceNeg, Int.reduceAdd, Int.reduceSub, Int.reduceMul, Int.reduceEq, Int.reduceNe, Int.reduceLT, Int.reduceLE, Int.reduceGT, Int.reduceGE, h0, h1, h5, h6]
      refine condI_prop (fun hlt => ?_) (fun hlt => ?_)
      · have hj' : j < l.length := by omega
        have hRj : R.getD j default = l.getD j default := by
          have := congrArg (fun x => x[0]?) hRd
          simp only [List.getElem?_drop, Nat.add_zero] at this
          rw [List.getD_eq_getElem?_getD, List.getD_eq_getElem?_getD, this]
        have hM' := Mem.set_eq M id (.cells 33 (R.map Pr.row) 0)
        have hold : ∀ j b, j ≠ id → M j = some b → (M.set id (.cells 33 (R.map Pr.row) 0)) j = some b := fun j b hj hb => by rw [Mem.set_ne _ _ _ _ (Ne.symm hj)]; exact hb
        generalize M.set id (.cells 33 (R.map Pr.row) 0) = N at hM' hold ⊢
        simp -implicitDefEqProofs (maxSteps := 1000000) (disch := omega) only [↓xsP, ↓vc_seq, xsQ, xsT, xsR, tch, tOf, idsOf, storeE, eqA, fitC, fitL, eqCells, eqL, isNilS, absL, loadA, storeA, fieldAddrA, lenA, sliceA, boundA, buildA, placesOf, overw, buildSliceA, makeSliceA, clearA, unA, convA, extractA, fieldA, indexA, nilChk, capsA, retA, retA1, retL, rowOf, srcRows, gslot, Value.oneCell', ↓reduceIte, reduceCtorEq, eq_self, ne_eq, imp_self, forall_const, Nat.reduceEqDiff, Nat.reduceAdd, Nat.reduceSub, Nat.reduceMul, Nat.reduceLT, Nat.reduceLeDiff, Nat.reduceBEq, Nat.reduceDiv, Nat.reduceMod, Int.reduceToNat, Int.reduceNeg, Int.reduceAdd, Int.reduceSub, Int.reduceMul, Int.reduceEq, Int.reduceNe, Int.reduceLT, Int.reduceLE, Int.reduceGT, Int.reduceGE, h0, h1, h5, h6, hM']
        refine newI_intro fun id7 hid7 => ?_
        have h7 : id < id7 := lt_of_bnd hid7 hM'
        simp -implicitDefEqProofs (maxSteps := 1000000) (disch := omega) only [↓xsP, ↓vc_seq, xsQ, xsT, xsR, tch, tOf, idsOf, storeE, eqA, fitC, fitL, eqCells, eqL, isNilS, absL, loadA, storeA, fieldAddrA, lenA, sliceA, boundA, buildA, placesOf, overw, buildSliceA, makeSliceA, clearA, unA, convA, extractA, fieldA, indexA, nilChk, capsA, retA, retA1, retL, rowOf, srcRows, gslot, Value.oneCell', ↓reduceIte, reduceCtorEq, eq_self, ne_eq, imp_self, forall_const, Nat.reduceEqDiff, Nat.reduceAdd, Nat.reduceSub, Nat.reduceMul, Nat.reduceLT, Nat.reduceLeDiff, Nat.reduceBEq, Nat.reduceDiv, Nat.reduceMod, Int.reduceToNat, Int.reduceNeg, Int.reduceAdd, Int.reduceSub, Int.reduceMul, Int.reduceEq, Int.reduceNe, Int.reduceLT, Int.reduceLE, Int.reduceGT, Int.reduceGE, h0, h1, h5, h6, hM', hRj]
        refine call_of (hq (l.getD j default) _ fun j' b hj' hb => ?_) ?_
        · have := hold j' b hj' hb
          rw [Mem.set_ne _ _ _ _ (by have := lt_of_bnd hid7 this; omega)]
          exact this
        · have hRd1 : R.drop (j + 1) = l.drop (j + 1) := by
            have := congrArg (List.drop 1) hRd
            simpa [List.drop_drop] using this
          have hsn := stays_snoc q l hj'
          have hiR : i < R.length := by omega
          cases hb : q (l.getD j default) with
          | true =>
            rw [hb, if_pos rfl, List.append_nil] at hsn
            simp -implicitDefEqProofs (maxSteps := 1000000) (disch := omega) only [↓xsP, ↓vc_seq, xsQ, xsT, xsR, tch, tOf, idsOf, storeE, eqA, fitC, fitL, eqCells, eqL, isNilS, absL, loadA, storeA, fieldAddrA, lenA, sliceA, boundA, buildA, placesOf, overw, buildSliceA, makeSliceA, clearA, unA, convA, extractA, fieldA, indexA, nilChk, capsA, retA, retA1, retL, rowOf, srcRows, gslot, Value.oneCell', ↓reduceIte, reduceCtorEq, eq_self, ne_eq, imp_self, forall_const, Nat.reduceEqDiff, Nat.reduceAdd, Nat.reduceSub, Nat.reduceMul, Nat.reduceLT, Nat.reduceLeDiff, Nat.reduceBEq, Nat.reduceDiv, Nat.reduceMod, Int.reduceToNat, Int.reduceNeg, Int.reduceAdd, Int.reduceSub, Int.reduceMul, Int.reduceEq, Int.reduceNe, Int.reduceLT, Int.reduceLE, Int.reduceGT, Int.reduceGE, h0, h1, h5, h6, hM']
            refine ⟨l.length - (j + 1), M.set id (.cells 33 (R.map Pr.row) 0), by omega, fun i' b hb' => ?_, j + 1, i, R, by omega, by omega, rfl, rfl, by simp, hR, by rw [hsn]; exact hRt, by rw [hsn]; exact hil, hRd1, rfl⟩
            have hN : N i' = some b := by
              rw [Mem.set_app] at hb'
              split at hb'
              · rename_i e; subst e; rw [hM']; exact hb'
              · rename_i e; exact hold _ _ (fun e' => e e'.symm) hb'
            rw [Mem.set_ne _ _ _ _ (by have := lt_of_bnd hid7 hN; omega)]
            exact hN
          | false =>
            rw [hb] at hsn
            simp only [Bool.false_eq_true, if_false] at hsn
            simp -implicitDefEqProofs (maxSteps := 1000000) (disch := omega) only [↓xsP, ↓vc_seq, xsQ, xsT, xsR, tch, tOf, idsOf, storeE, eqA, fitC, fitL, eqCells, eqL, isNilS, absL, loadA, storeA, fieldAddrA, lenA, sliceA, boundA, buildA, placesOf, overw, buildSliceA, makeSliceA, clearA, unA, convA, extractA, fieldA, indexA, nilChk, capsA, retA, retA1, retL, rowOf, srcRows, gslot, Value.oneCell', ↓reduceIte, reduceCtorEq, eq_self, ne_eq, imp_self, forall_const, Nat.reduceEqDiff, Nat.reduceAdd, Nat.reduceSub, Nat.reduceMul, Nat.reduceLT, Nat.reduceLeDiff, Nat.reduceBEq, Nat.reduceDiv, Nat.reduceMod, Int.reduceToNat, Int.reduceNeg, Int.reduceAdd, Int.reduceSub, Int.reduceMul, Int.reduceEq, Int.reduceNe, Int.reduceLT, Int.reduceLE, Int.reduceGT, Int.reduceGE, h0, h1, h5, h6, hM']
            have hset' : (R.map Pr.row).set i [.int .i64 (l.getD j default).key, .int .i64 (l.getD j default).val] = (R.set i (l.getD j default)).map Pr.row := by rw [List.map_set]; rfl
            rw [hset']
            refine ⟨l.length - (j + 1), M.set id (.cells 33 ((R.set i (l.getD j default)).map Pr.row) 0), by omega, fun i' b hb' => ?_, j + 1, i + 1, R.set i (l.getD j default), by omega, by omega, rfl, by simp, by simp, by simpa using hR, ?_, by rw [hsn, List.length_append, ← hil]; rfl, ?_, rfl⟩
            · rw [Mem.set_app] at hb' ⊢
              split at hb'
              · rename_i e; rw [if_pos e]; exact hb'
              · rename_i e
                rw [if_neg e]
                have hN := hold _ _ (fun e' => e e'.symm) hb'
                rw [Mem.set_ne _ _ _ _ (by have := lt_of_bnd hid7 hN; omega)]
                exact hN
            · rw [hsn, List.set_eq_take_append_cons_drop, if_pos hiR, List.take_append]
              have hlen : (R.take i).length = i := by simp; omega
              rw [hlen, List.take_of_length_le (by omega), ← hRt]
              have e1 : i + 1 - i = 1 := by omega
              rw [e1]
              rfl
            · rw [List.drop_set, if_pos (by omega)]
              exact hRd1
      · have hjl : j = l.length := by omega
        subst hjl
        rw [List.take_length] at hRt hil
        have hM' := Mem.set_eq M id (.cells 33 (R.map Pr.row) 0)
        have hile : (i ≤ l.length) = True := eq_true (by omega)
        have hi0 : (0 ≤ (i : Int)) = True := eq_true (by omega)
        by_cases hz : i = 0
        · subst hz
          simp -implicitDefEqProofs (maxSteps := 1000000) (disch := omega) only [↓xsP, ↓vc_seq, xsQ, xsT, xsR, tch, tOf, idsOf, storeE, eqA, fitC, fitL, eqCells, eqL, isNilS, absL, loadA, storeA, fieldAddrA, lenA, sliceA, boundA, buildA, placesOf, overw, buildSliceA, makeSliceA, clearA, unA, convA, extractA, fieldA, indexA, nilChk, capsA, retA, retA1, retL, rowOf, srcRows, gslot, Value.oneCell', ↓reduceIte, reduceCtorEq, eq_self, ne_eq, imp_self, forall_const, Nat.reduceEqDiff, Nat.reduceAdd, Nat.reduceSub, Nat.reduceMul, Nat.reduceLT, Nat.reduceLeDiff, Nat.reduceBEq, Nat.reduceDiv, Nat.reduceMod, Int.reduceToNat, Int.reduceNeg, Int.reduceAdd, Int.reduceSub, Int.reduceMul, Int.reduceEq, Int.reduceNe, Int.reduceLT, Int.reduceLE, Int.reduceGT, Int.reduceGE, h0, h1, h5, h6, hM', hile, hi0, hR]
          have hnil : stays q l = [] := List.eq_nil_of_length_eq_zero hil.symm
          refine finI_of (XFin.here ⟨List.replicate l.length ⟨0, 0⟩ ++ R.drop l.length, by rw [hnil]; rfl, by simp [Pr.row, List.map_drop], by rw [hnil]; rfl, by rw [hnil]; exact Nat.zero_le _⟩)
        · have hz' : (i = 0) = False := eq_false hz
          have hin : (i = l.length) = False := eq_false (by omega)
          simp -implicitDefEqProofs (maxSteps := 1000000) (disch := omega) only [↓xsP, ↓vc_seq, xsQ, xsT, xsR, tch, tOf, idsOf, storeE, eqA, fitC, fitL, eqCells, eqL, isNilS, absL, loadA, storeA, fieldAddrA, lenA, sliceA, boundA, buildA, placesOf, overw, buildSliceA, makeSliceA, clearA, unA, convA, extractA, fieldA, indexA, nilChk, capsA, retA, retA1, retL, rowOf, srcRows, gslot, Value.oneCell', ↓reduceIte, reduceCtorEq, eq_self, ne_eq, imp_self, forall_const, Nat.reduceEqDiff, Nat.reduceAdd, Nat.reduceSub, Nat.reduceMul, Nat.reduceLT, Nat.reduceLeDiff, Nat.reduceBEq, Nat.reduceDiv, Nat.reduceMod, Int.reduceToNat, Int.reduceNeg, Int.reduceAdd, Int.reduceSub, Int.reduceMul, Int.reduceEq, Int.reduceNe, Int.reduceLT, Int.reduceLE, Int.reduceGT, Int.reduceGE, h0, h1, h5, h6, hM', hile, hi0, hz', hin, hR]
          have hsum : (i + (l.length - i) ≤ l.length) = True := eq_true (by omega)
          simp -implicitDefEqProofs (maxSteps := 1000000) (disch := omega) only [↓xsP, ↓vc_seq, xsQ, xsT, xsR, tch, tOf, idsOf, storeE, eqA, fitC, fitL, eqCells, eqL, isNilS, absL, loadA, storeA, fieldAddrA, lenA, sliceA, boundA, buildA, placesOf, overw, buildSliceA, makeSliceA, clearA, unA, convA, extractA, fieldA, indexA, nilChk, capsA, retA, retA1, retL, rowOf, srcRows, gslot, Value.oneCell', ↓reduceIte, reduceCtorEq, eq_self, ne_eq, imp_self, forall_const, Nat.reduceEqDiff, Nat.reduceAdd, Nat.reduceSub, Nat.reduceMul, Nat.reduceLT, Nat.reduceLeDiff, Nat.reduceBEq, Nat.reduceDiv, Nat.reduceMod, Int.reduceToNat, Int.reduceNeg, Int.reduceAdd, Int.reduceSub, Int.reduceMul, Int.reduceEq, Int.reduceNe, Int.reduceLT, Int.reduceLE, Int.reduceGT, Int.reduceGE, h0, h1, h5, h6, hsum, hi0, hile, hz', hin]
          have hlen : (R.take i).length = i := by simp; omega
          refine finI_of (XFin.here ⟨R.take i ++ List.replicate (l.length - i) ⟨0, 0⟩ ++ R.drop (i + (l.length - i)), by rw [← hil], by simp [Pr.row, List.map_drop, List.map_take], ?_, by rw [← hil]; simp; omega⟩)
          rw [← hil, List.append_assoc, List.take_append, hlen, Nat.sub_self, List.take_zero, List.append_nil, List.take_of_length_le (by omega)]
          exact hRt
end Go.X
