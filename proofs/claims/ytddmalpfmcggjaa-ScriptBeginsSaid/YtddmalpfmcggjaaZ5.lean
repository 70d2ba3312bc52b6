/- Texts joined: Sd Se Md Sf Sg St Su. -/
import Derived.Test.YtddmalpfmcggjaaZ4

/- Scripts: how many calls; alike. -/

set_option linter.unusedVariables false
set_option linter.unusedSimpArgs false
set_option maxHeartbeats 20000000
set_option maxRecDepth 100000
namespace Go.X
open Go.Proofs.Try (prog)

def callsN (l : List (List Opn)) : Nat := (l.map List.length).sum
theorem callsN_take (l : List (List Opn)) {i : Nat} (hi : i < l.length) : callsN (l.take (i + 1)) = callsN (l.take i) + (l.getD i default).length := by
  rw [callsN, take_snoc l hi, List.map_append, List.sum_append, callsN]
  simp
theorem callsN_le (l : List (List Opn)) (i : Nat) : callsN (l.take i) ≤ callsN l := by
  conv => rhs; rw [← List.take_append_drop i l]
  rw [callsN, callsN, List.map_append, List.sum_append]
  omega
def lightS (s : Scr) : Int := if s.beg.length + s.ops.length + callsN s.ops > 800 ∨ s.picks.length > 100200 then 1 else 0
theorem light_spec (s : Scr) (hs : SmS s) (M : Mem) : XCalls Go.Proofs.Try.prog 11 [.agg s.row] M fun r M' => r = .l (.int .i64 (lightS s)) ∧ M' = M := by
  refine xcalls_intro (rs := [.tmp 2]) Go.Proofs.Try.func11 rfl (by kernel_rfl) rfl rfl (by kernel_rfl) (by simp) ?_
  have hb := hs.beg
  have ho := hs.ops
  have hp := hs.picks
  have hsum : callsN s.ops ≤ 400000 := hs.sum
  simp -implicitDefEqProofs (maxSteps := 1000000) (disch := omega) only [↓xsP, ↓vc_seq, xsQ, xsT, xsR, tch, tOf, idsOf, storeE, eqA, fitC, fitL, eqCells, eqL, isNilS, absL, loadA, storeA, fieldAddrA, lenA, sliceA, boundA, buildA, placesOf, overw, buildSliceA, makeSliceA, clearA, unA, convA, extractA, fieldA, indexA, nilChk, capsA, retA, retA1, retL, rowOf, srcRows, gslot, Value.oneCell', ↓reduceIte, reduceCtorEq, eq_self, ne_eq, imp_self, forall_const, Nat.reduceEqDiff, Nat.reduceAdd, Nat.reduceSub, Nat.reduceMul, Nat.reduceLT, Nat.reduceLeDiff, Nat.reduceBEq, Nat.reduceDiv, Nat.reduceMod, Int.reduceToNat, Int.reduceNeg, Int.reduceAdd, Int.reduceSub, Int.reduceMul, Int.reduceEq, Int.reduceNe, Int.reduceLT, Int.reduceLE, Int.reduceGT, Int.reduceGE]
  refine newI_intro fun a ha => ?_
  have hM := Mem.set_eq M a (.cells 28 [s.row] 0)
  have hle := le_new (b := .cells 28 [s.row] 0) (Mem.le_refl M) ha
  rw [row_scr] at hM hle
  simp -implicitDefEqProofs (maxSteps := 1000000) (disch := omega) only [↓xsP, ↓vc_seq, xsQ, xsT, xsR, tch, tOf, idsOf, storeE, eqA, fitC, fitL, eqCells, eqL, isNilS, absL, loadA, storeA, fieldAddrA, lenA, sliceA, boundA, buildA, placesOf, overw, buildSliceA, makeSliceA, clearA, unA, convA, extractA, fieldA, indexA, nilChk, capsA, retA, retA1, retL, rowOf, srcRows, gslot, Value.oneCell', ↓reduceIte, reduceCtorEq, eq_self, ne_eq, imp_self, forall_const, Nat.reduceEqDiff, Nat.reduceAdd, Nat.reduceSub, Nat.reduceMul, Nat.reduceLT, Nat.reduceLeDiff, Nat.reduceBEq, Nat.reduceDiv, Nat.reduceMod, Int.reduceToNat, Int.reduceNeg, Int.reduceAdd, Int.reduceSub, Int.reduceMul, Int.reduceEq, Int.reduceNe, Int.reduceLT, Int.reduceLE, Int.reduceGT, Int.reduceGE]
  generalize M.set a _ = N at hM hle ⊢
  refine loopI_of (xloop (by kernel_rfl) (fun k fr M' => ∃ i : Nat, i ≤ s.ops.length ∧ k = s.ops.length - i ∧ fr 1 = .l (.ptr a 0 0) ∧ fr 3 = .l (.int .i64 ((s.beg.length + s.ops.length + callsN (s.ops.take i) : Nat) : Int)) ∧ fr 14 = .l (.sl (s.ops.map oprow)) ∧ fr 15 = .l (.int .i64 s.ops.length) ∧ fr 16 = .l (.int .i64 i) ∧ M' = N) s.ops.length ?_ ?_)
  · exact ⟨0, Nat.zero_le _, rfl, by simp -implicitDefEqProofs (maxSteps := 1000000) (disch := omega) only [↓xsP, ↓vc_seq, xsQ, xsT, xsR, tch, tOf, idsOf, storeE, eqA, fitC, fitL, eqCells, eqL, isNilS, absL, loadA, storeA, fieldAddrA, lenA, sliceA, boundA, buildA, placesOf, overw, buildSliceA, makeSliceA, clearA, unA, convA, extractA, fieldA, indexA, nilChk, capsA, retA, retA1, retL, rowOf, srcRows, gslot, Value.oneCell', ↓reduceIte, reduceCtorEq, eq_self, ne_eq, imp_self, forall_const, Nat.reduceEqDiff, Nat.reduceAdd, Nat.reduceSub, Nat.reduceMul, Nat.reduceLT, Nat.reduceLeDiff, Nat.reduceBEq, Nat.reduceDiv, Nat.reduceMod, Int.reduceToNat, Int.reduceNeg, Int.reduceAdd, Int.reduceSub, Int.reduceMul, Int.reduceEq, Int.reduceNe, Int.reduceLT, Int.reduceLE, Int.reduceGT, Int.reduceGE], by simp -implicitDefEqProofs (maxSteps := 1000000) (disch := omega) only [↓xsP, ↓vc_seq, xsQ, xsT, xsR, tch, tOf, idsOf, storeE, eqA, fitC, fitL, eqCells, eqL, isNilS, absL, loadA, storeA, fieldAddrA, lenA, sliceA, boundA, buildA, placesOf, overw, buildSliceA, makeSliceA, clearA, unA, convA, extractA, fieldA, indexA, nilChk, capsA, retA, retA1, retL, rowOf, srcRows, gslot, Value.oneCell', ↓reduceIte, reduceCtorEq, eq_self, ne_eq, imp_self, forall_const, Nat.reduceEqDiff, Nat.reduceAdd, Nat.reduceSub, Nat.reduceMul, Nat.reduceLT, Nat.reduceLeDiff, Nat.reduceBEq, Nat.reduceDiv, Nat.reduceMod, Int.reduceToNat, Int.reduceNeg, Int.reduceAdd, Int.reduceSub, Int.reduceMul, Int.reduceEq, Int.reduceNe, Int.reduceLT, Int.reduceLE, Int.reduceGT, Int.reduceGE, List.take_zero, callsN, List.sum_nil, Int.natCast_add], by simp -implicitDefEqProofs (maxSteps := 1000000) (disch := omega) only [↓xsP, ↓vc_seq, xsQ, xsT, xsR, tch, tOf, idsOf, storeE, eqA, fitC, fitL, eqCells, eqL, isNilS, absL, loadA, storeA, fieldAddrA, lenA, sliceA, boundA, buildA, placesOf, overw, buildSliceA, makeSliceA, clearA, unA, convA, extractA, fieldA, indexA, nilChk, capsA, retA, retA1, retL, rowOf, srcRows, gslot, Value.oneCell', ↓reduceIte, reduceCtorEq, eq_self, ne_eq, imp_self, forall_const, Nat.reduceEqDiff, Nat.reduceAdd, Nat.reduceSub, Nat.reduceMul, Nat.reduceLT, Nat.reduceLeDiff, Nat.reduceBEq, Nat.reduceDiv, Nat.reduceMod, Int.reduceToNat, Int.reduceNeg, Int.reduceAdd, Int.reduceSub, Int.reduceMul, Int.reduceEq, Int.reduceNe, Int.reduceLT, Int.reduceLE, Int.reduceGT, Int.reduceGE], by simp -implicitDefEqProofs (maxSteps := 1000000) (disch := omega) only [↓xsP, ↓vc_seq, xsQ, xsT, xsR, tch, tOf, idsOf, storeE, eqA, fitC, fitL, eqCells, eqL, isNilS, absL, loadA, storeA, fieldAddrA, lenA, sliceA, boundA, buildA, placesOf, overw, buildSliceA, makeSliceA, clearA, unA, convA, extractA, fieldA, indexA, nilChk, capsA, retA, retA1, retL, rowOf, srcRows, gslot, Value.oneCell', ↓reduceIte, reduceCtorEq, eq_self, ne_eq, imp_self, forall_const, Nat.reduceEqDiff, Nat.reduceAdd, Nat.reduceSub, Nat.reduceMul, Nat.reduceLT, Nat.reduceLeDiff, Nat.reduceBEq, Nat.reduceDiv, Nat.reduceMod, Int.reduceToNat, Int.reduceNeg, Int.reduceAdd, Int.reduceSub, Int.reduceMul, Int.reduceEq, Int.reduceNe, Int.reduceLT, Int.reduceLE, Int.reduceGT, Int.reduceGE], by simp -implicitDefEqProofs (maxSteps := 1000000) (disch := omega) only [↓xsP, ↓vc_seq, xsQ, xsT, xsR, tch, tOf, idsOf, storeE, eqA, fitC, fitL, eqCells, eqL, isNilS, absL, loadA, storeA, fieldAddrA, lenA, sliceA, boundA, buildA, placesOf, overw, buildSliceA, makeSliceA, clearA, unA, convA, extractA, fieldA, indexA, nilChk, capsA, retA, retA1, retL, rowOf, srcRows, gslot, Value.oneCell', ↓reduceIte, reduceCtorEq, eq_self, ne_eq, imp_self, forall_const, Nat.reduceEqDiff, Nat.reduceAdd, Nat.reduceSub, Nat.reduceMul, Nat.reduceLT, Nat.reduceLeDiff, Nat.reduceBEq, Nat.reduceDiv, Nat.reduceMod, Int.reduceToNat, Int.reduceNeg, Int.reduceAdd, Int.reduceSub, Int.reduceMul, Int.reduceEq, Int.reduceNe, Int.reduceLT, Int.reduceLE, Int.reduceGT, Int.reduceGE, Int.cast_ofNat_Int], rfl⟩
  · rintro k fr N' ⟨i, hi, rfl, g1, g3, g14, g15, g16, rfl⟩
    simp -implicitDefEqProofs (maxSteps := 1000000) (disch := omega) only [↓xsP, ↓vc_seq, xsQ, xsT, xsR, tch, tOf, idsOf, storeE, eqA, fitC, fitL, eqCells, eqL, isNilS, absL, loadA, storeA, fieldAddrA, lenA, sliceA, boundA, buildA, placesOf, overw, buildSliceA, makeSliceA, clearA, unA, convA, extractA, fieldA, indexA, nilChk, capsA, retA, retA1, retL, rowOf, srcRows, gslot, Value.oneCell', ↓reduceIte, reduceCtorEq, eq_self, ne_eq, imp_self, forall_const, Nat.reduceEqDiff, Nat.reduceAdd, Nat.reduceSub, Nat.reduceMul, Nat.reduceLT, Nat.reduceLeDiff, Nat.reduceBEq, Nat.reduceDiv, Nat.reduceMod, Int.reduceToNat, Int.reduceNeg, Int.reduceAdd, Int.reduceSub, Int.reduceMul, Int.reduceEq, Int.reduceNe, Int.reduceLT, Int.reduceLE, Int.reduceGT, Int.reduceGE, g1, g3, g14, g15, g16]
    refine condI_prop (fun hlt => ?_) (fun hlt => ?_)
    · have hi' : i < s.ops.length := by omega
      have ht := callsN_take s.ops hi'
      have htl := callsN_le s.ops (i + 1)
      obtain ⟨l, hl⟩ : ∃ l, s.ops.getD i default = l := ⟨_, rfl⟩
      rw [hl] at ht
      simp -implicitDefEqProofs (maxSteps := 1000000) (disch := omega) only [↓xsP, ↓vc_seq, xsQ, xsT, xsR, tch, tOf, idsOf, storeE, eqA, fitC, fitL, eqCells, eqL, isNilS, absL, loadA, storeA, fieldAddrA, lenA, sliceA, boundA, buildA, placesOf, overw, buildSliceA, makeSliceA, clearA, unA, convA, extractA, fieldA, indexA, nilChk, capsA, retA, retA1, retL, rowOf, srcRows, gslot, Value.oneCell', ↓reduceIte, reduceCtorEq, eq_self, ne_eq, imp_self, forall_const, Nat.reduceEqDiff, Nat.reduceAdd, Nat.reduceSub, Nat.reduceMul, Nat.reduceLT, Nat.reduceLeDiff, Nat.reduceBEq, Nat.reduceDiv, Nat.reduceMod, Int.reduceToNat, Int.reduceNeg, Int.reduceAdd, Int.reduceSub, Int.reduceMul, Int.reduceEq, Int.reduceNe, Int.reduceLT, Int.reduceLE, Int.reduceGT, Int.reduceGE, g1, g3, g14, g15, g16, hl]
      exact ⟨s.ops.length - (i + 1), _, by omega, Mem.le_refl _, i + 1, by omega, rfl, by rw [ht]; congr 2; omega, rfl, rfl⟩
    · have hil : i = s.ops.length := by omega
      subst hil
      rw [List.take_length] at g3
      simp -implicitDefEqProofs (maxSteps := 1000000) (disch := omega) only [↓xsP, ↓vc_seq, xsQ, xsT, xsR, tch, tOf, idsOf, storeE, eqA, fitC, fitL, eqCells, eqL, isNilS, absL, loadA, storeA, fieldAddrA, lenA, sliceA, boundA, buildA, placesOf, overw, buildSliceA, makeSliceA, clearA, unA, convA, extractA, fieldA, indexA, nilChk, capsA, retA, retA1, retL, rowOf, srcRows, gslot, Value.oneCell', ↓reduceIte, reduceCtorEq, eq_self, ne_eq, imp_self, forall_const, Nat.reduceEqDiff, Nat.reduceAdd, Nat.reduceSub, Nat.reduceMul, Nat.reduceLT, Nat.reduceLeDiff, Nat.reduceBEq, Nat.reduceDiv, Nat.reduceMod, Int.reduceToNat, Int.reduceNeg, Int.reduceAdd, Int.reduceSub, Int.reduceMul, Int.reduceEq, Int.reduceNe, Int.reduceLT, Int.reduceLE, Int.reduceGT, Int.reduceGE, g1, g3, hM]
      have hfin : ∀ n, n = lightS s → @finI prog (.l (.int .i64 n)) N' ⟨fun r M' => r = .l (.int .i64 (lightS s)) ∧ M' = M⟩ := fun n hn => fin_ok hle ⟨by rw [hn], rfl⟩
      refine gI_prop_f (fun h1 => ?_) (fun h1 => ?_)
      · simp -implicitDefEqProofs (maxSteps := 1000000) (disch := omega) only [↓xsP, ↓vc_seq, xsQ, xsT, xsR, tch, tOf, idsOf, storeE, eqA, fitC, fitL, eqCells, eqL, isNilS, absL, loadA, storeA, fieldAddrA, lenA, sliceA, boundA, buildA, placesOf, overw, buildSliceA, makeSliceA, clearA, unA, convA, extractA, fieldA, indexA, nilChk, capsA, retA, retA1, retL, rowOf, srcRows, gslot, Value.oneCell', ↓reduceIte, reduceCtorEq, eq_self, ne_eq, imp_self, forall_const, Nat.reduceEqDiff, Nat.reduceAdd, Nat.reduceSub, Nat.reduceMul, Nat.reduceLT, Nat.reduceLeDiff, Nat.reduceBEq, Nat.reduceDiv, Nat.reduceMod, Int.reduceToNat, Int.reduceNeg, Int.reduceAdd, Int.reduceSub, Int.reduceMul, Int.reduceEq, Int.reduceNe, Int.reduceLT, Int.reduceLE, Int.reduceGT, Int.reduceGE, g1, h1, hM]
        refine condI_prop (fun h2 => ?_) (fun h2 => ?_)
        · simp -implicitDefEqProofs (maxSteps := 1000000) (disch := omega) only [↓xsP, ↓vc_seq, xsQ, xsT, xsR, tch, tOf, idsOf, storeE, eqA, fitC, fitL, eqCells, eqL, isNilS, absL, loadA, storeA, fieldAddrA, lenA, sliceA, boundA, buildA, placesOf, overw, buildSliceA, makeSliceA, clearA, unA, convA, extractA, fieldA, indexA, nilChk, capsA, retA, retA1, retL, rowOf, srcRows, gslot, Value.oneCell', ↓reduceIte, reduceCtorEq, eq_self, ne_eq, imp_self, forall_const, Nat.reduceEqDiff, Nat.reduceAdd, Nat.reduceSub, Nat.reduceMul, Nat.reduceLT, Nat.reduceLeDiff, Nat.reduceBEq, Nat.reduceDiv, Nat.reduceMod, Int.reduceToNat, Int.reduceNeg, Int.reduceAdd, Int.reduceSub, Int.reduceMul, Int.reduceEq, Int.reduceNe, Int.reduceLT, Int.reduceLE, Int.reduceGT, Int.reduceGE]
          exact hfin _ (by rw [lightS, if_pos (.inr (by omega))])
        · simp -implicitDefEqProofs (maxSteps := 1000000) (disch := omega) only [↓xsP, ↓vc_seq, xsQ, xsT, xsR, tch, tOf, idsOf, storeE, eqA, fitC, fitL, eqCells, eqL, isNilS, absL, loadA, storeA, fieldAddrA, lenA, sliceA, boundA, buildA, placesOf, overw, buildSliceA, makeSliceA, clearA, unA, convA, extractA, fieldA, indexA, nilChk, capsA, retA, retA1, retL, rowOf, srcRows, gslot, Value.oneCell', ↓reduceIte, reduceCtorEq, eq_self, ne_eq, imp_self, forall_const, Nat.reduceEqDiff, Nat.reduceAdd, Nat.reduceSub, Nat.reduceMul, Nat.reduceLT, Nat.reduceLeDiff, Nat.reduceBEq, Nat.reduceDiv, Nat.reduceMod, Int.reduceToNat, Int.reduceNeg, Int.reduceAdd, Int.reduceSub, Int.reduceMul, Int.reduceEq, Int.reduceNe, Int.reduceLT, Int.reduceLE, Int.reduceGT, Int.reduceGE]
          exact hfin _ (by rw [lightS, if_neg (by omega)])
      · simp -implicitDefEqProofs (maxSteps := 1000000) (disch := omega) only [↓xsP, ↓vc_seq, xsQ, xsT, xsR, tch, tOf, idsOf, storeE, eqA, fitC, fitL, eqCells, eqL, isNilS, absL, loadA, storeA, fieldAddrA, lenA, sliceA, boundA, buildA, placesOf, overw, buildSliceA, makeSliceA, clearA, unA, convA, extractA, fieldA, indexA, nilChk, capsA, retA, retA1, retL, rowOf, srcRows, gslot, Value.oneCell', ↓reduceIte, reduceCtorEq, eq_self, ne_eq, imp_self, forall_const, Nat.reduceEqDiff, Nat.reduceAdd, Nat.reduceSub, Nat.reduceMul, Nat.reduceLT, Nat.reduceLeDiff, Nat.reduceBEq, Nat.reduceDiv, Nat.reduceMod, Int.reduceToNat, Int.reduceNeg, Int.reduceAdd, Int.reduceSub, Int.reduceMul, Int.reduceEq, Int.reduceNe, Int.reduceLT, Int.reduceLE, Int.reduceGT, Int.reduceGE, h1]
        exact hfin _ (by rw [lightS, if_pos (.inl (by omega))])
theorem calls_spec (s : Scr) (hs : SmS s) (M : Mem) : XCalls Go.Proofs.Try.prog 29 [.agg s.row] M fun r M' => r = .l (.int .i64 (callsN s.ops)) ∧ M' = M := by
  refine xcalls_intro (rs := [.tmp 2]) Go.Proofs.Try.func29 rfl (by kernel_rfl) rfl rfl (by kernel_rfl) (by simp) ?_
  have ho := hs.ops
  have hsum : callsN s.ops ≤ 400000 := hs.sum
  simp -implicitDefEqProofs (maxSteps := 1000000) (disch := omega) only [↓xsP, ↓vc_seq, xsQ, xsT, xsR, tch, tOf, idsOf, storeE, eqA, fitC, fitL, eqCells, eqL, isNilS, absL, loadA, storeA, fieldAddrA, lenA, sliceA, boundA, buildA, placesOf, overw, buildSliceA, makeSliceA, clearA, unA, convA, extractA, fieldA, indexA, nilChk, capsA, retA, retA1, retL, rowOf, srcRows, gslot, Value.oneCell', ↓reduceIte, reduceCtorEq, eq_self, ne_eq, imp_self, forall_const, Nat.reduceEqDiff, Nat.reduceAdd, Nat.reduceSub, Nat.reduceMul, Nat.reduceLT, Nat.reduceLeDiff, Nat.reduceBEq, Nat.reduceDiv, Nat.reduceMod, Int.reduceToNat, Int.reduceNeg, Int.reduceAdd, Int.reduceSub, Int.reduceMul, Int.reduceEq, Int.reduceNe, Int.reduceLT, Int.reduceLE, Int.reduceGT, Int.reduceGE]
  refine newI_intro fun a ha => ?_
  have hM := Mem.set_eq M a (.cells 28 [s.row] 0)
  have hle := le_new (b := .cells 28 [s.row] 0) (Mem.le_refl M) ha
  rw [row_scr] at hM hle
  simp -implicitDefEqProofs (maxSteps := 1000000) (disch := omega) only [↓xsP, ↓vc_seq, xsQ, xsT, xsR, tch, tOf, idsOf, storeE, eqA, fitC, fitL, eqCells, eqL, isNilS, absL, loadA, storeA, fieldAddrA, lenA, sliceA, boundA, buildA, placesOf, overw, buildSliceA, makeSliceA, clearA, unA, convA, extractA, fieldA, indexA, nilChk, capsA, retA, retA1, retL, rowOf, srcRows, gslot, Value.oneCell', ↓reduceIte, reduceCtorEq, eq_self, ne_eq, imp_self, forall_const, Nat.reduceEqDiff, Nat.reduceAdd, Nat.reduceSub, Nat.reduceMul, Nat.reduceLT, Nat.reduceLeDiff, Nat.reduceBEq, Nat.reduceDiv, Nat.reduceMod, Int.reduceToNat, Int.reduceNeg, Int.reduceAdd, Int.reduceSub, Int.reduceMul, Int.reduceEq, Int.reduceNe, Int.reduceLT, Int.reduceLE, Int.reduceGT, Int.reduceGE]
  generalize M.set a _ = N at hM hle ⊢
  refine loopI_of (xloop (by kernel_rfl) (fun k fr M' => ∃ i : Nat, i ≤ s.ops.length ∧ k = s.ops.length - i ∧ fr 3 = .l (.int .i64 ((callsN (s.ops.take i) : Nat) : Int)) ∧ fr 7 = .l (.sl (s.ops.map oprow)) ∧ fr 8 = .l (.int .i64 s.ops.length) ∧ fr 9 = .l (.int .i64 i) ∧ M' = N) s.ops.length ?_ ?_)
  · exact ⟨0, Nat.zero_le _, rfl, by simp -implicitDefEqProofs (maxSteps := 1000000) (disch := omega) only [↓xsP, ↓vc_seq, xsQ, xsT, xsR, tch, tOf, idsOf, storeE, eqA, fitC, fitL, eqCells, eqL, isNilS, absL, loadA, storeA, fieldAddrA, lenA, sliceA, boundA, buildA, placesOf, overw, buildSliceA, makeSliceA, clearA, unA, convA, extractA, fieldA, indexA, nilChk, capsA, retA, retA1, retL, rowOf, srcRows, gslot, Value.oneCell', ↓reduceIte, reduceCtorEq, eq_self, ne_eq, imp_self, forall_const, Nat.reduceEqDiff, Nat.reduceAdd, Nat.reduceSub, Nat.reduceMul, Nat.reduceLT, Nat.reduceLeDiff, Nat.reduceBEq, Nat.reduceDiv, Nat.reduceMod, Int.reduceToNat, Int.reduceNeg, Int.reduceAdd, Int.reduceSub, Int.reduceMul, Int.reduceEq, Int.reduceNe, Int.reduceLT, Int.reduceLE, Int.reduceGT, Int.reduceGE, List.take_zero, callsN, List.sum_nil, Int.cast_ofNat_Int], by simp -implicitDefEqProofs (maxSteps := 1000000) (disch := omega) only [↓xsP, ↓vc_seq, xsQ, xsT, xsR, tch, tOf, idsOf, storeE, eqA, fitC, fitL, eqCells, eqL, isNilS, absL, loadA, storeA, fieldAddrA, lenA, sliceA, boundA, buildA, placesOf, overw, buildSliceA, makeSliceA, clearA, unA, convA, extractA, fieldA, indexA, nilChk, capsA, retA, retA1, retL, rowOf, srcRows, gslot, Value.oneCell', ↓reduceIte, reduceCtorEq, eq_self, ne_eq, imp_self, forall_const, Nat.reduceEqDiff, Nat.reduceAdd, Nat.reduceSub, Nat.reduceMul, Nat.reduceLT, Nat.reduceLeDiff, Nat.reduceBEq, Nat.reduceDiv, Nat.reduceMod, Int.reduceToNat, Int.reduceNeg, Int.reduceAdd, Int.reduceSub, Int.reduceMul, Int.reduceEq, Int.reduceNe, Int.reduceLT, Int.reduceLE, Int.reduceGT, Int.reduceGE], by simp -implicitDefEqProofs (maxSteps := 1000000) (disch := omega) only [↓xsP, ↓vc_seq, xsQ, xsT, xsR, tch, tOf, idsOf, storeE, eqA, fitC, fitL, eqCells, eqL, isNilS, absL, loadA, storeA, fieldAddrA, lenA, sliceA, boundA, buildA, placesOf, overw, buildSliceA, makeSliceA, clearA, unA, convA, extractA, fieldA, indexA, nilChk, capsA, retA, retA1, retL, rowOf, srcRows, gslot, Value.oneCell', ↓reduceIte, reduceCtorEq, eq_self, ne_eq, imp_self, forall_const, Nat.reduceEqDiff, Nat.reduceAdd, Nat.reduceSub, Nat.reduceMul, Nat.reduceLT, Nat.reduceLeDiff, Nat.reduceBEq, Nat.reduceDiv, Nat.reduceMod, Int.reduceToNat, Int.reduceNeg, Int.reduceAdd, Int.reduceSub, Int.reduceMul, Int.reduceEq, Int.reduceNe, Int.reduceLT, Int.reduceLE, Int.reduceGT, Int.reduceGE], by simp -implicitDefEqProofs (maxSteps := 1000000) (disch := omega) only [↓xsP, ↓vc_seq, xsQ, xsT, xsR, tch, tOf, idsOf, storeE, eqA, fitC, fitL, eqCells, eqL, isNilS, absL, loadA, storeA, fieldAddrA, lenA, sliceA, boundA, buildA, placesOf, overw, buildSliceA, makeSliceA, clearA, unA, convA, extractA, fieldA, indexA, nilChk, capsA, retA, retA1, retL, rowOf, srcRows, gslot, Value.oneCell', ↓reduceIte, reduceCtorEq, eq_self, ne_eq, imp_self, forall_const, Nat.reduceEqDiff, Nat.reduceAdd, Nat.reduceSub, Nat.reduceMul, Nat.reduceLT, Nat.reduceLeDiff, Nat.reduceBEq, Nat.reduceDiv, Nat.reduceMod, Int.reduceToNat, Int.reduceNeg, Int.reduceAdd, Int.reduceSub, Int.reduceMul, Int.reduceEq, Int.reduceNe, Int.reduceLT, Int.reduceLE, Int.reduceGT, Int.reduceGE, Int.cast_ofNat_Int], rfl⟩
  · rintro k fr N' ⟨i, hi, rfl, g3, g7, g8, g9, rfl⟩
    simp -implicitDefEqProofs (maxSteps := 1000000) (disch := omega) only [↓xsP, ↓vc_seq, xsQ, xsT, xsR, tch, tOf, idsOf, storeE, eqA, fitC, fitL, eqCells, eqL, isNilS, absL, loadA, storeA, fieldAddrA, lenA, sliceA, boundA, buildA, placesOf, overw, buildSliceA, makeSliceA, clearA, unA, convA, extractA, fieldA, indexA, nilChk, capsA, retA, retA1, retL, rowOf, srcRows, gslot, Value.oneCell', ↓reduceIte, reduceCtorEq, eq_self, ne_eq, imp_self, forall_const, Nat.reduceEqDiff, Nat.reduceAdd, Nat.reduceSub, Nat.reduceMul, Nat.reduceLT, Nat.reduceLeDiff, Nat.reduceBEq, Nat.reduceDiv, Nat.reduceMod, Int.reduceToNat, Int.reduceNeg, Int.reduceAdd, Int.reduceSub, Int.reduceMul, Int.reduceEq, Int.reduceNe, Int.reduceLT, Int.reduceLE, Int.reduceGT, Int.reduceGE, g3, g7, g8, g9]
    refine condI_prop (fun hlt => ?_) (fun hlt => ?_)
    · have hi' : i < s.ops.length := by omega
      have ht := callsN_take s.ops hi'
      have htl := callsN_le s.ops (i + 1)
      obtain ⟨l, hl⟩ : ∃ l, s.ops.getD i default = l := ⟨_, rfl⟩
      rw [hl] at ht
      simp -implicitDefEqProofs (maxSteps := 1000000) (disch := omega) only [↓xsP, ↓vc_seq, xsQ, xsT, xsR, tch, tOf, idsOf, storeE, eqA, fitC, fitL, eqCells, eqL, isNilS, absL, loadA, storeA, fieldAddrA, lenA, sliceA, boundA, buildA, placesOf, overw, buildSliceA, makeSliceA, clearA, unA, convA, extractA, fieldA, indexA, nilChk, capsA, retA, retA1, retL, rowOf, srcRows, gslot, Value.oneCell', ↓reduceIte, reduceCtorEq, eq_self, ne_eq, imp_self, forall_const, Nat.reduceEqDiff, Nat.reduceAdd, Nat.reduceSub, Nat.reduceMul, Nat.reduceLT, Nat.reduceLeDiff, Nat.reduceBEq, Nat.reduceDiv, Nat.reduceMod, Int.reduceToNat, Int.reduceNeg, Int.reduceAdd, Int.reduceSub, Int.reduceMul, Int.reduceEq, Int.reduceNe, Int.reduceLT, Int.reduceLE, Int.reduceGT, Int.reduceGE, g3, g7, g8, g9, hl]
      exact ⟨s.ops.length - (i + 1), _, by omega, Mem.le_refl _, i + 1, by omega, rfl, by rw [ht]; congr 2, rfl, rfl⟩
    · have hil : i = s.ops.length := by omega
      subst hil
      rw [List.take_length] at g3
      simp -implicitDefEqProofs (maxSteps := 1000000) (disch := omega) only [↓xsP, ↓vc_seq, xsQ, xsT, xsR, tch, tOf, idsOf, storeE, eqA, fitC, fitL, eqCells, eqL, isNilS, absL, loadA, storeA, fieldAddrA, lenA, sliceA, boundA, buildA, placesOf, overw, buildSliceA, makeSliceA, clearA, unA, convA, extractA, fieldA, indexA, nilChk, capsA, retA, retA1, retL, rowOf, srcRows, gslot, Value.oneCell', ↓reduceIte, reduceCtorEq, eq_self, ne_eq, imp_self, forall_const, Nat.reduceEqDiff, Nat.reduceAdd, Nat.reduceSub, Nat.reduceMul, Nat.reduceLT, Nat.reduceLeDiff, Nat.reduceBEq, Nat.reduceDiv, Nat.reduceMod, Int.reduceToNat, Int.reduceNeg, Int.reduceAdd, Int.reduceSub, Int.reduceMul, Int.reduceEq, Int.reduceNe, Int.reduceLT, Int.reduceLE, Int.reduceGT, Int.reduceGE, g3]
      exact fin_ok hle ⟨rfl, rfl⟩
theorem callsOf_spec (s : Scr) (hs : SmS s) (M : Mem) : XCalls Go.Proofs.Try.prog 30 [.agg s.row] M fun r M' => r = .l (.int .i64 (callsN s.ops)) ∧ M' = M := by
  refine xcalls_intro (rs := [.tmp 2]) Go.Proofs.Try.func30 rfl (by kernel_rfl) rfl rfl (by kernel_rfl) (by simp) ?_
  have ho := hs.ops
  have hsum : callsN s.ops ≤ 400000 := hs.sum
  simp -implicitDefEqProofs (maxSteps := 1000000) (disch := omega) only [↓xsP, ↓vc_seq, xsQ, xsT, xsR, tch, tOf, idsOf, storeE, eqA, fitC, fitL, eqCells, eqL, isNilS, absL, loadA, storeA, fieldAddrA, lenA, sliceA, boundA, buildA, placesOf, overw, buildSliceA, makeSliceA, clearA, unA, convA, extractA, fieldA, indexA, nilChk, capsA, retA, retA1, retL, rowOf, srcRows, gslot, Value.oneCell', ↓reduceIte, reduceCtorEq, eq_self, ne_eq, imp_self, forall_const, Nat.reduceEqDiff, Nat.reduceAdd, Nat.reduceSub, Nat.reduceMul, Nat.reduceLT, Nat.reduceLeDiff, Nat.reduceBEq, Nat.reduceDiv, Nat.reduceMod, Int.reduceToNat, Int.reduceNeg, Int.reduceAdd, Int.reduceSub, Int.reduceMul, Int.reduceEq, Int.reduceNe, Int.reduceLT, Int.reduceLE, Int.reduceGT, Int.reduceGE]
  refine newI_intro fun a ha => ?_
  have hM := Mem.set_eq M a (.cells 28 [s.row] 0)
  have hle := le_new (b := .cells 28 [s.row] 0) (Mem.le_refl M) ha
  rw [row_scr] at hM hle
  simp -implicitDefEqProofs (maxSteps := 1000000) (disch := omega) only [↓xsP, ↓vc_seq, xsQ, xsT, xsR, tch, tOf, idsOf, storeE, eqA, fitC, fitL, eqCells, eqL, isNilS, absL, loadA, storeA, fieldAddrA, lenA, sliceA, boundA, buildA, placesOf, overw, buildSliceA, makeSliceA, clearA, unA, convA, extractA, fieldA, indexA, nilChk, capsA, retA, retA1, retL, rowOf, srcRows, gslot, Value.oneCell', ↓reduceIte, reduceCtorEq, eq_self, ne_eq, imp_self, forall_const, Nat.reduceEqDiff, Nat.reduceAdd, Nat.reduceSub, Nat.reduceMul, Nat.reduceLT, Nat.reduceLeDiff, Nat.reduceBEq, Nat.reduceDiv, Nat.reduceMod, Int.reduceToNat, Int.reduceNeg, Int.reduceAdd, Int.reduceSub, Int.reduceMul, Int.reduceEq, Int.reduceNe, Int.reduceLT, Int.reduceLE, Int.reduceGT, Int.reduceGE]
  generalize M.set a _ = N at hM hle ⊢
  refine loopI_of (xloop (by kernel_rfl) (fun k fr M' => ∃ i : Nat, i ≤ s.ops.length ∧ k = s.ops.length - i ∧ fr 3 = .l (.int .i64 ((callsN (s.ops.take i) : Nat) : Int)) ∧ fr 7 = .l (.sl (s.ops.map oprow)) ∧ fr 8 = .l (.int .i64 s.ops.length) ∧ fr 9 = .l (.int .i64 i) ∧ M' = N) s.ops.length ?_ ?_)
  · exact ⟨0, Nat.zero_le _, rfl, by simp -implicitDefEqProofs (maxSteps := 1000000) (disch := omega) only [↓xsP, ↓vc_seq, xsQ, xsT, xsR, tch, tOf, idsOf, storeE, eqA, fitC, fitL, eqCells, eqL, isNilS, absL, loadA, storeA, fieldAddrA, lenA, sliceA, boundA, buildA, placesOf, overw, buildSliceA, makeSliceA, clearA, unA, convA, extractA, fieldA, indexA, nilChk, capsA, retA, retA1, retL, rowOf, srcRows, gslot, Value.oneCell', ↓reduceIte, reduceCtorEq, eq_self, ne_eq, imp_self, forall_const, Nat.reduceEqDiff, Nat.reduceAdd, Nat.reduceSub, Nat.reduceMul, Nat.reduceLT, Nat.reduceLeDiff, Nat.reduceBEq, Nat.reduceDiv, Nat.reduceMod, Int.reduceToNat, Int.reduceNeg, Int.reduceAdd, Int.reduceSub, Int.reduceMul, Int.reduceEq, Int.reduceNe, Int.reduceLT, Int.reduceLE, Int.reduceGT, Int.reduceGE, List.take_zero, callsN, List.sum_nil, Int.cast_ofNat_Int], by simp -implicitDefEqProofs (maxSteps := 1000000) (disch := omega) only [↓xsP, ↓vc_seq, xsQ, xsT, xsR, tch, tOf, idsOf, storeE, eqA, fitC, fitL, eqCells, eqL, isNilS, absL, loadA, storeA, fieldAddrA, lenA, sliceA, boundA, buildA, placesOf, overw, buildSliceA, makeSliceA, clearA, unA, convA, extractA, fieldA, indexA, nilChk, capsA, retA, retA1, retL, rowOf, srcRows, gslot, Value.oneCell', ↓reduceIte, reduceCtorEq, eq_self, ne_eq, imp_self, forall_const, Nat.reduceEqDiff, Nat.reduceAdd, Nat.reduceSub, Nat.reduceMul, Nat.reduceLT, Nat.reduceLeDiff, Nat.reduceBEq, Nat.reduceDiv, Nat.reduceMod, Int.reduceToNat, Int.reduceNeg, Int.reduceAdd, Int.reduceSub, Int.reduceMul, Int.reduceEq, Int.reduceNe, Int.reduceLT, Int.reduceLE, Int.reduceGT, Int.reduceGE], by simp -implicitDefEqProofs (maxSteps := 1000000) (disch := omega) only [↓xsP, ↓vc_seq, xsQ, xsT, xsR, tch, tOf, idsOf, storeE, eqA, fitC, fitL, eqCells, eqL, isNilS, absL, loadA, storeA, fieldAddrA, lenA, sliceA, boundA, buildA, placesOf, overw, buildSliceA, makeSliceA, clearA, unA, convA, extractA, fieldA, indexA, nilChk, capsA, retA, retA1, retL, rowOf, srcRows, gslot, Value.oneCell', ↓reduceIte, reduceCtorEq, eq_self, ne_eq, imp_self, forall_const, Nat.reduceEqDiff, Nat.reduceAdd, Nat.reduceSub, Nat.reduceMul, Nat.reduceLT, Nat.reduceLeDiff, Nat.reduceBEq, Nat.reduceDiv, Nat.reduceMod, Int.reduceToNat, Int.reduceNeg, Int.reduceAdd, Int.reduceSub, Int.reduceMul, Int.reduceEq, Int.reduceNe, Int.reduceLT, Int.reduceLE, Int.reduceGT, Int.reduceGE], by simp -implicitDefEqProofs (maxSteps := 1000000) (disch := omega) only [↓xsP, ↓vc_seq, xsQ, xsT, xsR, tch, tOf, idsOf, storeE, eqA, fitC, fitL, eqCells, eqL, isNilS, absL, loadA, storeA, fieldAddrA, lenA, sliceA, boundA, buildA, placesOf, overw, buildSliceA, makeSliceA, clearA, unA, convA, extractA, fieldA, indexA, nilChk, capsA, retA, retA1, retL, rowOf, srcRows, gslot, Value.oneCell', ↓reduceIte, reduceCtorEq, eq_self, ne_eq, imp_self, forall_const, Nat.reduceEqDiff, Nat.reduceAdd, Nat.reduceSub, Nat.reduceMul, Nat.reduceLT, Nat.reduceLeDiff, Nat.reduceBEq, Nat.reduceDiv, Nat.reduceMod, Int.reduceToNat, Int.reduceNeg, Int.reduceAdd, Int.reduceSub, Int.reduceMul, Int.reduceEq, Int.reduceNe, Int.reduceLT, Int.reduceLE, Int.reduceGT, Int.reduceGE, Int.cast_ofNat_Int], rfl⟩
  · rintro k fr N' ⟨i, hi, rfl, g3, g7, g8, g9, rfl⟩
    simp -implicitDefEqProofs (maxSteps := 1000000) (disch := omega) only [↓xsP, ↓vc_seq, xsQ, xsT, xsR, tch, tOf, idsOf, storeE, eqA, fitC, fitL, eqCells, eqL, isNilS, absL, loadA, storeA, fieldAddrA, lenA, sliceA, boundA, buildA, placesOf, overw, buildSliceA, makeSliceA, clearA, unA, convA, extractA, fieldA, indexA, nilChk, capsA, retA, retA1, retL, rowOf, srcRows, gslot, Value.oneCell', ↓reduceIte, reduceCtorEq, eq_self, ne_eq, imp_self, forall_const, Nat.reduceEqDiff, Nat.reduceAdd, Nat.reduceSub, Nat.reduceMul, Nat.reduceLT, Nat.reduceLeDiff, Nat.reduceBEq, Nat.reduceDiv, Nat.reduceMod, Int.reduceToNat, Int.reduceNeg, Int.reduceAdd, Int.reduceSub, Int.reduceMul, Int.reduceEq, Int.reduceNe, Int.reduceLT, Int.reduceLE, Int.reduceGT, Int.reduceGE, g3, g7, g8, g9]
    refine condI_prop (fun hlt => ?_) (fun hlt => ?_)
    · have hi' : i < s.ops.length := by omega
      have ht := callsN_take s.ops hi'
      have htl := callsN_le s.ops (i + 1)
      obtain ⟨l, hl⟩ : ∃ l, s.ops.getD i default = l := ⟨_, rfl⟩
      rw [hl] at ht
      simp -implicitDefEqProofs (maxSteps := 1000000) (disch := omega) only [↓xsP, ↓vc_seq, xsQ, xsT, xsR, tch, tOf, idsOf, storeE, eqA, fitC, fitL, eqCells, eqL, isNilS, absL, loadA, storeA, fieldAddrA, lenA, sliceA, boundA, buildA, placesOf, overw, buildSliceA, makeSliceA, clearA, unA, convA, extractA, fieldA, indexA, nilChk, capsA, retA, retA1, retL, rowOf, srcRows, gslot, Value.oneCell', ↓reduceIte, reduceCtorEq, eq_self, ne_eq, imp_self, forall_const, Nat.reduceEqDiff, Nat.reduceAdd, Nat.reduceSub, Nat.reduceMul, Nat.reduceLT, Nat.reduceLeDiff, Nat.reduceBEq, Nat.reduceDiv, Nat.reduceMod, Int.reduceToNat, Int.reduceNeg, Int.reduceAdd, Int.reduceSub, Int.reduceMul, Int.reduceEq, Int.reduceNe, Int.reduceLT, Int.reduceLE, Int.reduceGT, Int.reduceGE, g3, g7, g8, g9, hl]
      exact ⟨s.ops.length - (i + 1), _, by omega, Mem.le_refl _, i + 1, by omega, rfl, by rw [ht]; congr 2, rfl, rfl⟩
    · have hil : i = s.ops.length := by omega
      subst hil
      rw [List.take_length] at g3
      simp -implicitDefEqProofs (maxSteps := 1000000) (disch := omega) only [↓xsP, ↓vc_seq, xsQ, xsT, xsR, tch, tOf, idsOf, storeE, eqA, fitC, fitL, eqCells, eqL, isNilS, absL, loadA, storeA, fieldAddrA, lenA, sliceA, boundA, buildA, placesOf, overw, buildSliceA, makeSliceA, clearA, unA, convA, extractA, fieldA, indexA, nilChk, capsA, retA, retA1, retL, rowOf, srcRows, gslot, Value.oneCell', ↓reduceIte, reduceCtorEq, eq_self, ne_eq, imp_self, forall_const, Nat.reduceEqDiff, Nat.reduceAdd, Nat.reduceSub, Nat.reduceMul, Nat.reduceLT, Nat.reduceLeDiff, Nat.reduceBEq, Nat.reduceDiv, Nat.reduceMod, Int.reduceToNat, Int.reduceNeg, Int.reduceAdd, Int.reduceSub, Int.reduceMul, Int.reduceEq, Int.reduceNe, Int.reduceLT, Int.reduceLE, Int.reduceGT, Int.reduceGE, g3]
      exact fin_ok hle ⟨rfl, rfl⟩
theorem sameScr_spec (s : Scr) (hs : SmS s) (M : Mem) : XCalls Go.Proofs.Try.prog 25 [.agg s.row, .agg s.row] M fun r M' => r = .l (.bool true) ∧ M' = M := by
  refine xcalls_intro (rs := [.tmp 4]) Go.Proofs.Try.func25 rfl (by kernel_rfl) rfl rfl (by kernel_rfl) (by simp) ?_
  have hb := hs.beg
  have ho := hs.ops
  have hp := hs.picks
  simp -implicitDefEqProofs (maxSteps := 1000000) (disch := omega) only [↓xsP, ↓vc_seq, xsQ, xsT, xsR, tch, tOf, idsOf, storeE, eqA, fitC, fitL, eqCells, eqL, isNilS, absL, loadA, storeA, fieldAddrA, lenA, sliceA, boundA, buildA, placesOf, overw, buildSliceA, makeSliceA, clearA, unA, convA, extractA, fieldA, indexA, nilChk, capsA, retA, retA1, retL, rowOf, srcRows, gslot, Value.oneCell', ↓reduceIte, reduceCtorEq, eq_self, ne_eq, imp_self, forall_const, Nat.reduceEqDiff, Nat.reduceAdd, Nat.reduceSub, Nat.reduceMul, Nat.reduceLT, Nat.reduceLeDiff, Nat.reduceBEq, Nat.reduceDiv, Nat.reduceMod, Int.reduceToNat, Int.reduceNeg, Int.reduceAdd, Int.reduceSub, Int.reduceMul, Int.reduceEq, Int.reduceNe, Int.reduceLT, Int.reduceLE, Int.reduceGT, Int.reduceGE]
  refine newI_intro fun a ha => ?_
  simp -implicitDefEqProofs (maxSteps := 1000000) (disch := omega) only [↓xsP, ↓vc_seq, xsQ, xsT, xsR, tch, tOf, idsOf, storeE, eqA, fitC, fitL, eqCells, eqL, isNilS, absL, loadA, storeA, fieldAddrA, lenA, sliceA, boundA, buildA, placesOf, overw, buildSliceA, makeSliceA, clearA, unA, convA, extractA, fieldA, indexA, nilChk, capsA, retA, retA1, retL, rowOf, srcRows, gslot, Value.oneCell', ↓reduceIte, reduceCtorEq, eq_self, ne_eq, imp_self, forall_const, Nat.reduceEqDiff, Nat.reduceAdd, Nat.reduceSub, Nat.reduceMul, Nat.reduceLT, Nat.reduceLeDiff, Nat.reduceBEq, Nat.reduceDiv, Nat.reduceMod, Int.reduceToNat, Int.reduceNeg, Int.reduceAdd, Int.reduceSub, Int.reduceMul, Int.reduceEq, Int.reduceNe, Int.reduceLT, Int.reduceLE, Int.reduceGT, Int.reduceGE]
  refine newI_intro fun b hb2 => ?_
  obtain ⟨hab, hb2⟩ := bnd_new hb2
  have hM2 : ∀ N : Mem, (M.set a (.cells 28 [s.row] 0)).set b (.cells 28 [s.row] 0) = N → N a = some (.cells 28 [s.row] 0) ∧ N b = some (.cells 28 [s.row] 0) ∧ M.le N := by
    rintro N rfl
    exact ⟨by simp (disch := omega) only [Mem.set_ne, Mem.set_eq], Mem.set_eq _ _ _, le_new (le_new (Mem.le_refl _) ha) hb2⟩
  rw [row_scr] at hM2
  simp -implicitDefEqProofs (maxSteps := 1000000) (disch := omega) only [↓xsP, ↓vc_seq, xsQ, xsT, xsR, tch, tOf, idsOf, storeE, eqA, fitC, fitL, eqCells, eqL, isNilS, absL, loadA, storeA, fieldAddrA, lenA, sliceA, boundA, buildA, placesOf, overw, buildSliceA, makeSliceA, clearA, unA, convA, extractA, fieldA, indexA, nilChk, capsA, retA, retA1, retL, rowOf, srcRows, gslot, Value.oneCell', ↓reduceIte, reduceCtorEq, eq_self, ne_eq, imp_self, forall_const, Nat.reduceEqDiff, Nat.reduceAdd, Nat.reduceSub, Nat.reduceMul, Nat.reduceLT, Nat.reduceLeDiff, Nat.reduceBEq, Nat.reduceDiv, Nat.reduceMod, Int.reduceToNat, Int.reduceNeg, Int.reduceAdd, Int.reduceSub, Int.reduceMul, Int.reduceEq, Int.reduceNe, Int.reduceLT, Int.reduceLE, Int.reduceGT, Int.reduceGE]
  generalize (M.set a _).set b _ = N at hM2 ⊢
  obtain ⟨hMa, hMb, hle⟩ := hM2 N rfl
  clear hM2
  have hpt := pol_dec s.pol s.pol
  rw [bof_true rfl] at hpt
  refine call_of (samePairs_spec s.beg s.beg (by omega) _) ?_
  rw [bof_true (show s.beg = s.beg from rfl)]
  simp -implicitDefEqProofs (maxSteps := 1000000) (disch := omega) only [↓xsP, ↓vc_seq, xsQ, xsT, xsR, tch, tOf, idsOf, storeE, eqA, fitC, fitL, eqCells, eqL, isNilS, absL, loadA, storeA, fieldAddrA, lenA, sliceA, boundA, buildA, placesOf, overw, buildSliceA, makeSliceA, clearA, unA, convA, extractA, fieldA, indexA, nilChk, capsA, retA, retA1, retL, rowOf, srcRows, gslot, Value.oneCell', ↓reduceIte, reduceCtorEq, eq_self, ne_eq, imp_self, forall_const, Nat.reduceEqDiff, Nat.reduceAdd, Nat.reduceSub, Nat.reduceMul, Nat.reduceLT, Nat.reduceLeDiff, Nat.reduceBEq, Nat.reduceDiv, Nat.reduceMod, Int.reduceToNat, Int.reduceNeg, Int.reduceAdd, Int.reduceSub, Int.reduceMul, Int.reduceEq, Int.reduceNe, Int.reduceLT, Int.reduceLE, Int.reduceGT, Int.reduceGE, hMa, hMb]
  refine loopI_of (xloop (by kernel_rfl) (fun k fr M' => ∃ i : Nat, i ≤ s.ops.length ∧ k = s.ops.length - i ∧ fr 2 = .l (.ptr a 0 0) ∧ fr 3 = .l (.ptr b 0 0) ∧ fr 55 = .l (.int .i64 s.ops.length) ∧ fr 56 = .l (.int .i64 i) ∧ M' = N) s.ops.length ?_ ?_)
  · exact ⟨0, Nat.zero_le _, rfl, by simp -implicitDefEqProofs (maxSteps := 1000000) (disch := omega) only [↓xsP, ↓vc_seq, xsQ, xsT, xsR, tch, tOf, idsOf, storeE, eqA, fitC, fitL, eqCells, eqL, isNilS, absL, loadA, storeA, fieldAddrA, lenA, sliceA, boundA, buildA, placesOf, overw, buildSliceA, makeSliceA, clearA, unA, convA, extractA, fieldA, indexA, nilChk, capsA, retA, retA1, retL, rowOf, srcRows, gslot, Value.oneCell', ↓reduceIte, reduceCtorEq, eq_self, ne_eq, imp_self, forall_const, Nat.reduceEqDiff, Nat.reduceAdd, Nat.reduceSub, Nat.reduceMul, Nat.reduceLT, Nat.reduceLeDiff, Nat.reduceBEq, Nat.reduceDiv, Nat.reduceMod, Int.reduceToNat, Int.reduceNeg, Int.reduceAdd, Int.reduceSub, Int.reduceMul, Int.reduceEq, Int.reduceNe, Int.reduceLT, Int.reduceLE, Int.reduceGT, Int.reduceGE], by simp -implicitDefEqProofs (maxSteps := 1000000) (disch := omega) only [↓xsP, ↓vc_seq, xsQ, xsT, xsR, tch, tOf, idsOf, storeE, eqA, fitC, fitL, eqCells, eqL, isNilS, absL, loadA, storeA, fieldAddrA, lenA, sliceA, boundA, buildA, placesOf, overw, buildSliceA, makeSliceA, clearA, unA, convA, extractA, fieldA, indexA, nilChk, capsA, retA, retA1, retL, rowOf, srcRows, gslot, Value.oneCell', ↓reduceIte, reduceCtorEq, eq_self, ne_eq, imp_self, forall_const, Nat.reduceEqDiff, Nat.reduceAdd, Nat.reduceSub, Nat.reduceMul, Nat.reduceLT, Nat.reduceLeDiff, Nat.reduceBEq, Nat.reduceDiv, Nat.reduceMod, Int.reduceToNat, Int.reduceNeg, Int.reduceAdd, Int.reduceSub, Int.reduceMul, Int.reduceEq, Int.reduceNe, Int.reduceLT, Int.reduceLE, Int.reduceGT, Int.reduceGE], by simp -implicitDefEqProofs (maxSteps := 1000000) (disch := omega) only [↓xsP, ↓vc_seq, xsQ, xsT, xsR, tch, tOf, idsOf, storeE, eqA, fitC, fitL, eqCells, eqL, isNilS, absL, loadA, storeA, fieldAddrA, lenA, sliceA, boundA, buildA, placesOf, overw, buildSliceA, makeSliceA, clearA, unA, convA, extractA, fieldA, indexA, nilChk, capsA, retA, retA1, retL, rowOf, srcRows, gslot, Value.oneCell', ↓reduceIte, reduceCtorEq, eq_self, ne_eq, imp_self, forall_const, Nat.reduceEqDiff, Nat.reduceAdd, Nat.reduceSub, Nat.reduceMul, Nat.reduceLT, Nat.reduceLeDiff, Nat.reduceBEq, Nat.reduceDiv, Nat.reduceMod, Int.reduceToNat, Int.reduceNeg, Int.reduceAdd, Int.reduceSub, Int.reduceMul, Int.reduceEq, Int.reduceNe, Int.reduceLT, Int.reduceLE, Int.reduceGT, Int.reduceGE], by simp -implicitDefEqProofs (maxSteps := 1000000) (disch := omega) only [↓xsP, ↓vc_seq, xsQ, xsT, xsR, tch, tOf, idsOf, storeE, eqA, fitC, fitL, eqCells, eqL, isNilS, absL, loadA, storeA, fieldAddrA, lenA, sliceA, boundA, buildA, placesOf, overw, buildSliceA, makeSliceA, clearA, unA, convA, extractA, fieldA, indexA, nilChk, capsA, retA, retA1, retL, rowOf, srcRows, gslot, Value.oneCell', ↓reduceIte, reduceCtorEq, eq_self, ne_eq, imp_self, forall_const, Nat.reduceEqDiff, Nat.reduceAdd, Nat.reduceSub, Nat.reduceMul, Nat.reduceLT, Nat.reduceLeDiff, Nat.reduceBEq, Nat.reduceDiv, Nat.reduceMod, Int.reduceToNat, Int.reduceNeg, Int.reduceAdd, Int.reduceSub, Int.reduceMul, Int.reduceEq, Int.reduceNe, Int.reduceLT, Int.reduceLE, Int.reduceGT, Int.reduceGE, Int.cast_ofNat_Int], rfl⟩
  · rintro k fr N' ⟨i, hi, rfl, g2, g3, g55, g56, rfl⟩
    simp -implicitDefEqProofs (maxSteps := 1000000) (disch := omega) only [↓xsP, ↓vc_seq, xsQ, xsT, xsR, tch, tOf, idsOf, storeE, eqA, fitC, fitL, eqCells, eqL, isNilS, absL, loadA, storeA, fieldAddrA, lenA, sliceA, boundA, buildA, placesOf, overw, buildSliceA, makeSliceA, clearA, unA, convA, extractA, fieldA, indexA, nilChk, capsA, retA, retA1, retL, rowOf, srcRows, gslot, Value.oneCell', ↓reduceIte, reduceCtorEq, eq_self, ne_eq, imp_self, forall_const, Nat.reduceEqDiff, Nat.reduceAdd, Nat.reduceSub, Nat.reduceMul, Nat.reduceLT, Nat.reduceLeDiff, Nat.reduceBEq, Nat.reduceDiv, Nat.reduceMod, Int.reduceToNat, Int.reduceNeg, Int.reduceAdd, Int.reduceSub, Int.reduceMul, Int.reduceEq, Int.reduceNe, Int.reduceLT, Int.reduceLE, Int.reduceGT, Int.reduceGE, g2, g3, g55, g56]
    refine condI_prop (fun hlt => ?_) (fun hlt => ?_)
    · have hi' : i < s.ops.length := by omega
      have hrl := hs.rowAt hi'
      obtain ⟨l, hl⟩ : ∃ l, s.ops.getD i default = l := ⟨_, rfl⟩
      rw [hl] at hrl
      simp -implicitDefEqProofs (maxSteps := 1000000) (disch := omega) only [↓xsP, ↓vc_seq, xsQ, xsT, xsR, tch, tOf, idsOf, storeE, eqA, fitC, fitL, eqCells, eqL, isNilS, absL, loadA, storeA, fieldAddrA, lenA, sliceA, boundA, buildA, placesOf, overw, buildSliceA, makeSliceA, clearA, unA, convA, extractA, fieldA, indexA, nilChk, capsA, retA, retA1, retL, rowOf, srcRows, gslot, Value.oneCell', ↓reduceIte, reduceCtorEq, eq_self, ne_eq, imp_self, forall_const, Nat.reduceEqDiff, Nat.reduceAdd, Nat.reduceSub, Nat.reduceMul, Nat.reduceLT, Nat.reduceLeDiff, Nat.reduceBEq, Nat.reduceDiv, Nat.reduceMod, Int.reduceToNat, Int.reduceNeg, Int.reduceAdd, Int.reduceSub, Int.reduceMul, Int.reduceEq, Int.reduceNe, Int.reduceLT, Int.reduceLE, Int.reduceGT, Int.reduceGE, g2, g3, g55, g56]
      refine xquiet (by kernel_rfl) (by kernel_rfl) (by kernel_rfl) ?_
      simp -implicitDefEqProofs (maxSteps := 1000000) (disch := omega) only [↓xsP, ↓vc_seq, xsQ, xsT, xsR, tch, tOf, idsOf, storeE, eqA, fitC, fitL, eqCells, eqL, isNilS, absL, loadA, storeA, fieldAddrA, lenA, sliceA, boundA, buildA, placesOf, overw, buildSliceA, makeSliceA, clearA, unA, convA, extractA, fieldA, indexA, nilChk, capsA, retA, retA1, retL, rowOf, srcRows, gslot, Value.oneCell', ↓reduceIte, reduceCtorEq, eq_self, ne_eq, imp_self, forall_const, Nat.reduceEqDiff, Nat.reduceAdd, Nat.reduceSub, Nat.reduceMul, Nat.reduceLT, Nat.reduceLeDiff, Nat.reduceBEq, Nat.reduceDiv, Nat.reduceMod, Int.reduceToNat, Int.reduceNeg, Int.reduceAdd, Int.reduceSub, Int.reduceMul, Int.reduceEq, Int.reduceNe, Int.reduceLT, Int.reduceLE, Int.reduceGT, Int.reduceGE, g2, g3, g55, g56, hMa, hMb, hl]
      refine loopI_of (xloop (by kernel_rfl) (fun k fr M' => ∃ j : Nat, j ≤ l.length ∧ k = l.length - j ∧ fr 2 = .l (.ptr a 0 0) ∧ fr 3 = .l (.ptr b 0 0) ∧ fr 5 = .l (.int .i64 i) ∧ fr 55 = .l (.int .i64 s.ops.length) ∧ fr 56 = .l (.int .i64 i) ∧ fr 77 = .l (.int .i64 l.length) ∧ fr 78 = .l (.int .i64 j) ∧ M' = N') l.length ?_ ?_)
      · exact ⟨0, Nat.zero_le _, rfl, by simp -implicitDefEqProofs (maxSteps := 1000000) (disch := omega) only [↓xsP, ↓vc_seq, xsQ, xsT, xsR, tch, tOf, idsOf, storeE, eqA, fitC, fitL, eqCells, eqL, isNilS, absL, loadA, storeA, fieldAddrA, lenA, sliceA, boundA, buildA, placesOf, overw, buildSliceA, makeSliceA, clearA, unA, convA, extractA, fieldA, indexA, nilChk, capsA, retA, retA1, retL, rowOf, srcRows, gslot, Value.oneCell', ↓reduceIte, reduceCtorEq, eq_self, ne_eq, imp_self, forall_const, Nat.reduceEqDiff, Nat.reduceAdd, Nat.reduceSub, Nat.reduceMul, Nat.reduceLT, Nat.reduceLeDiff, Nat.reduceBEq, Nat.reduceDiv, Nat.reduceMod, Int.reduceToNat, Int.reduceNeg, Int.reduceAdd, Int.reduceSub, Int.reduceMul, Int.reduceEq, Int.reduceNe, Int.reduceLT, Int.reduceLE, Int.reduceGT, Int.reduceGE, g2], by simp -implicitDefEqProofs (maxSteps := 1000000) (disch := omega) only [↓xsP, ↓vc_seq, xsQ, xsT, xsR, tch, tOf, idsOf, storeE, eqA, fitC, fitL, eqCells, eqL, isNilS, absL, loadA, storeA, fieldAddrA, lenA, sliceA, boundA, buildA, placesOf, overw, buildSliceA, makeSliceA, clearA, unA, convA, extractA, fieldA, indexA, nilChk, capsA, retA, retA1, retL, rowOf, srcRows, gslot, Value.oneCell', ↓reduceIte, reduceCtorEq, eq_self, ne_eq, imp_self, forall_const, Nat.reduceEqDiff, Nat.reduceAdd, Nat.reduceSub, Nat.reduceMul, Nat.reduceLT, Nat.reduceLeDiff, Nat.reduceBEq, Nat.reduceDiv, Nat.reduceMod, Int.reduceToNat, Int.reduceNeg, Int.reduceAdd, Int.reduceSub, Int.reduceMul, Int.reduceEq, Int.reduceNe, Int.reduceLT, Int.reduceLE, Int.reduceGT, Int.reduceGE, g3], by simp -implicitDefEqProofs (maxSteps := 1000000) (disch := omega) only [↓xsP, ↓vc_seq, xsQ, xsT, xsR, tch, tOf, idsOf, storeE, eqA, fitC, fitL, eqCells, eqL, isNilS, absL, loadA, storeA, fieldAddrA, lenA, sliceA, boundA, buildA, placesOf, overw, buildSliceA, makeSliceA, clearA, unA, convA, extractA, fieldA, indexA, nilChk, capsA, retA, retA1, retL, rowOf, srcRows, gslot, Value.oneCell', ↓reduceIte, reduceCtorEq, eq_self, ne_eq, imp_self, forall_const, Nat.reduceEqDiff, Nat.reduceAdd, Nat.reduceSub, Nat.reduceMul, Nat.reduceLT, Nat.reduceLeDiff, Nat.reduceBEq, Nat.reduceDiv, Nat.reduceMod, Int.reduceToNat, Int.reduceNeg, Int.reduceAdd, Int.reduceSub, Int.reduceMul, Int.reduceEq, Int.reduceNe, Int.reduceLT, Int.reduceLE, Int.reduceGT, Int.reduceGE], by simp -implicitDefEqProofs (maxSteps := 1000000) (disch := omega) only [↓xsP, ↓vc_seq, xsQ, xsT, xsR, tch, tOf, idsOf, storeE, eqA, fitC, fitL, eqCells, eqL, isNilS, absL, loadA, storeA, fieldAddrA, lenA, sliceA, boundA, buildA, placesOf, overw, buildSliceA, makeSliceA, clearA, unA, convA, extractA, fieldA, indexA, nilChk, capsA, retA, retA1, retL, rowOf, srcRows, gslot, Value.oneCell', ↓reduceIte, reduceCtorEq, eq_self, ne_eq, imp_self, forall_const, Nat.reduceEqDiff, Nat.reduceAdd, Nat.reduceSub, Nat.reduceMul, Nat.reduceLT, Nat.reduceLeDiff, Nat.reduceBEq, Nat.reduceDiv, Nat.reduceMod, Int.reduceToNat, Int.reduceNeg, Int.reduceAdd, Int.reduceSub, Int.reduceMul, Int.reduceEq, Int.reduceNe, Int.reduceLT, Int.reduceLE, Int.reduceGT, Int.reduceGE, g55], by simp -implicitDefEqProofs (maxSteps := 1000000) (disch := omega) only [↓xsP, ↓vc_seq, xsQ, xsT, xsR, tch, tOf, idsOf, storeE, eqA, fitC, fitL, eqCells, eqL, isNilS, absL, loadA, storeA, fieldAddrA, lenA, sliceA, boundA, buildA, placesOf, overw, buildSliceA, makeSliceA, clearA, unA, convA, extractA, fieldA, indexA, nilChk, capsA, retA, retA1, retL, rowOf, srcRows, gslot, Value.oneCell', ↓reduceIte, reduceCtorEq, eq_self, ne_eq, imp_self, forall_const, Nat.reduceEqDiff, Nat.reduceAdd, Nat.reduceSub, Nat.reduceMul, Nat.reduceLT, Nat.reduceLeDiff, Nat.reduceBEq, Nat.reduceDiv, Nat.reduceMod, Int.reduceToNat, Int.reduceNeg, Int.reduceAdd, Int.reduceSub, Int.reduceMul, Int.reduceEq, Int.reduceNe, Int.reduceLT, Int.reduceLE, Int.reduceGT, Int.reduceGE, g56], by simp -implicitDefEqProofs (maxSteps := 1000000) (disch := omega) only [↓xsP, ↓vc_seq, xsQ, xsT, xsR, tch, tOf, idsOf, storeE, eqA, fitC, fitL, eqCells, eqL, isNilS, absL, loadA, storeA, fieldAddrA, lenA, sliceA, boundA, buildA, placesOf, overw, buildSliceA, makeSliceA, clearA, unA, convA, extractA, fieldA, indexA, nilChk, capsA, retA, retA1, retL, rowOf, srcRows, gslot, Value.oneCell', ↓reduceIte, reduceCtorEq, eq_self, ne_eq, imp_self, forall_const, Nat.reduceEqDiff, Nat.reduceAdd, Nat.reduceSub, Nat.reduceMul, Nat.reduceLT, Nat.reduceLeDiff, Nat.reduceBEq, Nat.reduceDiv, Nat.reduceMod, Int.reduceToNat, Int.reduceNeg, Int.reduceAdd, Int.reduceSub, Int.reduceMul, Int.reduceEq, Int.reduceNe, Int.reduceLT, Int.reduceLE, Int.reduceGT, Int.reduceGE], by simp -implicitDefEqProofs (maxSteps := 1000000) (disch := omega) only [↓xsP, ↓vc_seq, xsQ, xsT, xsR, tch, tOf, idsOf, storeE, eqA, fitC, fitL, eqCells, eqL, isNilS, absL, loadA, storeA, fieldAddrA, lenA, sliceA, boundA, buildA, placesOf, overw, buildSliceA, makeSliceA, clearA, unA, convA, extractA, fieldA, indexA, nilChk, capsA, retA, retA1, retL, rowOf, srcRows, gslot, Value.oneCell', ↓reduceIte, reduceCtorEq, eq_self, ne_eq, imp_self, forall_const, Nat.reduceEqDiff, Nat.reduceAdd, Nat.reduceSub, Nat.reduceMul, Nat.reduceLT, Nat.reduceLeDiff, Nat.reduceBEq, Nat.reduceDiv, Nat.reduceMod, Int.reduceToNat, Int.reduceNeg, Int.reduceAdd, Int.reduceSub, Int.reduceMul, Int.reduceEq, Int.reduceNe, Int.reduceLT, Int.reduceLE, Int.reduceGT, Int.reduceGE, Int.cast_ofNat_Int], rfl⟩
      · clear g2 g3 g55 g56
        rintro k fr N' ⟨j, hj, rfl, g2, g3, g5, g55, g56, g77, g78, rfl⟩
        simp -implicitDefEqProofs (maxSteps := 1000000) (disch := omega) only [↓xsP, ↓vc_seq, xsQ, xsT, xsR, tch, tOf, idsOf, storeE, eqA, fitC, fitL, eqCells, eqL, isNilS, absL, loadA, storeA, fieldAddrA, lenA, sliceA, boundA, buildA, placesOf, overw, buildSliceA, makeSliceA, clearA, unA, convA, extractA, fieldA, indexA, nilChk, capsA, retA, retA1, retL, rowOf, srcRows, gslot, Value.oneCell', ↓reduceIte, reduceCtorEq, eq_self, ne_eq, imp_self, forall_const, Nat.reduceEqDiff, Nat.reduceAdd, Nat.reduceSub, Nat.reduceMul, Nat.reduceLT, Nat.reduceLeDiff, Nat.reduceBEq, Nat.reduceDiv, Nat.reduceMod, Int.reduceToNat, Int.reduceNeg, Int.reduceAdd, Int.reduceSub, Int.reduceMul, Int.reduceEq, Int.reduceNe, Int.reduceLT, Int.reduceLE, Int.reduceGT, Int.reduceGE, g2, g3, g5, g55, g56, g77, g78]
        refine condI_prop (fun hlt2 => ?_) (fun hlt2 => ?_)
        · have hj' : j < l.length := by omega
          obtain ⟨o, hoo⟩ : ∃ o, l.getD j default = o := ⟨_, rfl⟩
          simp -implicitDefEqProofs (maxSteps := 1000000) (disch := omega) only [↓xsP, ↓vc_seq, xsQ, xsT, xsR, tch, tOf, idsOf, storeE, eqA, fitC, fitL, eqCells, eqL, isNilS, absL, loadA, storeA, fieldAddrA, lenA, sliceA, boundA, buildA, placesOf, overw, buildSliceA, makeSliceA, clearA, unA, convA, extractA, fieldA, indexA, nilChk, capsA, retA, retA1, retL, rowOf, srcRows, gslot, Value.oneCell', ↓reduceIte, reduceCtorEq, eq_self, ne_eq, imp_self, forall_const, Nat.reduceEqDiff, Nat.reduceAdd, Nat.reduceSub, Nat.reduceMul, Nat.reduceLT, Nat.reduceLeDiff, Nat.reduceBEq, Nat.reduceDiv, Nat.reduceMod, Int.reduceToNat, Int.reduceNeg, Int.reduceAdd, Int.reduceSub, Int.reduceMul, Int.reduceEq, Int.reduceNe, Int.reduceLT, Int.reduceLE, Int.reduceGT, Int.reduceGE, g2, g3, g5, g55, g56, g77, g78]
          refine xquiet (by kernel_rfl) (by kernel_rfl) (by kernel_rfl) ?_
          simp -implicitDefEqProofs (maxSteps := 1000000) (disch := omega) only [↓xsP, ↓vc_seq, xsQ, xsT, xsR, tch, tOf, idsOf, storeE, eqA, fitC, fitL, eqCells, eqL, isNilS, absL, loadA, storeA, fieldAddrA, lenA, sliceA, boundA, buildA, placesOf, overw, buildSliceA, makeSliceA, clearA, unA, convA, extractA, fieldA, indexA, nilChk, capsA, retA, retA1, retL, rowOf, srcRows, gslot, Value.oneCell', ↓reduceIte, reduceCtorEq, eq_self, ne_eq, imp_self, forall_const, Nat.reduceEqDiff, Nat.reduceAdd, Nat.reduceSub, Nat.reduceMul, Nat.reduceLT, Nat.reduceLeDiff, Nat.reduceBEq, Nat.reduceDiv, Nat.reduceMod, Int.reduceToNat, Int.reduceNeg, Int.reduceAdd, Int.reduceSub, Int.reduceMul, Int.reduceEq, Int.reduceNe, Int.reduceLT, Int.reduceLE, Int.reduceGT, Int.reduceGE, g2, g3, g5, g55, g56, g77, g78, hMa, hMb, hl, hoo]
          exact ⟨l.length - (j + 1), _, by omega, Mem.le_refl _, j + 1, by omega, rfl, rfl, rfl⟩
        · simp -implicitDefEqProofs (maxSteps := 1000000) (disch := omega) only [↓xsP, ↓vc_seq, xsQ, xsT, xsR, tch, tOf, idsOf, storeE, eqA, fitC, fitL, eqCells, eqL, isNilS, absL, loadA, storeA, fieldAddrA, lenA, sliceA, boundA, buildA, placesOf, overw, buildSliceA, makeSliceA, clearA, unA, convA, extractA, fieldA, indexA, nilChk, capsA, retA, retA1, retL, rowOf, srcRows, gslot, Value.oneCell', ↓reduceIte, reduceCtorEq, eq_self, ne_eq, imp_self, forall_const, Nat.reduceEqDiff, Nat.reduceAdd, Nat.reduceSub, Nat.reduceMul, Nat.reduceLT, Nat.reduceLeDiff, Nat.reduceBEq, Nat.reduceDiv, Nat.reduceMod, Int.reduceToNat, Int.reduceNeg, Int.reduceAdd, Int.reduceSub, Int.reduceMul, Int.reduceEq, Int.reduceNe, Int.reduceLT, Int.reduceLE, Int.reduceGT, Int.reduceGE, g2, g3, g55, g56]
          exact ⟨s.ops.length - (i + 1), _, by omega, Mem.le_refl _, i + 1, by omega, rfl, rfl, rfl⟩
    · simp -implicitDefEqProofs (maxSteps := 1000000) (disch := omega) only [↓xsP, ↓vc_seq, xsQ, xsT, xsR, tch, tOf, idsOf, storeE, eqA, fitC, fitL, eqCells, eqL, isNilS, absL, loadA, storeA, fieldAddrA, lenA, sliceA, boundA, buildA, placesOf, overw, buildSliceA, makeSliceA, clearA, unA, convA, extractA, fieldA, indexA, nilChk, capsA, retA, retA1, retL, rowOf, srcRows, gslot, Value.oneCell', ↓reduceIte, reduceCtorEq, eq_self, ne_eq, imp_self, forall_const, Nat.reduceEqDiff, Nat.reduceAdd, Nat.reduceSub, Nat.reduceMul, Nat.reduceLT, Nat.reduceLeDiff, Nat.reduceBEq, Nat.reduceDiv, Nat.reduceMod, Int.reduceToNat, Int.reduceNeg, Int.reduceAdd, Int.reduceSub, Int.reduceMul, Int.reduceEq, Int.reduceNe, Int.reduceLT, Int.reduceLE, Int.reduceGT, Int.reduceGE, g2, g3, hMa]
      refine loopI_of (xloop (by kernel_rfl) (fun k fr M' => ∃ i : Nat, i ≤ s.picks.length ∧ k = s.picks.length - i ∧ fr 2 = .l (.ptr a 0 0) ∧ fr 3 = .l (.ptr b 0 0) ∧ fr 102 = .l (.int .i64 s.picks.length) ∧ fr 103 = .l (.int .i64 i) ∧ M' = N') s.picks.length ?_ ?_)
      · exact ⟨0, Nat.zero_le _, rfl, by simp -implicitDefEqProofs (maxSteps := 1000000) (disch := omega) only [↓xsP, ↓vc_seq, xsQ, xsT, xsR, tch, tOf, idsOf, storeE, eqA, fitC, fitL, eqCells, eqL, isNilS, absL, loadA, storeA, fieldAddrA, lenA, sliceA, boundA, buildA, placesOf, overw, buildSliceA, makeSliceA, clearA, unA, convA, extractA, fieldA, indexA, nilChk, capsA, retA, retA1, retL, rowOf, srcRows, gslot, Value.oneCell', ↓reduceIte, reduceCtorEq, eq_self, ne_eq, imp_self, forall_const, Nat.reduceEqDiff, Nat.reduceAdd, Nat.reduceSub, Nat.reduceMul, Nat.reduceLT, Nat.reduceLeDiff, Nat.reduceBEq, Nat.reduceDiv, Nat.reduceMod, Int.reduceToNat, Int.reduceNeg, Int.reduceAdd, Int.reduceSub, Int.reduceMul, Int.reduceEq, Int.reduceNe, Int.reduceLT, Int.reduceLE, Int.reduceGT, Int.reduceGE, g2], by simp -implicitDefEqProofs (maxSteps := 1000000) (disch := omega) only [↓xsP, ↓vc_seq, xsQ, xsT, xsR, tch, tOf, idsOf, storeE, eqA, fitC, fitL, eqCells, eqL, isNilS, absL, loadA, storeA, fieldAddrA, lenA, sliceA, boundA, buildA, placesOf, overw, buildSliceA, makeSliceA, clearA, unA, convA, extractA, fieldA, indexA, nilChk, capsA, retA, retA1, retL, rowOf, srcRows, gslot, Value.oneCell', ↓reduceIte, reduceCtorEq, eq_self, ne_eq, imp_self, forall_const, Nat.reduceEqDiff, Nat.reduceAdd, Nat.reduceSub, Nat.reduceMul, Nat.reduceLT, Nat.reduceLeDiff, Nat.reduceBEq, Nat.reduceDiv, Nat.reduceMod, Int.reduceToNat, Int.reduceNeg, Int.reduceAdd, Int.reduceSub, Int.reduceMul, Int.reduceEq, Int.reduceNe, Int.reduceLT, Int.reduceLE, Int.reduceGT, Int.reduceGE, g3], by simp -implicitDefEqProofs (maxSteps := 1000000) (disch := omega) only [↓xsP, ↓vc_seq, xsQ, xsT, xsR, tch, tOf, idsOf, storeE, eqA, fitC, fitL, eqCells, eqL, isNilS, absL, loadA, storeA, fieldAddrA, lenA, sliceA, boundA, buildA, placesOf, overw, buildSliceA, makeSliceA, clearA, unA, convA, extractA, fieldA, indexA, nilChk, capsA, retA, retA1, retL, rowOf, srcRows, gslot, Value.oneCell', ↓reduceIte, reduceCtorEq, eq_self, ne_eq, imp_self, forall_const, Nat.reduceEqDiff, Nat.reduceAdd, Nat.reduceSub, Nat.reduceMul, Nat.reduceLT, Nat.reduceLeDiff, Nat.reduceBEq, Nat.reduceDiv, Nat.reduceMod, Int.reduceToNat, Int.reduceNeg, Int.reduceAdd, Int.reduceSub, Int.reduceMul, Int.reduceEq, Int.reduceNe, Int.reduceLT, Int.reduceLE, Int.reduceGT, Int.reduceGE], by simp -implicitDefEqProofs (maxSteps := 1000000) (disch := omega) only [↓xsP, ↓vc_seq, xsQ, xsT, xsR, tch, tOf, idsOf, storeE, eqA, fitC, fitL, eqCells, eqL, isNilS, absL, loadA, storeA, fieldAddrA, lenA, sliceA, boundA, buildA, placesOf, overw, buildSliceA, makeSliceA, clearA, unA, convA, extractA, fieldA, indexA, nilChk, capsA, retA, retA1, retL, rowOf, srcRows, gslot, Value.oneCell', ↓reduceIte, reduceCtorEq, eq_self, ne_eq, imp_self, forall_const, Nat.reduceEqDiff, Nat.reduceAdd, Nat.reduceSub, Nat.reduceMul, Nat.reduceLT, Nat.reduceLeDiff, Nat.reduceBEq, Nat.reduceDiv, Nat.reduceMod, Int.reduceToNat, Int.reduceNeg, Int.reduceAdd, Int.reduceSub, Int.reduceMul, Int.reduceEq, Int.reduceNe, Int.reduceLT, Int.reduceLE, Int.reduceGT, Int.reduceGE, Int.cast_ofNat_Int], rfl⟩
      · clear g2 g3 g55 g56
        rintro k fr N' ⟨i, hi, rfl, g2, g3, g102, g103, rfl⟩
        simp -implicitDefEqProofs (maxSteps := 1000000) (disch := omega) only [↓xsP, ↓vc_seq, xsQ, xsT, xsR, tch, tOf, idsOf, storeE, eqA, fitC, fitL, eqCells, eqL, isNilS, absL, loadA, storeA, fieldAddrA, lenA, sliceA, boundA, buildA, placesOf, overw, buildSliceA, makeSliceA, clearA, unA, convA, extractA, fieldA, indexA, nilChk, capsA, retA, retA1, retL, rowOf, srcRows, gslot, Value.oneCell', ↓reduceIte, reduceCtorEq, eq_self, ne_eq, imp_self, forall_const, Nat.reduceEqDiff, Nat.reduceAdd, Nat.reduceSub, Nat.reduceMul, Nat.reduceLT, Nat.reduceLeDiff, Nat.reduceBEq, Nat.reduceDiv, Nat.reduceMod, Int.reduceToNat, Int.reduceNeg, Int.reduceAdd, Int.reduceSub, Int.reduceMul, Int.reduceEq, Int.reduceNe, Int.reduceLT, Int.reduceLE, Int.reduceGT, Int.reduceGE, g2, g3, g102, g103]
        refine condI_prop (fun hlt => ?_) (fun hlt => ?_)
        · have hi' : i < s.picks.length := by omega
          simp -implicitDefEqProofs (maxSteps := 1000000) (disch := omega) only [↓xsP, ↓vc_seq, xsQ, xsT, xsR, tch, tOf, idsOf, storeE, eqA, fitC, fitL, eqCells, eqL, isNilS, absL, loadA, storeA, fieldAddrA, lenA, sliceA, boundA, buildA, placesOf, overw, buildSliceA, makeSliceA, clearA, unA, convA, extractA, fieldA, indexA, nilChk, capsA, retA, retA1, retL, rowOf, srcRows, gslot, Value.oneCell', ↓reduceIte, reduceCtorEq, eq_self, ne_eq, imp_self, forall_const, Nat.reduceEqDiff, Nat.reduceAdd, Nat.reduceSub, Nat.reduceMul, Nat.reduceLT, Nat.reduceLeDiff, Nat.reduceBEq, Nat.reduceDiv, Nat.reduceMod, Int.reduceToNat, Int.reduceNeg, Int.reduceAdd, Int.reduceSub, Int.reduceMul, Int.reduceEq, Int.reduceNe, Int.reduceLT, Int.reduceLE, Int.reduceGT, Int.reduceGE, g2, g3, g102, g103]
          refine xquiet (by kernel_rfl) (by kernel_rfl) (by kernel_rfl) ?_
          simp -implicitDefEqProofs (maxSteps := 1000000) (disch := omega) only [↓xsP, ↓vc_seq, xsQ, xsT, xsR, tch, tOf, idsOf, storeE, eqA, fitC, fitL, eqCells, eqL, isNilS, absL, loadA, storeA, fieldAddrA, lenA, sliceA, boundA, buildA, placesOf, overw, buildSliceA, makeSliceA, clearA, unA, convA, extractA, fieldA, indexA, nilChk, capsA, retA, retA1, retL, rowOf, srcRows, gslot, Value.oneCell', ↓reduceIte, reduceCtorEq, eq_self, ne_eq, imp_self, forall_const, Nat.reduceEqDiff, Nat.reduceAdd, Nat.reduceSub, Nat.reduceMul, Nat.reduceLT, Nat.reduceLeDiff, Nat.reduceBEq, Nat.reduceDiv, Nat.reduceMod, Int.reduceToNat, Int.reduceNeg, Int.reduceAdd, Int.reduceSub, Int.reduceMul, Int.reduceEq, Int.reduceNe, Int.reduceLT, Int.reduceLE, Int.reduceGT, Int.reduceGE, g2, g3, g102, g103, hMa, hMb]
          exact ⟨s.picks.length - (i + 1), _, by omega, Mem.le_refl _, i + 1, by omega, rfl, rfl, rfl⟩
        · simp -implicitDefEqProofs (maxSteps := 1000000) (disch := omega) only [↓xsP, ↓vc_seq, xsQ, xsT, xsR, tch, tOf, idsOf, storeE, eqA, fitC, fitL, eqCells, eqL, isNilS, absL, loadA, storeA, fieldAddrA, lenA, sliceA, boundA, buildA, placesOf, overw, buildSliceA, makeSliceA, clearA, unA, convA, extractA, fieldA, indexA, nilChk, capsA, retA, retA1, retL, rowOf, srcRows, gslot, Value.oneCell', ↓reduceIte, reduceCtorEq, eq_self, ne_eq, imp_self, forall_const, Nat.reduceEqDiff, Nat.reduceAdd, Nat.reduceSub, Nat.reduceMul, Nat.reduceLT, Nat.reduceLeDiff, Nat.reduceBEq, Nat.reduceDiv, Nat.reduceMod, Int.reduceToNat, Int.reduceNeg, Int.reduceAdd, Int.reduceSub, Int.reduceMul, Int.reduceEq, Int.reduceNe, Int.reduceLT, Int.reduceLE, Int.reduceGT, Int.reduceGE]
          exact fin_ok hle ⟨rfl, rfl⟩
end Go.X

/- Scripts: what script.Clean does. -/

set_option linter.unusedVariables false
set_option linter.unusedSimpArgs false
set_option maxHeartbeats 20000000
set_option maxRecDepth 100000
namespace Go.X
open Go.Proofs.Try (prog)

/-- Rows that are being made by append: the slice and the memory. -/
def OutR (e : TypeId) (M : Mem) (v : Lf) (M' : Mem) (rows : List (List Lf)) : Prop :=
  (rows = [] ∧ v = .nils ∧ M' = M) ∨ ∃ idO, (∀ j, idO ≤ j → M j = none) ∧ v = .ms idO 0 rows.length ∧ M' = M.set idO (.cells e rows 0)
theorem OutR.nil (e : TypeId) (M : Mem) : OutR e M .nils M [] := .inl ⟨rfl, rfl, rfl⟩
theorem OutR.base {e : TypeId} {M M' : Mem} {v : Lf} {rows : List (List Lf)} (h : OutR e M v M' rows) : M.le M' := by
  rcases h with ⟨_, _, rfl⟩ | ⟨idO, hO, _, rfl⟩
  · exact Mem.le_refl _
  · exact le_new (Mem.le_refl _) hO
/-- One row more. -/
theorem app_outR {e t : TypeId} {ti te : TI} (hti : tiOf Go.Proofs.Try.prog t = some ti) (hd : ti.d = .slice e) (hte : tiOf Go.Proofs.Try.prog e = some te) (hz : zeroFits Go.Proofs.Try.prog e = true) (hsz : 0 < te.size) (hby : te.bytes ≤ 128)
    {M M' N : Mem} {v : Lf} {rows : List (List Lf)} {r : List Lf} {pb : Nat} (hr : r.length = te.size) (h : OutR e M v M' rows) (hle : M'.le N) (hb : ∀ j, pb ≤ j → N j = none) (hlen : rows.length ≤ 1000001) {K : AV → Mem → Prop}
    (hc : ∀ v' N' M2, OutR e M v' M2 (rows ++ [r]) → M2.le N' → (∀ k bk, N k = some bk → M' k = none → N' k = some bk) → K (.l v') N') :
    @appI Go.Proofs.Try.prog (N.set pb (.cells e [r] 0)) t t (.l v) (.l (.ms pb 0 1)) ⟨K⟩ := by
  have hMM := h.base
  have hsrc : ∀ X : Mem, srcRows Go.Proofs.Try.prog (X.set pb (.cells e [r] 0)) t t e te (.l (.ms pb 0 1)) = some [r] := fun X => by
    simp [srcRows, Mem.set_eq]
  rcases h with ⟨rfl, rfl, rfl⟩ | ⟨idO, hO, rfl, rfl⟩
  · refine app_nils _ _ _ _ e _ _ hti hd hte hz hsz _ [r] (hsrc _) ?_ ?_ ?_ ?_
    · simp; omega
    · simp
    · simp
    · intro _ idA hidA
      obtain ⟨hbA, hA⟩ := bnd_new hidA
      have hM := le_none hle hA
      refine hc _ _ _ (.inr ⟨idA, hM, rfl, rfl⟩) (le_seti (Mem.set_eq _ _ _) fun k bk hk hh => ?_) fun k bk hk _ => ?_
      · have h1 := hle _ _ hh
        have := lt_of_bnd hb h1
        have := lt_of_bnd hA h1
        rw [Mem.set_ne _ _ _ _ (by omega), Mem.set_ne _ _ _ _ (by omega)]
        exact h1
      · have := lt_of_bnd hb hk
        have := lt_of_bnd hA hk
        rw [Mem.set_ne _ _ _ _ (by omega), Mem.set_ne _ _ _ _ (by omega)]
        exact hk
  · have hNO : N idO = some (.cells e rows 0) := hle _ _ (Mem.set_eq _ _ _)
    have hOb := lt_of_bnd hb hNO
    refine app_ms _ _ _ _ e _ _ hti hd hte hz hsz idO rows.length _ (rows := rows) (keep := 0) [r] ?_ (hsrc _) (Nat.le_refl _) (Nat.zero_le _) ?_ ?_ ?_
    · rw [Mem.set_ne _ _ _ _ (by omega)]; exact hNO
    · have h1 : (rows.length + [r].length) * te.bytes ≤ 1000002 * 128 := Nat.mul_le_mul (by simp; omega) hby
      omega
    · simp
      omega
    · intro idA hidA
      obtain ⟨hbA, hA⟩ := bnd_new hidA
      have hM := le_none hMM (le_none hle hA)
      have hOA := lt_of_bnd hA hNO
      refine hc _ _ _ (.inr ⟨idA, hM, by simp, rfl⟩) (le_seti ?_ fun k bk hk hh => ?_) fun k bk hk hn => ?_
      · rw [Mem.set_eq, List.take_of_length_le (Nat.le_refl _)]
      · have h0 := lt_of_bnd hO hh
        have h1 := hle _ _ (hMM _ _ hh)
        have := lt_of_bnd hb h1
        have := lt_of_bnd hA h1
        rw [Mem.set_ne _ _ _ _ (by omega), Mem.del_ne _ _ _ (by omega), Mem.set_ne _ _ _ _ (by omega)]
        exact h1
      · have hne : idO ≠ k := fun e => by subst e; rw [Mem.set_eq] at hn; cases hn
        have := lt_of_bnd hb hk
        have := lt_of_bnd hA hk
        rw [Mem.set_ne _ _ _ _ (by omega), Mem.del_ne _ _ _ hne, Mem.set_ne _ _ _ _ (by omega)]
        exact hk

theorem wapp_nilR {P : Program} {M : Mem} {nid : Nat} {t tx e : TypeId} {ti te : TI} (hti : tiOf P t = some ti) (hd : ti.d = .slice e) (hte : tiOf P e = some te) (hz : zeroFits P e = true) (hpos : 0 < te.size) {x : AV} (src : List (List Lf)) (hsrc : srcRows P M t tx e te x = some src) (hne : src ≠ [])
    (hb : src.length * te.bytes ≤ 140737488355328) (hb' : src.length ≤ 140737488355328) {C : AV → Eff → Prop} (h : C (.l (.ms nid 0 src.length)) [(nid, some (.cells e src 0))]) : @wappI P M nid t tx (.l .nils) x ⟨C⟩ := by
  show wapp P M nid t tx (.l .nils) x C
  unfold wapp
  simp only [hti, hd, hte, hsrc, optK]
  exact ⟨hz, hpos, fun h => absurd h hne, fun _ => ⟨hb, hb', h⟩⟩
/-- What the rows lie in is written at another block. -/
theorem OutR.turn {e : TypeId} {B M2 N : Mem} {c : Nat} {X X' : Blk} {v : Lf} {rows : List (List Lf)} (h : OutR e (B.set c X) v M2 rows) (hle : M2.le N) : ∃ M3, OutR e (B.set c X') v M3 rows ∧ M3.le (N.set c X') := by
  have key : ∀ k bk, k ≠ c → B k = some bk → N k = some bk := fun k bk hk hb => by
    refine hle _ _ (h.base _ _ ?_)
    rw [Mem.set_ne _ _ _ _ (fun e => hk e.symm)]; exact hb
  rcases h with ⟨h1, h2, h3⟩ | ⟨idO, hO, h2, rfl⟩
  · refine ⟨B.set c X', .inl ⟨h1, h2, rfl⟩, fun k bk hk => ?_⟩
    rw [Mem.set_app] at hk ⊢
    by_cases hc : c = k
    · rw [if_pos hc] at hk ⊢; exact hk
    · rw [if_neg hc] at hk ⊢; exact key k bk (fun e => hc e.symm) hk
  · have hcO := lt_of_bnd hO (Mem.set_eq B c X)
    refine ⟨(B.set c X').set idO (.cells e rows 0), .inr ⟨idO, fun j hj => ?_, h2, rfl⟩, fun k bk hk => ?_⟩
    · have := hO j hj
      rw [Mem.set_ne _ _ _ _ (by omega)] at this ⊢
      exact this
    · by_cases hk0 : k = idO
      · subst hk0
        rw [Mem.set_eq] at hk
        rw [Mem.set_ne _ _ _ _ (by omega)]
        rw [← hk]
        exact hle _ _ (Mem.set_eq _ _ _)
      · rw [Mem.set_ne _ _ _ _ (fun e => hk0 e.symm)] at hk
        rw [Mem.set_app] at hk ⊢
        by_cases hc : c = k
        · rw [if_pos hc] at hk ⊢; exact hk
        · rw [if_neg hc] at hk ⊢; exact key k bk (fun e => hc e.symm) hk
theorem OutR.wk {e : TypeId} {M M' : Mem} {v : Lf} {rows : List (List Lf)} (h : OutR e M v M' rows) : ∃ M'', OutR e M v M'' (rows.map fun r => r.map wkL) ∧ GStep M' M'' := by
  rcases h with ⟨rfl, h2, rfl⟩ | ⟨idO, hO, h2, rfl⟩
  · exact ⟨M', .inl ⟨rfl, h2, rfl⟩, GStep.le (Mem.le_refl _)⟩
  · refine ⟨M.set idO (.cells e (rows.map fun r => r.map wkL) 0), .inr ⟨idO, hO, by simpa using h2, rfl⟩, ?_⟩
    have := GStep.wk (Mem.set_eq M idO (.cells e rows 0))
    rwa [Mem.set_set] at this
theorem Mem.set_self {M : Mem} {id : Nat} {b : Blk} (h : M id = some b) : M.set id b = M := by
  funext k
  rw [Mem.set_app]
  by_cases e : id = k
  · rw [if_pos e, ← e, h]
  · rw [if_neg e]
def crow (T C : Int) (p : Pol) (bg : List Pr) (x y : Lf) : List Lf := [.int .i64 T, .int .i64 C, .int .i64 p.high, .int .i64 p.low, .int .i64 p.cont, .int .i64 p.unc, .int .i64 p.multi, .sl (bg.map Pr.row), x, y]
theorem wk_oprow (L : List (List Opn)) : (L.map oprow).map (fun r => r.map wkL) = L.map oprow := by
  rw [List.map_map]
  exact List.map_congr_left fun l _ => rfl
def cleanRow (l : List Opn) : List Opn := (l.filter mayOpB).take 60
def thrN (s : Scr) : Nat := (min (max s.threads 1) 6).toNat
def rowsN (s : Scr) (n : Nat) : List (List Opn) := (List.range n).map fun t => cleanRow (s.ops.getD t [])
noncomputable def cleanS (s : Scr) : Scr := ⟨thrN s, min (max s.cells 0) 60000, clampP s.pol, (putL s.beg).take 200, rowsN s (thrN s), (s.picks.take 100000).map fun n => modI n (thrN s)⟩
theorem thrN_le (s : Scr) : 1 ≤ thrN s ∧ thrN s ≤ 6 := by unfold thrN; omega
theorem rowsN_succ (s : Scr) (n : Nat) : rowsN s (n + 1) = rowsN s n ++ [cleanRow (s.ops.getD n [])] := by simp [rowsN, List.range_succ]
theorem staysO_notB (l : List Opn) : staysO notB l = l.filter mayOpB := by simp [staysO, notB]
theorem mm_max (a b : Int) : (if a > b then a else b) = max b a := by omega
theorem mm_min (a b : Int) : (if a < b then a else b) = min b a := by omega
theorem clean_spec (s : Scr) (hs : SmS s) (M : Mem) : XCalls Go.Proofs.Try.prog 13 [.agg s.row] M fun r M' => r = .agg (cleanS s).row ∧ M' = M := by
  refine xcalls_intro (rs := [.cell 2 28]) Go.Proofs.Try.func13 rfl (by kernel_rfl) rfl rfl (by kernel_rfl) (by simp) ?_
  have hb := hs.beg
  have ho := hs.ops
  have hp := hs.picks
  have hpl := putL_len s.beg
  have hT := thrN_le s
  simp -implicitDefEqProofs (maxSteps := 1000000) (disch := omega) only [↓xsP, ↓vc_seq, xsQ, xsT, xsR, tch, tOf, idsOf, storeE, eqA, fitC, fitL, eqCells, eqL, isNilS, absL, loadA, storeA, fieldAddrA, lenA, sliceA, boundA, buildA, placesOf, overw, buildSliceA, makeSliceA, clearA, unA, convA, extractA, fieldA, indexA, nilChk, capsA, retA, retA1, retL, rowOf, srcRows, gslot, Value.oneCell', ↓reduceIte, reduceCtorEq, eq_self, ne_eq, imp_self, forall_const, Nat.reduceEqDiff, Nat.reduceAdd, Nat.reduceSub, Nat.reduceMul, Nat.reduceLT, Nat.reduceLeDiff, Nat.reduceBEq, Nat.reduceDiv, Nat.reduceMod, Int.reduceToNat, Int.reduceNeg, Int.reduceAdd, Int.reduceSub, Int.reduceMul, Int.reduceEq, Int.reduceNe, Int.reduceLT, Int.reduceLE, Int.reduceGT, Int.reduceGE]
  refine newI_intro fun a ha => ?_
  simp -implicitDefEqProofs (maxSteps := 1000000) (disch := omega) only [↓xsP, ↓vc_seq, xsQ, xsT, xsR, tch, tOf, idsOf, storeE, eqA, fitC, fitL, eqCells, eqL, isNilS, absL, loadA, storeA, fieldAddrA, lenA, sliceA, boundA, buildA, placesOf, overw, buildSliceA, makeSliceA, clearA, unA, convA, extractA, fieldA, indexA, nilChk, capsA, retA, retA1, retL, rowOf, srcRows, gslot, Value.oneCell', ↓reduceIte, reduceCtorEq, eq_self, ne_eq, imp_self, forall_const, Nat.reduceEqDiff, Nat.reduceAdd, Nat.reduceSub, Nat.reduceMul, Nat.reduceLT, Nat.reduceLeDiff, Nat.reduceBEq, Nat.reduceDiv, Nat.reduceMod, Int.reduceToNat, Int.reduceNeg, Int.reduceAdd, Int.reduceSub, Int.reduceMul, Int.reduceEq, Int.reduceNe, Int.reduceLT, Int.reduceLE, Int.reduceGT, Int.reduceGE]
  refine newI_intro fun b hb2 => ?_
  obtain ⟨hab, hb2'⟩ := bnd_new hb2
  simp -implicitDefEqProofs (maxSteps := 1000000) (disch := omega) only [↓xsP, ↓vc_seq, xsQ, xsT, xsR, tch, tOf, idsOf, storeE, eqA, fitC, fitL, eqCells, eqL, isNilS, absL, loadA, storeA, fieldAddrA, lenA, sliceA, boundA, buildA, placesOf, overw, buildSliceA, makeSliceA, clearA, unA, convA, extractA, fieldA, indexA, nilChk, capsA, retA, retA1, retL, rowOf, srcRows, gslot, Value.oneCell', ↓reduceIte, reduceCtorEq, eq_self, ne_eq, imp_self, forall_const, Nat.reduceEqDiff, Nat.reduceAdd, Nat.reduceSub, Nat.reduceMul, Nat.reduceLT, Nat.reduceLeDiff, Nat.reduceBEq, Nat.reduceDiv, Nat.reduceMod, Int.reduceToNat, Int.reduceNeg, Int.reduceAdd, Int.reduceSub, Int.reduceMul, Int.reduceEq, Int.reduceNe, Int.reduceLT, Int.reduceLE, Int.reduceGT, Int.reduceGE]
  refine xwrite (fun n0 => [ (18, n0 + 17)]) [18] [17] [[], [], [], [], [], [], [], [], [], [], [], [], [], [], [], [], [], [], []] (by kernel_rfl) (by kernel_rfl) (by kernel_rfl) (by kernel_rfl) (fun n0 hn0 => ⟨rfl, ?_, ?_⟩)
  · exact TOk_cons (.inr ⟨17, by decide, by decide, rfl⟩) (TOk_nil _ _)
  · obtain ⟨hbn, hn0'⟩ := bnd_new hn0
    obtain ⟨han, hn0''⟩ := bnd_new hn0'
    simp -implicitDefEqProofs (maxSteps := 1000000) (disch := omega) only [↓xsP, ↓vc_seq, xsQ, xsT, xsR, tch, tOf, idsOf, storeE, eqA, fitC, fitL, eqCells, eqL, isNilS, absL, loadA, storeA, fieldAddrA, lenA, sliceA, boundA, buildA, placesOf, overw, buildSliceA, makeSliceA, clearA, unA, convA, extractA, fieldA, indexA, nilChk, capsA, retA, retA1, retL, rowOf, srcRows, gslot, Value.oneCell', ↓reduceIte, reduceCtorEq, eq_self, ne_eq, imp_self, forall_const, Nat.reduceEqDiff, Nat.reduceAdd, Nat.reduceSub, Nat.reduceMul, Nat.reduceLT, Nat.reduceLeDiff, Nat.reduceBEq, Nat.reduceDiv, Nat.reduceMod, Int.reduceToNat, Int.reduceNeg, Int.reduceAdd, Int.reduceSub, Int.reduceMul, Int.reduceEq, Int.reduceNe, Int.reduceLT, Int.reduceLE, Int.reduceGT, Int.reduceGE]
    refine wcallI_of (fun M' _ => clamp_spec s.pol M') ?_
    simp -implicitDefEqProofs (maxSteps := 1000000) (disch := omega) only [↓xsP, ↓vc_seq, xsQ, xsT, xsR, tch, tOf, idsOf, storeE, eqA, fitC, fitL, eqCells, eqL, isNilS, absL, loadA, storeA, fieldAddrA, lenA, sliceA, boundA, buildA, placesOf, overw, buildSliceA, makeSliceA, clearA, unA, convA, extractA, fieldA, indexA, nilChk, capsA, retA, retA1, retL, rowOf, srcRows, gslot, Value.oneCell', ↓reduceIte, reduceCtorEq, eq_self, ne_eq, imp_self, forall_const, Nat.reduceEqDiff, Nat.reduceAdd, Nat.reduceSub, Nat.reduceMul, Nat.reduceLT, Nat.reduceLeDiff, Nat.reduceBEq, Nat.reduceDiv, Nat.reduceMod, Int.reduceToNat, Int.reduceNeg, Int.reduceAdd, Int.reduceSub, Int.reduceMul, Int.reduceEq, Int.reduceNe, Int.reduceLT, Int.reduceLE, Int.reduceGT, Int.reduceGE]
    refine wcallI_of (fun M' _ => new_rp s.beg (by omega) M') ?_
    simp -implicitDefEqProofs (maxSteps := 1000000) (disch := omega) only [↓xsP, ↓vc_seq, xsQ, xsT, xsR, tch, tOf, idsOf, storeE, eqA, fitC, fitL, eqCells, eqL, isNilS, absL, loadA, storeA, fieldAddrA, lenA, sliceA, boundA, buildA, placesOf, overw, buildSliceA, makeSliceA, clearA, unA, convA, extractA, fieldA, indexA, nilChk, capsA, retA, retA1, retL, rowOf, srcRows, gslot, Value.oneCell', ↓reduceIte, reduceCtorEq, eq_self, ne_eq, imp_self, forall_const, Nat.reduceEqDiff, Nat.reduceAdd, Nat.reduceSub, Nat.reduceMul, Nat.reduceLT, Nat.reduceLeDiff, Nat.reduceBEq, Nat.reduceDiv, Nat.reduceMod, Int.reduceToNat, Int.reduceNeg, Int.reduceAdd, Int.reduceSub, Int.reduceMul, Int.reduceEq, Int.reduceNe, Int.reduceLT, Int.reduceLE, Int.reduceGT, Int.reduceGE]
    refine wcallI_of (fun M' _ => pairs_rp (putL s.beg) (by omega) M') ?_
    simp -implicitDefEqProofs (maxSteps := 1000000) (disch := omega) only [↓xsP, ↓vc_seq, xsQ, xsT, xsR, tch, tOf, idsOf, storeE, eqA, fitC, fitL, eqCells, eqL, isNilS, absL, loadA, storeA, fieldAddrA, lenA, sliceA, boundA, buildA, placesOf, overw, buildSliceA, makeSliceA, clearA, unA, convA, extractA, fieldA, indexA, nilChk, capsA, retA, retA1, retL, rowOf, srcRows, gslot, Value.oneCell', ↓reduceIte, reduceCtorEq, eq_self, ne_eq, imp_self, forall_const, Nat.reduceEqDiff, Nat.reduceAdd, Nat.reduceSub, Nat.reduceMul, Nat.reduceLT, Nat.reduceLeDiff, Nat.reduceBEq, Nat.reduceDiv, Nat.reduceMod, Int.reduceToNat, Int.reduceNeg, Int.reduceAdd, Int.reduceSub, Int.reduceMul, Int.reduceEq, Int.reduceNe, Int.reduceLT, Int.reduceLE, Int.reduceGT, Int.reduceGE]
    refine wcallI_of (fun M' _ => firstP_spec (putL s.beg) 200 M') ?_
    simp -implicitDefEqProofs (maxSteps := 1000000) (disch := omega) only [↓xsP, ↓vc_seq, xsQ, xsT, xsR, tch, tOf, idsOf, storeE, eqA, fitC, fitL, eqCells, eqL, isNilS, absL, loadA, storeA, fieldAddrA, lenA, sliceA, boundA, buildA, placesOf, overw, buildSliceA, makeSliceA, clearA, unA, convA, extractA, fieldA, indexA, nilChk, capsA, retA, retA1, retL, rowOf, srcRows, gslot, Value.oneCell', ↓reduceIte, reduceCtorEq, eq_self, ne_eq, imp_self, forall_const, Nat.reduceEqDiff, Nat.reduceAdd, Nat.reduceSub, Nat.reduceMul, Nat.reduceLT, Nat.reduceLeDiff, Nat.reduceBEq, Nat.reduceDiv, Nat.reduceMod, Int.reduceToNat, Int.reduceNeg, Int.reduceAdd, Int.reduceSub, Int.reduceMul, Int.reduceEq, Int.reduceNe, Int.reduceLT, Int.reduceLE, Int.reduceGT, Int.reduceGE, mm_max, mm_min]
    refine ⟨.inl (by decide), ?_⟩
    have hTT : min (max s.threads 1) 6 = ((thrN s : Nat) : Int) := by unfold thrN; omega
    rw [hTT]
    generalize hbg : (putL s.beg).take 200 = bg
    generalize hC : min (max s.cells 0) 60000 = C
    generalize hpol : clampP s.pol = pol
    generalize hTn : thrN s = T at hT ⊢
    generalize hc : n0 + 17 = c
    have hB : ∀ B : Mem, (M.set a (.cells 28 [s.row] 0)).set b (.cells 28 [[.int .i64 0, .int .i64 0, .int .i64 0, .int .i64 0, .int .i64 0, .int .i64 0, .int .i64 0, .nils, .nils, .nils]] 0) = B → B a = some (.cells 28 [s.row] 0) ∧ B b = some (.cells 28 [[.int .i64 0, .int .i64 0, .int .i64 0, .int .i64 0, .int .i64 0, .int .i64 0, .int .i64 0, .nils, .nils, .nils]] 0) ∧ M.le B := by
      rintro B rfl
      exact ⟨by simp (disch := omega) only [Mem.set_ne, Mem.set_eq], Mem.set_eq _ _ _, le_new (le_new (Mem.le_refl _) ha) hb2'⟩
    rw [row_scr] at hB
    generalize (M.set a _).set b _ = B at hB hn0 ⊢
    obtain ⟨hBa, hBb, hMB⟩ := hB B rfl
    clear hB
    have hcB : ∀ j, c ≤ j → B j = none := fun j hj => hn0 j (by omega)
    have hac : a < c := by omega
    have hbc : b < c := by omega
    refine xloopG (by kernel_rfl) (fun k fr M' => ∃ (i : Nat) (v : Lf), i ≤ T ∧ k = T - i ∧ fr 1 = .l (.ptr a 0 0) ∧ fr 2 = .l (.ptr b 0 0) ∧ fr 3 = .l (.ptr c 0 0) ∧ fr 26 = .l (.int .i64 T) ∧ fr 27 = .l (.int .i64 i) ∧ OutR 32 (B.set c (.cells 28 [crow T C pol bg v .nils] 0)) v M' ((rowsN s i).map oprow)) T ?_ ?_
    · refine ⟨0, .nils, Nat.zero_le _, rfl, ?_, ?_, ?_, ?_, ?_, OutR.nil _ _⟩
      · simp -implicitDefEqProofs (maxSteps := 1000000) (disch := omega) only [↓xsP, ↓vc_seq, xsQ, xsT, xsR, tch, tOf, idsOf, storeE, eqA, fitC, fitL, eqCells, eqL, isNilS, absL, loadA, storeA, fieldAddrA, lenA, sliceA, boundA, buildA, placesOf, overw, buildSliceA, makeSliceA, clearA, unA, convA, extractA, fieldA, indexA, nilChk, capsA, retA, retA1, retL, rowOf, srcRows, gslot, Value.oneCell', ↓reduceIte, reduceCtorEq, eq_self, ne_eq, imp_self, forall_const, Nat.reduceEqDiff, Nat.reduceAdd, Nat.reduceSub, Nat.reduceMul, Nat.reduceLT, Nat.reduceLeDiff, Nat.reduceBEq, Nat.reduceDiv, Nat.reduceMod, Int.reduceToNat, Int.reduceNeg, Int.reduceAdd, Int.reduceSub, Int.reduceMul, Int.reduceEq, Int.reduceNe, Int.reduceLT, Int.reduceLE, Int.reduceGT, Int.reduceGE]
      · simp -implicitDefEqProofs (maxSteps := 1000000) (disch := omega) only [↓xsP, ↓vc_seq, xsQ, xsT, xsR, tch, tOf, idsOf, storeE, eqA, fitC, fitL, eqCells, eqL, isNilS, absL, loadA, storeA, fieldAddrA, lenA, sliceA, boundA, buildA, placesOf, overw, buildSliceA, makeSliceA, clearA, unA, convA, extractA, fieldA, indexA, nilChk, capsA, retA, retA1, retL, rowOf, srcRows, gslot, Value.oneCell', ↓reduceIte, reduceCtorEq, eq_self, ne_eq, imp_self, forall_const, Nat.reduceEqDiff, Nat.reduceAdd, Nat.reduceSub, Nat.reduceMul, Nat.reduceLT, Nat.reduceLeDiff, Nat.reduceBEq, Nat.reduceDiv, Nat.reduceMod, Int.reduceToNat, Int.reduceNeg, Int.reduceAdd, Int.reduceSub, Int.reduceMul, Int.reduceEq, Int.reduceNe, Int.reduceLT, Int.reduceLE, Int.reduceGT, Int.reduceGE]
      · simp -implicitDefEqProofs (maxSteps := 1000000) (disch := omega) only [↓xsP, ↓vc_seq, xsQ, xsT, xsR, tch, tOf, idsOf, storeE, eqA, fitC, fitL, eqCells, eqL, isNilS, absL, loadA, storeA, fieldAddrA, lenA, sliceA, boundA, buildA, placesOf, overw, buildSliceA, makeSliceA, clearA, unA, convA, extractA, fieldA, indexA, nilChk, capsA, retA, retA1, retL, rowOf, srcRows, gslot, Value.oneCell', ↓reduceIte, reduceCtorEq, eq_self, ne_eq, imp_self, forall_const, Nat.reduceEqDiff, Nat.reduceAdd, Nat.reduceSub, Nat.reduceMul, Nat.reduceLT, Nat.reduceLeDiff, Nat.reduceBEq, Nat.reduceDiv, Nat.reduceMod, Int.reduceToNat, Int.reduceNeg, Int.reduceAdd, Int.reduceSub, Int.reduceMul, Int.reduceEq, Int.reduceNe, Int.reduceLT, Int.reduceLE, Int.reduceGT, Int.reduceGE]
      · simp -implicitDefEqProofs (maxSteps := 1000000) (disch := omega) only [↓xsP, ↓vc_seq, xsQ, xsT, xsR, tch, tOf, idsOf, storeE, eqA, fitC, fitL, eqCells, eqL, isNilS, absL, loadA, storeA, fieldAddrA, lenA, sliceA, boundA, buildA, placesOf, overw, buildSliceA, makeSliceA, clearA, unA, convA, extractA, fieldA, indexA, nilChk, capsA, retA, retA1, retL, rowOf, srcRows, gslot, Value.oneCell', ↓reduceIte, reduceCtorEq, eq_self, ne_eq, imp_self, forall_const, Nat.reduceEqDiff, Nat.reduceAdd, Nat.reduceSub, Nat.reduceMul, Nat.reduceLT, Nat.reduceLeDiff, Nat.reduceBEq, Nat.reduceDiv, Nat.reduceMod, Int.reduceToNat, Int.reduceNeg, Int.reduceAdd, Int.reduceSub, Int.reduceMul, Int.reduceEq, Int.reduceNe, Int.reduceLT, Int.reduceLE, Int.reduceGT, Int.reduceGE]
      · simp -implicitDefEqProofs (maxSteps := 1000000) (disch := omega) only [↓xsP, ↓vc_seq, xsQ, xsT, xsR, tch, tOf, idsOf, storeE, eqA, fitC, fitL, eqCells, eqL, isNilS, absL, loadA, storeA, fieldAddrA, lenA, sliceA, boundA, buildA, placesOf, overw, buildSliceA, makeSliceA, clearA, unA, convA, extractA, fieldA, indexA, nilChk, capsA, retA, retA1, retL, rowOf, srcRows, gslot, Value.oneCell', ↓reduceIte, reduceCtorEq, eq_self, ne_eq, imp_self, forall_const, Nat.reduceEqDiff, Nat.reduceAdd, Nat.reduceSub, Nat.reduceMul, Nat.reduceLT, Nat.reduceLeDiff, Nat.reduceBEq, Nat.reduceDiv, Nat.reduceMod, Int.reduceToNat, Int.reduceNeg, Int.reduceAdd, Int.reduceSub, Int.reduceMul, Int.reduceEq, Int.reduceNe, Int.reduceLT, Int.reduceLE, Int.reduceGT, Int.reduceGE, Int.cast_ofNat_Int]
    · rintro k fr M' ⟨i, v, hi, rfl, g1, g2, g3, g26, g27, hO⟩
      have hM'a : M' a = some (.cells 28 [s.row] 0) := hO.base _ _ (by rw [Mem.set_ne _ _ _ _ (by omega)]; exact hBa)
      have hM'c : M' c = some (.cells 28 [crow T C pol bg v .nils] 0) := hO.base _ _ (Mem.set_eq _ _ _)
      rw [row_scr] at hM'a
      simp -implicitDefEqProofs (maxSteps := 1000000) (disch := omega) only [↓xsP, ↓vc_seq, xsQ, xsT, xsR, tch, tOf, idsOf, storeE, eqA, fitC, fitL, eqCells, eqL, isNilS, absL, loadA, storeA, fieldAddrA, lenA, sliceA, boundA, buildA, placesOf, overw, buildSliceA, makeSliceA, clearA, unA, convA, extractA, fieldA, indexA, nilChk, capsA, retA, retA1, retL, rowOf, srcRows, gslot, Value.oneCell', ↓reduceIte, reduceCtorEq, eq_self, ne_eq, imp_self, forall_const, Nat.reduceEqDiff, Nat.reduceAdd, Nat.reduceSub, Nat.reduceMul, Nat.reduceLT, Nat.reduceLeDiff, Nat.reduceBEq, Nat.reduceDiv, Nat.reduceMod, Int.reduceToNat, Int.reduceNeg, Int.reduceAdd, Int.reduceSub, Int.reduceMul, Int.reduceEq, Int.reduceNe, Int.reduceLT, Int.reduceLE, Int.reduceGT, Int.reduceGE, g1, g2, g3, g26, g27]
      refine condI_prop (fun hlt => ?_) (fun hlt => ?_)
      · have hi' : i < T := by omega
        simp -implicitDefEqProofs (maxSteps := 1000000) (disch := omega) only [↓xsP, xsQ, xsT, xsR, tch, tOf, idsOf, storeE, eqA, fitC, fitL, eqCells, eqL, isNilS, absL, loadA, storeA, fieldAddrA, lenA, sliceA, boundA, buildA, placesOf, overw, buildSliceA, makeSliceA, clearA, unA, convA, extractA, fieldA, indexA, nilChk, capsA, retA, retA1, retL, rowOf, srcRows, gslot, Value.oneCell', ↓reduceIte, reduceCtorEq, eq_self, ne_eq, imp_self, forall_const, Nat.reduceEqDiff, Nat.reduceAdd, Nat.reduceSub, Nat.reduceMul, Nat.reduceLT, Nat.reduceLeDiff, Nat.reduceBEq, Nat.reduceDiv, Nat.reduceMod, Int.reduceToNat, Int.reduceNeg, Int.reduceAdd, Int.reduceSub, Int.reduceMul, Int.reduceEq, Int.reduceNe, Int.reduceLT, Int.reduceLE, Int.reduceGT, Int.reduceGE, g1, g2, g3, g26, g27]
        refine vc_seq_of ?_
        simp -implicitDefEqProofs (maxSteps := 1000000) (disch := omega) only [↓xsP, xsQ, xsT, xsR, tch, tOf, idsOf, storeE, eqA, fitC, fitL, eqCells, eqL, isNilS, absL, loadA, storeA, fieldAddrA, lenA, sliceA, boundA, buildA, placesOf, overw, buildSliceA, makeSliceA, clearA, unA, convA, extractA, fieldA, indexA, nilChk, capsA, retA, retA1, retL, rowOf, srcRows, gslot, Value.oneCell', ↓reduceIte, reduceCtorEq, eq_self, ne_eq, imp_self, forall_const, Nat.reduceEqDiff, Nat.reduceAdd, Nat.reduceSub, Nat.reduceMul, Nat.reduceLT, Nat.reduceLeDiff, Nat.reduceBEq, Nat.reduceDiv, Nat.reduceMod, Int.reduceToNat, Int.reduceNeg, Int.reduceAdd, Int.reduceSub, Int.reduceMul, Int.reduceEq, Int.reduceNe, Int.reduceLT, Int.reduceLE, Int.reduceGT, Int.reduceGE, g1, g2, g3, g26, g27]
        refine vc_seq_of ?_
        simp -implicitDefEqProofs (maxSteps := 1000000) (disch := omega) only [↓xsP, xsQ, xsT, xsR, tch, tOf, idsOf, storeE, eqA, fitC, fitL, eqCells, eqL, isNilS, absL, loadA, storeA, fieldAddrA, lenA, sliceA, boundA, buildA, placesOf, overw, buildSliceA, makeSliceA, clearA, unA, convA, extractA, fieldA, indexA, nilChk, capsA, retA, retA1, retL, rowOf, srcRows, gslot, Value.oneCell', ↓reduceIte, reduceCtorEq, eq_self, ne_eq, imp_self, forall_const, Nat.reduceEqDiff, Nat.reduceAdd, Nat.reduceSub, Nat.reduceMul, Nat.reduceLT, Nat.reduceLeDiff, Nat.reduceBEq, Nat.reduceDiv, Nat.reduceMod, Int.reduceToNat, Int.reduceNeg, Int.reduceAdd, Int.reduceSub, Int.reduceMul, Int.reduceEq, Int.reduceNe, Int.reduceLT, Int.reduceLE, Int.reduceGT, Int.reduceGE, g1, g2, g3, g26, g27]
        refine vc_seq_of ?_
        simp -implicitDefEqProofs (maxSteps := 1000000) (disch := omega) only [↓xsP, xsQ, xsT, xsR, tch, tOf, idsOf, storeE, eqA, fitC, fitL, eqCells, eqL, isNilS, absL, loadA, storeA, fieldAddrA, lenA, sliceA, boundA, buildA, placesOf, overw, buildSliceA, makeSliceA, clearA, unA, convA, extractA, fieldA, indexA, nilChk, capsA, retA, retA1, retL, rowOf, srcRows, gslot, Value.oneCell', ↓reduceIte, reduceCtorEq, eq_self, ne_eq, imp_self, forall_const, Nat.reduceEqDiff, Nat.reduceAdd, Nat.reduceSub, Nat.reduceMul, Nat.reduceLT, Nat.reduceLeDiff, Nat.reduceBEq, Nat.reduceDiv, Nat.reduceMod, Int.reduceToNat, Int.reduceNeg, Int.reduceAdd, Int.reduceSub, Int.reduceMul, Int.reduceEq, Int.reduceNe, Int.reduceLT, Int.reduceLE, Int.reduceGT, Int.reduceGE, g1, g2, g3, g26, g27]
        refine vc_cut (fun fr' N' => ∃ x5, M'.le N' ∧ fr' 5 = .l x5 ∧ wkL x5 = .sl ((cleanRow (s.ops.getD i [])).map Opn.row) ∧ fr' 1 = .l (.ptr a 0 0) ∧ fr' 2 = .l (.ptr b 0 0) ∧ fr' 3 = .l (.ptr c 0 0) ∧ fr' 26 = .l (.int .i64 T) ∧ fr' 27 = .l (.int .i64 i)) ?_ ?_
        · simp -implicitDefEqProofs (maxSteps := 1000000) (disch := omega) only [↓xsP, ↓vc_seq, xsQ, xsT, xsR, tch, tOf, idsOf, storeE, eqA, fitC, fitL, eqCells, eqL, isNilS, absL, loadA, storeA, fieldAddrA, lenA, sliceA, boundA, buildA, placesOf, overw, buildSliceA, makeSliceA, clearA, unA, convA, extractA, fieldA, indexA, nilChk, capsA, retA, retA1, retL, rowOf, srcRows, gslot, Value.oneCell', ↓reduceIte, reduceCtorEq, eq_self, ne_eq, imp_self, forall_const, Nat.reduceEqDiff, Nat.reduceAdd, Nat.reduceSub, Nat.reduceMul, Nat.reduceLT, Nat.reduceLeDiff, Nat.reduceBEq, Nat.reduceDiv, Nat.reduceMod, Int.reduceToNat, Int.reduceNeg, Int.reduceAdd, Int.reduceSub, Int.reduceMul, Int.reduceEq, Int.reduceNe, Int.reduceLT, Int.reduceLE, Int.reduceGT, Int.reduceGE, g1, g2, g3, g26, g27, hM'a]
          refine condI_prop (fun hin => ?_) (fun hin => ?_)
          · have hi2 : i < s.ops.length := by omega
            have hrl := hs.rowAt hi2
            have hdd : s.ops.getD i [] = s.ops.getD i default := rfl
            rw [hdd]
            obtain ⟨l, hl⟩ : ∃ l, s.ops.getD i default = l := ⟨_, rfl⟩
            rw [hl] at hrl ⊢
            simp -implicitDefEqProofs (maxSteps := 1000000) (disch := omega) only [↓xsP, ↓vc_seq, xsQ, xsT, xsR, tch, tOf, idsOf, storeE, eqA, fitC, fitL, eqCells, eqL, isNilS, absL, loadA, storeA, fieldAddrA, lenA, sliceA, boundA, buildA, placesOf, overw, buildSliceA, makeSliceA, clearA, unA, convA, extractA, fieldA, indexA, nilChk, capsA, retA, retA1, retL, rowOf, srcRows, gslot, Value.oneCell', ↓reduceIte, reduceCtorEq, eq_self, ne_eq, imp_self, forall_const, Nat.reduceEqDiff, Nat.reduceAdd, Nat.reduceSub, Nat.reduceMul, Nat.reduceLT, Nat.reduceLeDiff, Nat.reduceBEq, Nat.reduceDiv, Nat.reduceMod, Int.reduceToNat, Int.reduceNeg, Int.reduceAdd, Int.reduceSub, Int.reduceMul, Int.reduceEq, Int.reduceNe, Int.reduceLT, Int.reduceLE, Int.reduceGT, Int.reduceGE, g1, g2, g3, g26, g27, hM'a, hl]
            refine callI_of ((cloneO_live l (by omega) _).mono ?_)
            rintro _ _ (⟨rfl, hl0, rfl⟩ | ⟨id, hid, rfl, rfl⟩)
            · simp -implicitDefEqProofs (maxSteps := 1000000) (disch := omega) only [↓xsP, ↓vc_seq, xsQ, xsT, xsR, tch, tOf, idsOf, storeE, eqA, fitC, fitL, eqCells, eqL, isNilS, absL, loadA, storeA, fieldAddrA, lenA, sliceA, boundA, buildA, placesOf, overw, buildSliceA, makeSliceA, clearA, unA, convA, extractA, fieldA, indexA, nilChk, capsA, retA, retA1, retL, rowOf, srcRows, gslot, Value.oneCell', ↓reduceIte, reduceCtorEq, eq_self, ne_eq, imp_self, forall_const, Nat.reduceEqDiff, Nat.reduceAdd, Nat.reduceSub, Nat.reduceMul, Nat.reduceLT, Nat.reduceLeDiff, Nat.reduceBEq, Nat.reduceDiv, Nat.reduceMod, Int.reduceToNat, Int.reduceNeg, Int.reduceAdd, Int.reduceSub, Int.reduceMul, Int.reduceEq, Int.reduceNe, Int.reduceLT, Int.reduceLE, Int.reduceGT, Int.reduceGE, g1, g2, g3, g26, g27]
              refine callI_of (XCalls.wk ((deleteO_none _ _ _ notB (fun p => notOp_clo _ rfl p _)).mono ?_))
              rintro _ _ ⟨rfl, rfl⟩
              simp -implicitDefEqProofs (maxSteps := 1000000) (disch := omega) only [↓xsP, ↓vc_seq, xsQ, xsT, xsR, tch, tOf, idsOf, storeE, eqA, fitC, fitL, eqCells, eqL, isNilS, absL, loadA, storeA, fieldAddrA, lenA, sliceA, boundA, buildA, placesOf, overw, buildSliceA, makeSliceA, clearA, unA, convA, extractA, fieldA, indexA, nilChk, capsA, retA, retA1, retL, rowOf, srcRows, gslot, Value.oneCell', ↓reduceIte, reduceCtorEq, eq_self, ne_eq, imp_self, forall_const, Nat.reduceEqDiff, Nat.reduceAdd, Nat.reduceSub, Nat.reduceMul, Nat.reduceLT, Nat.reduceLeDiff, Nat.reduceBEq, Nat.reduceDiv, Nat.reduceMod, Int.reduceToNat, Int.reduceNeg, Int.reduceAdd, Int.reduceSub, Int.reduceMul, Int.reduceEq, Int.reduceNe, Int.reduceLT, Int.reduceLE, Int.reduceGT, Int.reduceGE, g1, g2, g3, g26, g27]
              refine call_of (firstO_spec [] 60 _) ?_
              simp -implicitDefEqProofs (maxSteps := 1000000) (disch := omega) only [↓xsP, ↓vc_seq, xsQ, xsT, xsR, tch, tOf, idsOf, storeE, eqA, fitC, fitL, eqCells, eqL, isNilS, absL, loadA, storeA, fieldAddrA, lenA, sliceA, boundA, buildA, placesOf, overw, buildSliceA, makeSliceA, clearA, unA, convA, extractA, fieldA, indexA, nilChk, capsA, retA, retA1, retL, rowOf, srcRows, gslot, Value.oneCell', ↓reduceIte, reduceCtorEq, eq_self, ne_eq, imp_self, forall_const, Nat.reduceEqDiff, Nat.reduceAdd, Nat.reduceSub, Nat.reduceMul, Nat.reduceLT, Nat.reduceLeDiff, Nat.reduceBEq, Nat.reduceDiv, Nat.reduceMod, Int.reduceToNat, Int.reduceNeg, Int.reduceAdd, Int.reduceSub, Int.reduceMul, Int.reduceEq, Int.reduceNe, Int.reduceLT, Int.reduceLE, Int.reduceGT, Int.reduceGE, g1, g2, g3, g26, g27]
              rw [hl0]
              exact ⟨_, Mem.le_refl _, rfl, rfl⟩
            · simp -implicitDefEqProofs (maxSteps := 1000000) (disch := omega) only [↓xsP, ↓vc_seq, xsQ, xsT, xsR, tch, tOf, idsOf, storeE, eqA, fitC, fitL, eqCells, eqL, isNilS, absL, loadA, storeA, fieldAddrA, lenA, sliceA, boundA, buildA, placesOf, overw, buildSliceA, makeSliceA, clearA, unA, convA, extractA, fieldA, indexA, nilChk, capsA, retA, retA1, retL, rowOf, srcRows, gslot, Value.oneCell', ↓reduceIte, reduceCtorEq, eq_self, ne_eq, imp_self, forall_const, Nat.reduceEqDiff, Nat.reduceAdd, Nat.reduceSub, Nat.reduceMul, Nat.reduceLT, Nat.reduceLeDiff, Nat.reduceBEq, Nat.reduceDiv, Nat.reduceMod, Int.reduceToNat, Int.reduceNeg, Int.reduceAdd, Int.reduceSub, Int.reduceMul, Int.reduceEq, Int.reduceNe, Int.reduceLT, Int.reduceLE, Int.reduceGT, Int.reduceGE, g1, g2, g3, g26, g27]
              refine callI_of ((deleteO_spec l (by omega) id _ (Mem.set_eq _ _ _) _ _ notB (fun p M' h => notOp_clo _ rfl p M')).mono ?_)
              rintro _ _ ⟨R, rfl, rfl, hR, hRl⟩
              simp -implicitDefEqProofs (maxSteps := 1000000) (disch := omega) only [↓xsP, ↓vc_seq, xsQ, xsT, xsR, tch, tOf, idsOf, storeE, eqA, fitC, fitL, eqCells, eqL, isNilS, absL, loadA, storeA, fieldAddrA, lenA, sliceA, boundA, buildA, placesOf, overw, buildSliceA, makeSliceA, clearA, unA, convA, extractA, fieldA, indexA, nilChk, capsA, retA, retA1, retL, rowOf, srcRows, gslot, Value.oneCell', ↓reduceIte, reduceCtorEq, eq_self, ne_eq, imp_self, forall_const, Nat.reduceEqDiff, Nat.reduceAdd, Nat.reduceSub, Nat.reduceMul, Nat.reduceLT, Nat.reduceLeDiff, Nat.reduceBEq, Nat.reduceDiv, Nat.reduceMod, Int.reduceToNat, Int.reduceNeg, Int.reduceAdd, Int.reduceSub, Int.reduceMul, Int.reduceEq, Int.reduceNe, Int.reduceLT, Int.reduceLE, Int.reduceGT, Int.reduceGE, g1, g2, g3, g26, g27]
              have hfz : ([.l (.ms id 0 (staysO notB l).length), .l (.int .i64 ((60 : Nat) : Int))] : List AV).map (frzA id (R.map Opn.row)) = [.l (.sl ((staysO notB l).map Opn.row)), .l (.int .i64 ((60 : Nat) : Int))] := by
                simp [frzA, frz1, frzL, hRl, ← List.map_take, hR]
              refine callI_of (XCalls.frz id (Mem.set_eq _ _ _) ?_)
              rw [show ((60 : Int)) = ((60 : Nat) : Int) from rfl, hfz]
              refine (firstO_spec (staysO notB l) 60 _).mono ?_
              rintro _ _ ⟨rfl, rfl⟩
              simp -implicitDefEqProofs (maxSteps := 1000000) (disch := omega) only [↓xsP, ↓vc_seq, xsQ, xsT, xsR, tch, tOf, idsOf, storeE, eqA, fitC, fitL, eqCells, eqL, isNilS, absL, loadA, storeA, fieldAddrA, lenA, sliceA, boundA, buildA, placesOf, overw, buildSliceA, makeSliceA, clearA, unA, convA, extractA, fieldA, indexA, nilChk, capsA, retA, retA1, retL, rowOf, srcRows, gslot, Value.oneCell', ↓reduceIte, reduceCtorEq, eq_self, ne_eq, imp_self, forall_const, Nat.reduceEqDiff, Nat.reduceAdd, Nat.reduceSub, Nat.reduceMul, Nat.reduceLT, Nat.reduceLeDiff, Nat.reduceBEq, Nat.reduceDiv, Nat.reduceMod, Int.reduceToNat, Int.reduceNeg, Int.reduceAdd, Int.reduceSub, Int.reduceMul, Int.reduceEq, Int.reduceNe, Int.reduceLT, Int.reduceLE, Int.reduceGT, Int.reduceGE, g1, g2, g3, g26, g27]
              refine ⟨_, fun k bk hk => ?_, rfl, ?_⟩
              · have := lt_of_bnd hid hk
                simp (disch := omega) only [Mem.set_ne, hk]
              · rw [cleanRow, staysO_notB]
                rfl
          · simp -implicitDefEqProofs (maxSteps := 1000000) (disch := omega) only [↓xsP, ↓vc_seq, xsQ, xsT, xsR, tch, tOf, idsOf, storeE, eqA, fitC, fitL, eqCells, eqL, isNilS, absL, loadA, storeA, fieldAddrA, lenA, sliceA, boundA, buildA, placesOf, overw, buildSliceA, makeSliceA, clearA, unA, convA, extractA, fieldA, indexA, nilChk, capsA, retA, retA1, retL, rowOf, srcRows, gslot, Value.oneCell', ↓reduceIte, reduceCtorEq, eq_self, ne_eq, imp_self, forall_const, Nat.reduceEqDiff, Nat.reduceAdd, Nat.reduceSub, Nat.reduceMul, Nat.reduceLT, Nat.reduceLeDiff, Nat.reduceBEq, Nat.reduceDiv, Nat.reduceMod, Int.reduceToNat, Int.reduceNeg, Int.reduceAdd, Int.reduceSub, Int.reduceMul, Int.reduceEq, Int.reduceNe, Int.reduceLT, Int.reduceLE, Int.reduceGT, Int.reduceGE, g1, g2, g3, g26, g27]
            refine ⟨_, Mem.le_refl _, rfl, ?_⟩
            have hgd : s.ops.getD i [] = [] := by
              rw [List.getD_eq_getElem?_getD, List.getElem?_eq_none (by omega)]
              rfl
            rw [hgd]
            rfl
        · clear g1 g2 g3 g26 g27
          rintro fr N' ⟨x5, hMN, g5, hx5, g1, g2, g3, g26, g27⟩
          have hN'c := hMN _ _ hM'c
          rw [crow] at hN'c
          simp -implicitDefEqProofs (maxSteps := 1000000) (disch := omega) only [↓xsP, ↓vc_seq, xsQ, xsT, xsR, tch, tOf, idsOf, storeE, eqA, fitC, fitL, eqCells, eqL, isNilS, absL, loadA, storeA, fieldAddrA, lenA, sliceA, boundA, buildA, placesOf, overw, buildSliceA, makeSliceA, clearA, unA, convA, extractA, fieldA, indexA, nilChk, capsA, retA, retA1, retL, rowOf, srcRows, gslot, Value.oneCell', ↓reduceIte, reduceCtorEq, eq_self, ne_eq, imp_self, forall_const, Nat.reduceEqDiff, Nat.reduceAdd, Nat.reduceSub, Nat.reduceMul, Nat.reduceLT, Nat.reduceLeDiff, Nat.reduceBEq, Nat.reduceDiv, Nat.reduceMod, Int.reduceToNat, Int.reduceNeg, Int.reduceAdd, Int.reduceSub, Int.reduceMul, Int.reduceEq, Int.reduceNe, Int.reduceLT, Int.reduceLE, Int.reduceGT, Int.reduceGE, g1, g2, g3, g5, g26, g27, hN'c]
          refine newI_intro fun pb hpb => ?_
          have hcb := lt_of_bnd hpb hN'c
          simp -implicitDefEqProofs (maxSteps := 1000000) (disch := omega) only [↓xsP, ↓vc_seq, xsQ, xsT, xsR, tch, tOf, idsOf, storeE, eqA, fitC, fitL, eqCells, eqL, isNilS, absL, loadA, storeA, fieldAddrA, lenA, sliceA, boundA, buildA, placesOf, overw, buildSliceA, makeSliceA, clearA, unA, convA, extractA, fieldA, indexA, nilChk, capsA, retA, retA1, retL, rowOf, srcRows, gslot, Value.oneCell', ↓reduceIte, reduceCtorEq, eq_self, ne_eq, imp_self, forall_const, Nat.reduceEqDiff, Nat.reduceAdd, Nat.reduceSub, Nat.reduceMul, Nat.reduceLT, Nat.reduceLeDiff, Nat.reduceBEq, Nat.reduceDiv, Nat.reduceMod, Int.reduceToNat, Int.reduceNeg, Int.reduceAdd, Int.reduceSub, Int.reduceMul, Int.reduceEq, Int.reduceNe, Int.reduceLT, Int.reduceLE, Int.reduceGT, Int.reduceGE, g1, g2, g3, g5, g26, g27, hN'c]
          refine app_outR ti_25 rfl ti_32 (by kernel_rfl) (by decide) (by decide) rfl hO hMN hpb (by simp [rowsN]; omega) fun v' N2 M2 hO2 hle2 hkeep => ?_
          have hN2c := hle2 _ _ (hO2.base _ _ (Mem.set_eq _ _ _))
          rw [crow] at hN2c
          simp -implicitDefEqProofs (maxSteps := 1000000) (disch := omega) only [↓xsP, ↓vc_seq, xsQ, xsT, xsR, tch, tOf, idsOf, storeE, eqA, fitC, fitL, eqCells, eqL, isNilS, absL, loadA, storeA, fieldAddrA, lenA, sliceA, boundA, buildA, placesOf, overw, buildSliceA, makeSliceA, clearA, unA, convA, extractA, fieldA, indexA, nilChk, capsA, retA, retA1, retL, rowOf, srcRows, gslot, Value.oneCell', ↓reduceIte, reduceCtorEq, eq_self, ne_eq, imp_self, forall_const, Nat.reduceEqDiff, Nat.reduceAdd, Nat.reduceSub, Nat.reduceMul, Nat.reduceLT, Nat.reduceLeDiff, Nat.reduceBEq, Nat.reduceDiv, Nat.reduceMod, Int.reduceToNat, Int.reduceNeg, Int.reduceAdd, Int.reduceSub, Int.reduceMul, Int.reduceEq, Int.reduceNe, Int.reduceLT, Int.reduceLE, Int.reduceGT, Int.reduceGE, g1, g2, g3, g5, g26, g27, hN2c]
          obtain ⟨M3, hO3, hle3⟩ := hO2.turn (X' := .cells 28 [crow T C pol bg v' .nils] 0) hle2
          obtain ⟨M4, hO4, hgs⟩ := hO3.wk
          refine ⟨T - (i + 1), M4, by omega, (GStep.le ?_).trans hgs, i + 1, v', by omega, rfl, rfl, ?_⟩
          · rw [crow] at hle3
            exact hle3
          · rw [List.map_append, wk_oprow] at hO4
            rw [rowsN_succ, List.map_append]
            simp only [List.map_cons, List.map_nil, hx5] at hO4
            exact hO4
      · have hil : i = T := by omega
        subst hil
        simp -implicitDefEqProofs (maxSteps := 1000000) (disch := omega) only [↓xsP, ↓vc_seq, xsQ, xsT, xsR, tch, tOf, idsOf, storeE, eqA, fitC, fitL, eqCells, eqL, isNilS, absL, loadA, storeA, fieldAddrA, lenA, sliceA, boundA, buildA, placesOf, overw, buildSliceA, makeSliceA, clearA, unA, convA, extractA, fieldA, indexA, nilChk, capsA, retA, retA1, retL, rowOf, srcRows, gslot, Value.oneCell', ↓reduceIte, reduceCtorEq, eq_self, ne_eq, imp_self, forall_const, Nat.reduceEqDiff, Nat.reduceAdd, Nat.reduceSub, Nat.reduceMul, Nat.reduceLT, Nat.reduceLeDiff, Nat.reduceBEq, Nat.reduceDiv, Nat.reduceMod, Int.reduceToNat, Int.reduceNeg, Int.reduceAdd, Int.reduceSub, Int.reduceMul, Int.reduceEq, Int.reduceNe, Int.reduceLT, Int.reduceLE, Int.reduceGT, Int.reduceGE, g1, g2, g3, hM'a]
        refine call_of (firstI_spec s.picks 100000 _) ?_
        generalize hPk : s.picks.take 100000 = Pk
        have hPl : Pk.length ≤ 100000 := by rw [← hPk, List.length_take]; omega
        simp -implicitDefEqProofs (maxSteps := 1000000) (disch := omega) only [↓xsP, ↓vc_seq, xsQ, xsT, xsR, tch, tOf, idsOf, storeE, eqA, fitC, fitL, eqCells, eqL, isNilS, absL, loadA, storeA, fieldAddrA, lenA, sliceA, boundA, buildA, placesOf, overw, buildSliceA, makeSliceA, clearA, unA, convA, extractA, fieldA, indexA, nilChk, capsA, retA, retA1, retL, rowOf, srcRows, gslot, Value.oneCell', ↓reduceIte, reduceCtorEq, eq_self, ne_eq, imp_self, forall_const, Nat.reduceEqDiff, Nat.reduceAdd, Nat.reduceSub, Nat.reduceMul, Nat.reduceLT, Nat.reduceLeDiff, Nat.reduceBEq, Nat.reduceDiv, Nat.reduceMod, Int.reduceToNat, Int.reduceNeg, Int.reduceAdd, Int.reduceSub, Int.reduceMul, Int.reduceEq, Int.reduceNe, Int.reduceLT, Int.reduceLE, Int.reduceGT, Int.reduceGE, g1, g2, g3]
        refine loopI_of (xloop (by kernel_rfl) (fun k fr M2 => ∃ (j : Nat) (y : Lf), j ≤ Pk.length ∧ k = Pk.length - j ∧ fr 2 = .l (.ptr b 0 0) ∧ fr 3 = .l (.ptr c 0 0) ∧ fr 52 = .l (.sl (Pk.map irow)) ∧ fr 53 = .l (.int .i64 Pk.length) ∧ fr 54 = .l (.int .i64 j) ∧ OutR 3 (M'.set c (.cells 28 [crow i C pol bg v y] 0)) y M2 (((Pk.take j).map fun n => modI n i).map irow)) Pk.length ?_ ?_)
        · refine ⟨0, .nils, Nat.zero_le _, rfl, by simp -implicitDefEqProofs (maxSteps := 1000000) (disch := omega) only [↓xsP, ↓vc_seq, xsQ, xsT, xsR, tch, tOf, idsOf, storeE, eqA, fitC, fitL, eqCells, eqL, isNilS, absL, loadA, storeA, fieldAddrA, lenA, sliceA, boundA, buildA, placesOf, overw, buildSliceA, makeSliceA, clearA, unA, convA, extractA, fieldA, indexA, nilChk, capsA, retA, retA1, retL, rowOf, srcRows, gslot, Value.oneCell', ↓reduceIte, reduceCtorEq, eq_self, ne_eq, imp_self, forall_const, Nat.reduceEqDiff, Nat.reduceAdd, Nat.reduceSub, Nat.reduceMul, Nat.reduceLT, Nat.reduceLeDiff, Nat.reduceBEq, Nat.reduceDiv, Nat.reduceMod, Int.reduceToNat, Int.reduceNeg, Int.reduceAdd, Int.reduceSub, Int.reduceMul, Int.reduceEq, Int.reduceNe, Int.reduceLT, Int.reduceLE, Int.reduceGT, Int.reduceGE, g2], by simp -implicitDefEqProofs (maxSteps := 1000000) (disch := omega) only [↓xsP, ↓vc_seq, xsQ, xsT, xsR, tch, tOf, idsOf, storeE, eqA, fitC, fitL, eqCells, eqL, isNilS, absL, loadA, storeA, fieldAddrA, lenA, sliceA, boundA, buildA, placesOf, overw, buildSliceA, makeSliceA, clearA, unA, convA, extractA, fieldA, indexA, nilChk, capsA, retA, retA1, retL, rowOf, srcRows, gslot, Value.oneCell', ↓reduceIte, reduceCtorEq, eq_self, ne_eq, imp_self, forall_const, Nat.reduceEqDiff, Nat.reduceAdd, Nat.reduceSub, Nat.reduceMul, Nat.reduceLT, Nat.reduceLeDiff, Nat.reduceBEq, Nat.reduceDiv, Nat.reduceMod, Int.reduceToNat, Int.reduceNeg, Int.reduceAdd, Int.reduceSub, Int.reduceMul, Int.reduceEq, Int.reduceNe, Int.reduceLT, Int.reduceLE, Int.reduceGT, Int.reduceGE, g3], by simp -implicitDefEqProofs (maxSteps := 1000000) (disch := omega) only [↓xsP, ↓vc_seq, xsQ, xsT, xsR, tch, tOf, idsOf, storeE, eqA, fitC, fitL, eqCells, eqL, isNilS, absL, loadA, storeA, fieldAddrA, lenA, sliceA, boundA, buildA, placesOf, overw, buildSliceA, makeSliceA, clearA, unA, convA, extractA, fieldA, indexA, nilChk, capsA, retA, retA1, retL, rowOf, srcRows, gslot, Value.oneCell', ↓reduceIte, reduceCtorEq, eq_self, ne_eq, imp_self, forall_const, Nat.reduceEqDiff, Nat.reduceAdd, Nat.reduceSub, Nat.reduceMul, Nat.reduceLT, Nat.reduceLeDiff, Nat.reduceBEq, Nat.reduceDiv, Nat.reduceMod, Int.reduceToNat, Int.reduceNeg, Int.reduceAdd, Int.reduceSub, Int.reduceMul, Int.reduceEq, Int.reduceNe, Int.reduceLT, Int.reduceLE, Int.reduceGT, Int.reduceGE], by simp -implicitDefEqProofs (maxSteps := 1000000) (disch := omega) only [↓xsP, ↓vc_seq, xsQ, xsT, xsR, tch, tOf, idsOf, storeE, eqA, fitC, fitL, eqCells, eqL, isNilS, absL, loadA, storeA, fieldAddrA, lenA, sliceA, boundA, buildA, placesOf, overw, buildSliceA, makeSliceA, clearA, unA, convA, extractA, fieldA, indexA, nilChk, capsA, retA, retA1, retL, rowOf, srcRows, gslot, Value.oneCell', ↓reduceIte, reduceCtorEq, eq_self, ne_eq, imp_self, forall_const, Nat.reduceEqDiff, Nat.reduceAdd, Nat.reduceSub, Nat.reduceMul, Nat.reduceLT, Nat.reduceLeDiff, Nat.reduceBEq, Nat.reduceDiv, Nat.reduceMod, Int.reduceToNat, Int.reduceNeg, Int.reduceAdd, Int.reduceSub, Int.reduceMul, Int.reduceEq, Int.reduceNe, Int.reduceLT, Int.reduceLE, Int.reduceGT, Int.reduceGE], by simp -implicitDefEqProofs (maxSteps := 1000000) (disch := omega) only [↓xsP, ↓vc_seq, xsQ, xsT, xsR, tch, tOf, idsOf, storeE, eqA, fitC, fitL, eqCells, eqL, isNilS, absL, loadA, storeA, fieldAddrA, lenA, sliceA, boundA, buildA, placesOf, overw, buildSliceA, makeSliceA, clearA, unA, convA, extractA, fieldA, indexA, nilChk, capsA, retA, retA1, retL, rowOf, srcRows, gslot, Value.oneCell', ↓reduceIte, reduceCtorEq, eq_self, ne_eq, imp_self, forall_const, Nat.reduceEqDiff, Nat.reduceAdd, Nat.reduceSub, Nat.reduceMul, Nat.reduceLT, Nat.reduceLeDiff, Nat.reduceBEq, Nat.reduceDiv, Nat.reduceMod, Int.reduceToNat, Int.reduceNeg, Int.reduceAdd, Int.reduceSub, Int.reduceMul, Int.reduceEq, Int.reduceNe, Int.reduceLT, Int.reduceLE, Int.reduceGT, Int.reduceGE, Int.cast_ofNat_Int], ?_⟩
          rw [Mem.set_self hM'c]
          exact OutR.nil _ _
        · clear g1 g2 g3 g26 g27
          rintro k fr M2 ⟨j, y, hj, rfl, g2, g3, g52, g53, g54, hO2⟩
          have hM2c := hO2.base _ _ (Mem.set_eq _ _ _)
          rw [crow] at hM2c
          simp -implicitDefEqProofs (maxSteps := 1000000) (disch := omega) only [↓xsP, ↓vc_seq, xsQ, xsT, xsR, tch, tOf, idsOf, storeE, eqA, fitC, fitL, eqCells, eqL, isNilS, absL, loadA, storeA, fieldAddrA, lenA, sliceA, boundA, buildA, placesOf, overw, buildSliceA, makeSliceA, clearA, unA, convA, extractA, fieldA, indexA, nilChk, capsA, retA, retA1, retL, rowOf, srcRows, gslot, Value.oneCell', ↓reduceIte, reduceCtorEq, eq_self, ne_eq, imp_self, forall_const, Nat.reduceEqDiff, Nat.reduceAdd, Nat.reduceSub, Nat.reduceMul, Nat.reduceLT, Nat.reduceLeDiff, Nat.reduceBEq, Nat.reduceDiv, Nat.reduceMod, Int.reduceToNat, Int.reduceNeg, Int.reduceAdd, Int.reduceSub, Int.reduceMul, Int.reduceEq, Int.reduceNe, Int.reduceLT, Int.reduceLE, Int.reduceGT, Int.reduceGE, g2, g3, g52, g53, g54]
          refine condI_prop (fun hlt2 => ?_) (fun hlt2 => ?_)
          · have hj' : j < Pk.length := by omega
            have htk := take_snoc Pk hj'
            obtain ⟨q, hq⟩ : ∃ q, Pk.getD j default = q := ⟨_, rfl⟩
            rw [hq] at htk
            simp -implicitDefEqProofs (maxSteps := 1000000) (disch := omega) only [↓xsP, ↓vc_seq, xsQ, xsT, xsR, tch, tOf, idsOf, storeE, eqA, fitC, fitL, eqCells, eqL, isNilS, absL, loadA, storeA, fieldAddrA, lenA, sliceA, boundA, buildA, placesOf, overw, buildSliceA, makeSliceA, clearA, unA, convA, extractA, fieldA, indexA, nilChk, capsA, retA, retA1, retL, rowOf, srcRows, gslot, Value.oneCell', ↓reduceIte, reduceCtorEq, eq_self, ne_eq, imp_self, forall_const, Nat.reduceEqDiff, Nat.reduceAdd, Nat.reduceSub, Nat.reduceMul, Nat.reduceLT, Nat.reduceLeDiff, Nat.reduceBEq, Nat.reduceDiv, Nat.reduceMod, Int.reduceToNat, Int.reduceNeg, Int.reduceAdd, Int.reduceSub, Int.reduceMul, Int.reduceEq, Int.reduceNe, Int.reduceLT, Int.reduceLE, Int.reduceGT, Int.reduceGE, g2, g3, g52, g53, g54, hq]
            rcases hO2 with ⟨hr0, rfl, hMM⟩ | ⟨idP, hidP, rfl, hMM⟩
            · refine xwrite (fun n0 => [ (9, c)]) [9] [6, 7] [[], [], [], [], [], [], [], [], [], []] (by kernel_rfl) (by kernel_rfl) (by kernel_rfl) (by kernel_rfl) (fun n0 hn0 => ⟨rfl, ?_, ?_⟩)
              · exact TOk_cons (.inl (lt_of_bnd hn0 hM2c)) (TOk_nil _ _)
              · have hcn := lt_of_bnd hn0 hM2c
                simp -implicitDefEqProofs (maxSteps := 1000000) (disch := omega) only [↓xsP, ↓vc_seq, xsQ, xsT, xsR, tch, tOf, idsOf, storeE, eqA, fitC, fitL, eqCells, eqL, isNilS, absL, loadA, storeA, fieldAddrA, lenA, sliceA, boundA, buildA, placesOf, overw, buildSliceA, makeSliceA, clearA, unA, convA, extractA, fieldA, indexA, nilChk, capsA, retA, retA1, retL, rowOf, srcRows, gslot, Value.oneCell', ↓reduceIte, reduceCtorEq, eq_self, ne_eq, imp_self, forall_const, Nat.reduceEqDiff, Nat.reduceAdd, Nat.reduceSub, Nat.reduceMul, Nat.reduceLT, Nat.reduceLeDiff, Nat.reduceBEq, Nat.reduceDiv, Nat.reduceMod, Int.reduceToNat, Int.reduceNeg, Int.reduceAdd, Int.reduceSub, Int.reduceMul, Int.reduceEq, Int.reduceNe, Int.reduceLT, Int.reduceLE, Int.reduceGT, Int.reduceGE, g2, g3, g52, g53, g54, hM2c]
                refine wcallI_of (fun M' _ => modulo_spec q i (by omega) (by omega) M') ?_
                simp -implicitDefEqProofs (maxSteps := 1000000) (disch := omega) only [↓xsP, ↓vc_seq, xsQ, xsT, xsR, tch, tOf, idsOf, storeE, eqA, fitC, fitL, eqCells, eqL, isNilS, absL, loadA, storeA, fieldAddrA, lenA, sliceA, boundA, buildA, placesOf, overw, buildSliceA, makeSliceA, clearA, unA, convA, extractA, fieldA, indexA, nilChk, capsA, retA, retA1, retL, rowOf, srcRows, gslot, Value.oneCell', ↓reduceIte, reduceCtorEq, eq_self, ne_eq, imp_self, forall_const, Nat.reduceEqDiff, Nat.reduceAdd, Nat.reduceSub, Nat.reduceMul, Nat.reduceLT, Nat.reduceLeDiff, Nat.reduceBEq, Nat.reduceDiv, Nat.reduceMod, Int.reduceToNat, Int.reduceNeg, Int.reduceAdd, Int.reduceSub, Int.reduceMul, Int.reduceEq, Int.reduceNe, Int.reduceLT, Int.reduceLE, Int.reduceGT, Int.reduceGE, g2, g3, g52, g53, g54, hM2c]
                refine ⟨.inl (by decide), ?_⟩
                refine wapp_nilR ti_26 rfl ti_3 (by kernel_rfl) (by decide) [irow (modI q i)] ?_ (by simp) (by simp) (by simp) ?_
                · simp -implicitDefEqProofs (maxSteps := 1000000) (disch := omega) only [↓xsP, ↓vc_seq, xsQ, xsT, xsR, tch, tOf, idsOf, storeE, eqA, fitC, fitL, eqCells, eqL, isNilS, absL, loadA, storeA, fieldAddrA, lenA, sliceA, boundA, buildA, placesOf, overw, buildSliceA, makeSliceA, clearA, unA, convA, extractA, fieldA, indexA, nilChk, capsA, retA, retA1, retL, rowOf, srcRows, gslot, Value.oneCell', ↓reduceIte, reduceCtorEq, eq_self, ne_eq, imp_self, forall_const, Nat.reduceEqDiff, Nat.reduceAdd, Nat.reduceSub, Nat.reduceMul, Nat.reduceLT, Nat.reduceLeDiff, Nat.reduceBEq, Nat.reduceDiv, Nat.reduceMod, Int.reduceToNat, Int.reduceNeg, Int.reduceAdd, Int.reduceSub, Int.reduceMul, Int.reduceEq, Int.reduceNe, Int.reduceLT, Int.reduceLE, Int.reduceGT, Int.reduceGE]
                simp -implicitDefEqProofs (maxSteps := 1000000) (disch := omega) only [↓xsP, ↓vc_seq, xsQ, xsT, xsR, tch, tOf, idsOf, storeE, eqA, fitC, fitL, eqCells, eqL, isNilS, absL, loadA, storeA, fieldAddrA, lenA, sliceA, boundA, buildA, placesOf, overw, buildSliceA, makeSliceA, clearA, unA, convA, extractA, fieldA, indexA, nilChk, capsA, retA, retA1, retL, rowOf, srcRows, gslot, Value.oneCell', ↓reduceIte, reduceCtorEq, eq_self, ne_eq, imp_self, forall_const, Nat.reduceEqDiff, Nat.reduceAdd, Nat.reduceSub, Nat.reduceMul, Nat.reduceLT, Nat.reduceLeDiff, Nat.reduceBEq, Nat.reduceDiv, Nat.reduceMod, Int.reduceToNat, Int.reduceNeg, Int.reduceAdd, Int.reduceSub, Int.reduceMul, Int.reduceEq, Int.reduceNe, Int.reduceLT, Int.reduceLE, Int.reduceGT, Int.reduceGE, g2, g3, g52, g53, g54, hM2c]
                have hj0 : Pk.take j = [] := by simpa using hr0
                have hfr : ∀ jj, n0 + 7 ≤ jj → (M'.set c (.cells 28 [crow i C pol bg v (.ms (n0 + 7) 0 1)] 0)) jj = none := fun jj hjj => by
                  have := hn0 jj (by omega)
                  rw [hMM, Mem.set_ne _ _ _ _ (by omega)] at this
                  rw [Mem.set_ne _ _ _ _ (by omega)]
                  exact this
                refine ⟨.inl (by decide), Pk.length - (j + 1), (M'.set c (.cells 28 [crow i C pol bg v (.ms (n0 + 7) 0 1)] 0)).set (n0 + 7) (.cells 3 [irow (modI q i)] 0), by omega, ?_, j + 1, .ms (n0 + 7) 0 1, by omega, rfl, rfl, .inr ⟨n0 + 7, hfr, ?_, ?_⟩⟩
                · refine le_seti ?_ fun k bk hk h => ?_
                  · simp (disch := omega) only [Mem.set_ne, Mem.set_eq]
                    rfl
                  · rw [Mem.set_app] at h ⊢
                    by_cases hck : c = k
                    · rw [if_pos hck] at h ⊢; exact h
                    · rw [if_neg hck] at h ⊢
                      have h2 : M2 k = some bk := by rw [hMM, Mem.set_ne _ _ _ _ hck]; exact h
                      have := lt_of_bnd hn0 h2
                      simp (disch := omega) only [Mem.set_ne, h2]
                · rw [htk, hj0]; rfl
                · rw [htk, hj0]; rfl
            · refine xwrite (fun n0 => [ (7, idP), (9, c)]) [7, 9] [6, 7] [[], [], [], [], [], [], [], [], [], []] (by kernel_rfl) (by kernel_rfl) (by kernel_rfl) (by kernel_rfl) (fun n0 hn0 => ⟨rfl, ?_, ?_⟩)
              · have hPP : M2 idP = some (.cells 3 (((Pk.take j).map fun n => modI n i).map irow) 0) := by rw [hMM]; exact Mem.set_eq _ _ _
                exact TOk_cons (.inl (lt_of_bnd hn0 hPP)) (TOk_cons (.inl (lt_of_bnd hn0 hM2c)) (TOk_nil _ _))
              · have hPP : M2 idP = some (.cells 3 (((Pk.take j).map fun n => modI n i).map irow) 0) := by rw [hMM]; exact Mem.set_eq _ _ _
                have hcn := lt_of_bnd hn0 hM2c
                have hPn := lt_of_bnd hn0 hPP
                have hcP := lt_of_bnd hidP (Mem.set_eq M' c _)
                simp -implicitDefEqProofs (maxSteps := 1000000) (disch := omega) only [↓xsP, ↓vc_seq, xsQ, xsT, xsR, tch, tOf, idsOf, storeE, eqA, fitC, fitL, eqCells, eqL, isNilS, absL, loadA, storeA, fieldAddrA, lenA, sliceA, boundA, buildA, placesOf, overw, buildSliceA, makeSliceA, clearA, unA, convA, extractA, fieldA, indexA, nilChk, capsA, retA, retA1, retL, rowOf, srcRows, gslot, Value.oneCell', ↓reduceIte, reduceCtorEq, eq_self, ne_eq, imp_self, forall_const, Nat.reduceEqDiff, Nat.reduceAdd, Nat.reduceSub, Nat.reduceMul, Nat.reduceLT, Nat.reduceLeDiff, Nat.reduceBEq, Nat.reduceDiv, Nat.reduceMod, Int.reduceToNat, Int.reduceNeg, Int.reduceAdd, Int.reduceSub, Int.reduceMul, Int.reduceEq, Int.reduceNe, Int.reduceLT, Int.reduceLE, Int.reduceGT, Int.reduceGE, g2, g3, g52, g53, g54, hM2c]
                refine wcallI_of (fun M' _ => modulo_spec q i (by omega) (by omega) M') ?_
                simp -implicitDefEqProofs (maxSteps := 1000000) (disch := omega) only [↓xsP, ↓vc_seq, xsQ, xsT, xsR, tch, tOf, idsOf, storeE, eqA, fitC, fitL, eqCells, eqL, isNilS, absL, loadA, storeA, fieldAddrA, lenA, sliceA, boundA, buildA, placesOf, overw, buildSliceA, makeSliceA, clearA, unA, convA, extractA, fieldA, indexA, nilChk, capsA, retA, retA1, retL, rowOf, srcRows, gslot, Value.oneCell', ↓reduceIte, reduceCtorEq, eq_self, ne_eq, imp_self, forall_const, Nat.reduceEqDiff, Nat.reduceAdd, Nat.reduceSub, Nat.reduceMul, Nat.reduceLT, Nat.reduceLeDiff, Nat.reduceBEq, Nat.reduceDiv, Nat.reduceMod, Int.reduceToNat, Int.reduceNeg, Int.reduceAdd, Int.reduceSub, Int.reduceMul, Int.reduceEq, Int.reduceNe, Int.reduceLT, Int.reduceLE, Int.reduceGT, Int.reduceGE, g2, g3, g52, g53, g54, hM2c]
                refine ⟨.inl (by decide), ?_⟩
                have hlk : (Pk.take j).length = j := by rw [List.length_take]; omega
                refine wapp_ms _ _ _ _ _ 3 _ _ ti_26 rfl ti_3 (by kernel_rfl) (by decide) idP _ _ (rows := ((Pk.take j).map fun n => modI n i).map irow) (keep := 0) [irow (modI q i)] ?_ ?_ (by simp) (Nat.zero_le _) ?_ ?_ ?_
                · simp (disch := omega) only [Mem.set_ne, hPP]
                · simp -implicitDefEqProofs (maxSteps := 1000000) (disch := omega) only [↓xsP, ↓vc_seq, xsQ, xsT, xsR, tch, tOf, idsOf, storeE, eqA, fitC, fitL, eqCells, eqL, isNilS, absL, loadA, storeA, fieldAddrA, lenA, sliceA, boundA, buildA, placesOf, overw, buildSliceA, makeSliceA, clearA, unA, convA, extractA, fieldA, indexA, nilChk, capsA, retA, retA1, retL, rowOf, srcRows, gslot, Value.oneCell', ↓reduceIte, reduceCtorEq, eq_self, ne_eq, imp_self, forall_const, Nat.reduceEqDiff, Nat.reduceAdd, Nat.reduceSub, Nat.reduceMul, Nat.reduceLT, Nat.reduceLeDiff, Nat.reduceBEq, Nat.reduceDiv, Nat.reduceMod, Int.reduceToNat, Int.reduceNeg, Int.reduceAdd, Int.reduceSub, Int.reduceMul, Int.reduceEq, Int.reduceNe, Int.reduceLT, Int.reduceLE, Int.reduceGT, Int.reduceGE]
                · exact Nat.le_trans (Nat.mul_le_mul_right _ (show (List.take j Pk).length + [irow (modI q i)].length ≤ 1000002 by simp; omega)) (by decide)
                · simp
                  omega
                simp -implicitDefEqProofs (maxSteps := 1000000) (disch := omega) only [↓xsP, ↓vc_seq, xsQ, xsT, xsR, tch, tOf, idsOf, storeE, eqA, fitC, fitL, eqCells, eqL, isNilS, absL, loadA, storeA, fieldAddrA, lenA, sliceA, boundA, buildA, placesOf, overw, buildSliceA, makeSliceA, clearA, unA, convA, extractA, fieldA, indexA, nilChk, capsA, retA, retA1, retL, rowOf, srcRows, gslot, Value.oneCell', ↓reduceIte, reduceCtorEq, eq_self, ne_eq, imp_self, forall_const, Nat.reduceEqDiff, Nat.reduceAdd, Nat.reduceSub, Nat.reduceMul, Nat.reduceLT, Nat.reduceLeDiff, Nat.reduceBEq, Nat.reduceDiv, Nat.reduceMod, Int.reduceToNat, Int.reduceNeg, Int.reduceAdd, Int.reduceSub, Int.reduceMul, Int.reduceEq, Int.reduceNe, Int.reduceLT, Int.reduceLE, Int.reduceGT, Int.reduceGE, g2, g3, g52, g53, g54, hM2c]
                rw [List.take_of_length_le (show (((Pk.take j).map fun n => modI n i).map irow).length ≤ (Pk.take j).length by simp)]
                have hfr : ∀ jj, n0 + 7 ≤ jj → (M'.set c (.cells 28 [crow i C pol bg v (.ms (n0 + 7) 0 (j + 1))] 0)) jj = none := fun jj hjj => by
                  have := hn0 jj (by omega)
                  rw [hMM, Mem.set_ne _ _ _ _ (by omega), Mem.set_ne _ _ _ _ (by omega)] at this
                  rw [Mem.set_ne _ _ _ _ (by omega)]
                  exact this
                refine ⟨.inl (by decide), Pk.length - (j + 1), (M'.set c (.cells 28 [crow i C pol bg v (.ms (n0 + 7) 0 (j + 1))] 0)).set (n0 + 7) (.cells 3 (((Pk.take j).map fun n => modI n i).map irow ++ [irow (modI q i)]) 0), by omega, ?_, j + 1, .ms (n0 + 7) 0 (j + 1), by omega, rfl, rfl, .inr ⟨n0 + 7, hfr, ?_, ?_⟩⟩
                · rw [hlk]
                  refine le_seti ?_ fun k bk hk h => ?_
                  · simp (disch := omega) only [Mem.set_ne, Mem.set_eq]
                    rfl
                  · rw [Mem.set_app] at h ⊢
                    by_cases hck : c = k
                    · rw [if_pos hck] at h ⊢; exact h
                    · rw [if_neg hck] at h ⊢
                      have h3 : (M'.set c (.cells 28 [crow i C pol bg v (.ms idP 0 (List.map irow (List.map (fun n => modI n i) (List.take j Pk))).length)] 0)) k = some bk := by rw [Mem.set_ne _ _ _ _ hck]; exact h
                      have h4 := lt_of_bnd hidP h3
                      have h2 : M2 k = some bk := by rw [hMM, Mem.set_ne _ _ _ _ (by omega)]; exact h3
                      have := lt_of_bnd hn0 h2
                      simp (disch := omega) only [Mem.set_ne, Mem.del_ne, h2]
                · rw [htk]; simp; omega
                · rw [htk, List.map_append, List.map_append]; rfl
          · have hjl : j = Pk.length := by omega
            subst hjl
            rw [List.take_length] at hO2
            have hcb : b ≠ c := by omega
            have hM2b : M2 b = some (.cells 28 [[.int .i64 0, .int .i64 0, .int .i64 0, .int .i64 0, .int .i64 0, .int .i64 0, .int .i64 0, .nils, .nils, .nils]] 0) := by
              refine hO2.base _ _ ?_
              rw [Mem.set_ne _ _ _ _ (fun e => hcb e.symm)]
              refine hO.base _ _ ?_
              rw [Mem.set_ne _ _ _ _ (fun e => hcb e.symm)]
              exact hBb
            simp -implicitDefEqProofs (maxSteps := 1000000) (disch := omega) only [↓xsP, ↓vc_seq, xsQ, xsT, xsR, tch, tOf, idsOf, storeE, eqA, fitC, fitL, eqCells, eqL, isNilS, absL, loadA, storeA, fieldAddrA, lenA, sliceA, boundA, buildA, placesOf, overw, buildSliceA, makeSliceA, clearA, unA, convA, extractA, fieldA, indexA, nilChk, capsA, retA, retA1, retL, rowOf, srcRows, gslot, Value.oneCell', ↓reduceIte, reduceCtorEq, eq_self, ne_eq, imp_self, forall_const, Nat.reduceEqDiff, Nat.reduceAdd, Nat.reduceSub, Nat.reduceMul, Nat.reduceLT, Nat.reduceLeDiff, Nat.reduceBEq, Nat.reduceDiv, Nat.reduceMod, Int.reduceToNat, Int.reduceNeg, Int.reduceAdd, Int.reduceSub, Int.reduceMul, Int.reduceEq, Int.reduceNe, Int.reduceLT, Int.reduceLE, Int.reduceGT, Int.reduceGE, g2, g3, hM2c, hM2b]
            have hMle : ∀ k bk, M k = some bk → k < a ∧ M2 k = some bk := fun k bk hk => by
              have h1 := lt_of_bnd ha hk
              refine ⟨h1, hO2.base _ _ ?_⟩
              rw [Mem.set_ne _ _ _ _ (by omega)]
              refine hO.base _ _ ?_
              rw [Mem.set_ne _ _ _ _ (by omega)]
              exact hMB _ _ hk
            have hend : (AV.agg [.int .i64 i, .int .i64 C, .int .i64 pol.high, .int .i64 pol.low, .int .i64 pol.cont, .int .i64 pol.unc, .int .i64 pol.multi, .sl (bg.map Pr.row), .sl ((rowsN s i).map oprow), .sl ((Pk.map fun n => modI n i).map irow)] : AV) = .agg (cleanS s).row := by
              rw [row_scr]
              simp only [cleanS, hbg, hC, hpol, hTn, hPk]
            rcases hO with ⟨hr0, _, _⟩ | ⟨idO, hidO, rfl, hMO⟩
            · have := congrArg List.length hr0
              simp [rowsN] at this
              omega
            · have hcO := lt_of_bnd hidO (Mem.set_eq B c _)
              have hO1 : M2 idO = some (.cells 32 ((rowsN s i).map oprow) 0) := by
                refine hO2.base _ _ ?_
                rw [Mem.set_ne _ _ _ _ (by omega), hMO]
                exact Mem.set_eq _ _ _
              have hNO : ∀ X, (M2.set b X) idO = some (.cells 32 ((rowsN s i).map oprow) 0) := fun X => by rw [Mem.set_ne _ _ _ _ (by omega)]; exact hO1
              rcases hO2 with ⟨hr0, rfl, hMM⟩ | ⟨idP, hidP, rfl, hMM⟩
              · have hPk0 : Pk = [] := by simpa using hr0
                refine finI_of (XFin.frz idO (hNO _) (XFin.wk (XFin.le (M' := M) (fun k bk hk => ?_) ⟨?_, rfl⟩)))
                · obtain ⟨h1, h2⟩ := hMle k bk hk
                  simp (disch := omega) only [Mem.set_ne, h2]
                · rw [← hend, hPk0]
                  simp [frzA, frz1, frzL, wkT, wkA, wkL, List.take_of_length_le]
              · have hMO' := lt_of_bnd hidP (show (M'.set c _) idO = some (.cells 32 ((rowsN s i).map oprow) 0) by rw [Mem.set_ne _ _ _ _ (by omega), hMO]; exact Mem.set_eq _ _ _)
                have hcP := lt_of_bnd hidP (Mem.set_eq M' c _)
                have hP1 : M2 idP = some (.cells 3 ((Pk.map fun n => modI n i).map irow) 0) := by rw [hMM]; exact Mem.set_eq _ _ _
                refine finI_of (XFin.frz idO (hNO _) (XFin.frz idP (by simp (disch := omega) only [Mem.set_ne, hP1]; rfl) (XFin.le (M' := M) (fun k bk hk => ?_) ⟨?_, rfl⟩)))
                · obtain ⟨h1, h2⟩ := hMle k bk hk
                  simp (disch := omega) only [Mem.set_ne, h2]
                · have hne : ¬ idP = idO := by omega
                  rw [← hend]
                  simp [frzA, frz1, frzL, List.take_of_length_le, hne]
end Go.X

/- Slices of pairs that may be nil; maps as the reference makes them. -/

set_option linter.unusedVariables false
set_option linter.unusedSimpArgs false
set_option maxHeartbeats 20000000
set_option maxRecDepth 100000
namespace Go.X
open Go.Proofs.Try (prog)

/-- A slice of pairs that may be nil. -/
def IsL (x : Lf) (s : List Pr) : Prop := x = .sl (s.map Pr.row) ∨ s = [] ∧ x = .nils
theorem IsL.sl (s : List Pr) : IsL (.sl (s.map Pr.row)) s := .inl rfl
theorem samePairs_is {x y : Lf} {l m : List Pr} (hx : IsL x l) (hy : IsL y m) (hl : l.length ≤ 4611686018427387904) (M : Mem) : XCalls Go.Proofs.Try.prog 51 [.l x, .l y] M fun r M' => r = .l (.bool (bof (l = m))) ∧ M' = M := by
  rcases hx with rfl | ⟨rfl, rfl⟩
  · rcases hy with rfl | ⟨rfl, rfl⟩
    · exact samePairs_spec l m hl M
    · exact XCalls.wk (samePairs_spec l [] hl M)
  · rcases hy with rfl | ⟨rfl, rfl⟩
    · have := XCalls.wk (args := [.l .nils, .l (.sl (m.map Pr.row))]) (samePairs_spec [] m hl M)
      exact this
    · exact XCalls.wk (samePairs_spec [] [] hl M)
theorem withR_is {x : Lf} {l : List Pr} (hx : IsL x l) (hl : l.length ≤ 1000000) (p : Pr) (M : Mem) : XCalls Go.Proofs.Try.prog 44 [.l x, .agg p.row] M fun r M' => r = .l (.sl ((withR l p).map Pr.row)) ∧ M' = M := by
  rcases hx with rfl | ⟨rfl, rfl⟩
  · exact withR_spec l hl p M
  · exact XCalls.wk (withR_spec [] hl p M)
theorem putL_withR' {l : List Pr} {i : Nat} (hi : i < l.length) : putL (l.take (i + 1)) = withR (putL (l.take i)) (l.getD i default) := by
  have hP := putL_asc (l.take i)
  rw [putL_take l hi, withR_eq hP, doL_upd hP (by simp [mayOpB, putOp]) (by simp [putOp]), oneL, if_pos (.inl rfl)]
  rfl
end Go.X

/- Scripts: what the reference's MapOf and Clean do. -/


set_option linter.unusedVariables false
set_option linter.unusedSimpArgs false
set_option maxHeartbeats 20000000
set_option maxRecDepth 100000
namespace Go.X
open Go.Proofs.Try (prog)

theorem mapOf_spec (b : List Pr) (hb : b.length ≤ 900000) (M : Mem) : XCalls Go.Proofs.Try.prog 15 [.l (.sl (b.map Pr.row))] M fun r M' => r = .l (.sl ((putL b).map Pr.row)) ∧ M' = M := by
  refine xcalls_intro (rs := [.tmp 2]) Go.Proofs.Try.func15 rfl (by kernel_rfl) rfl rfl (by kernel_rfl) (by simp) ?_
  have hPl := putL_len b
  simp -implicitDefEqProofs (maxSteps := 1000000) (disch := omega) only [↓xsP, ↓vc_seq, xsQ, xsT, xsR, tch, tOf, idsOf, storeE, eqA, fitC, fitL, eqCells, eqL, isNilS, absL, loadA, storeA, fieldAddrA, lenA, sliceA, boundA, buildA, placesOf, overw, buildSliceA, makeSliceA, clearA, unA, convA, extractA, fieldA, indexA, nilChk, capsA, retA, retA1, retL, rowOf, srcRows, gslot, Value.oneCell', ↓reduceIte, reduceCtorEq, eq_self, ne_eq, imp_self, forall_const, Nat.reduceEqDiff, Nat.reduceAdd, Nat.reduceSub, Nat.reduceMul, Nat.reduceLT, Nat.reduceLeDiff, Nat.reduceBEq, Nat.reduceDiv, Nat.reduceMod, Int.reduceToNat, Int.reduceNeg, Int.reduceAdd, Int.reduceSub, Int.reduceMul, Int.reduceEq, Int.reduceNe, Int.reduceLT, Int.reduceLE, Int.reduceGT, Int.reduceGE]
  refine loopI_of (xloop (by kernel_rfl) (fun k fr M' => ∃ (i : Nat) (x : Lf), i ≤ b.length ∧ k = b.length - i ∧ fr 3 = .l x ∧ IsL x (putL (b.take i)) ∧ fr 6 = .l (.sl (b.map Pr.row)) ∧ fr 7 = .l (.int .i64 b.length) ∧ fr 8 = .l (.int .i64 i) ∧ M' = M) b.length ?_ ?_)
  · exact ⟨0, .nils, Nat.zero_le _, rfl, by simp -implicitDefEqProofs (maxSteps := 1000000) (disch := omega) only [↓xsP, ↓vc_seq, xsQ, xsT, xsR, tch, tOf, idsOf, storeE, eqA, fitC, fitL, eqCells, eqL, isNilS, absL, loadA, storeA, fieldAddrA, lenA, sliceA, boundA, buildA, placesOf, overw, buildSliceA, makeSliceA, clearA, unA, convA, extractA, fieldA, indexA, nilChk, capsA, retA, retA1, retL, rowOf, srcRows, gslot, Value.oneCell', ↓reduceIte, reduceCtorEq, eq_self, ne_eq, imp_self, forall_const, Nat.reduceEqDiff, Nat.reduceAdd, Nat.reduceSub, Nat.reduceMul, Nat.reduceLT, Nat.reduceLeDiff, Nat.reduceBEq, Nat.reduceDiv, Nat.reduceMod, Int.reduceToNat, Int.reduceNeg, Int.reduceAdd, Int.reduceSub, Int.reduceMul, Int.reduceEq, Int.reduceNe, Int.reduceLT, Int.reduceLE, Int.reduceGT, Int.reduceGE], .inr ⟨rfl, rfl⟩, by simp -implicitDefEqProofs (maxSteps := 1000000) (disch := omega) only [↓xsP, ↓vc_seq, xsQ, xsT, xsR, tch, tOf, idsOf, storeE, eqA, fitC, fitL, eqCells, eqL, isNilS, absL, loadA, storeA, fieldAddrA, lenA, sliceA, boundA, buildA, placesOf, overw, buildSliceA, makeSliceA, clearA, unA, convA, extractA, fieldA, indexA, nilChk, capsA, retA, retA1, retL, rowOf, srcRows, gslot, Value.oneCell', ↓reduceIte, reduceCtorEq, eq_self, ne_eq, imp_self, forall_const, Nat.reduceEqDiff, Nat.reduceAdd, Nat.reduceSub, Nat.reduceMul, Nat.reduceLT, Nat.reduceLeDiff, Nat.reduceBEq, Nat.reduceDiv, Nat.reduceMod, Int.reduceToNat, Int.reduceNeg, Int.reduceAdd, Int.reduceSub, Int.reduceMul, Int.reduceEq, Int.reduceNe, Int.reduceLT, Int.reduceLE, Int.reduceGT, Int.reduceGE], by simp -implicitDefEqProofs (maxSteps := 1000000) (disch := omega) only [↓xsP, ↓vc_seq, xsQ, xsT, xsR, tch, tOf, idsOf, storeE, eqA, fitC, fitL, eqCells, eqL, isNilS, absL, loadA, storeA, fieldAddrA, lenA, sliceA, boundA, buildA, placesOf, overw, buildSliceA, makeSliceA, clearA, unA, convA, extractA, fieldA, indexA, nilChk, capsA, retA, retA1, retL, rowOf, srcRows, gslot, Value.oneCell', ↓reduceIte, reduceCtorEq, eq_self, ne_eq, imp_self, forall_const, Nat.reduceEqDiff, Nat.reduceAdd, Nat.reduceSub, Nat.reduceMul, Nat.reduceLT, Nat.reduceLeDiff, Nat.reduceBEq, Nat.reduceDiv, Nat.reduceMod, Int.reduceToNat, Int.reduceNeg, Int.reduceAdd, Int.reduceSub, Int.reduceMul, Int.reduceEq, Int.reduceNe, Int.reduceLT, Int.reduceLE, Int.reduceGT, Int.reduceGE], by simp -implicitDefEqProofs (maxSteps := 1000000) (disch := omega) only [↓xsP, ↓vc_seq, xsQ, xsT, xsR, tch, tOf, idsOf, storeE, eqA, fitC, fitL, eqCells, eqL, isNilS, absL, loadA, storeA, fieldAddrA, lenA, sliceA, boundA, buildA, placesOf, overw, buildSliceA, makeSliceA, clearA, unA, convA, extractA, fieldA, indexA, nilChk, capsA, retA, retA1, retL, rowOf, srcRows, gslot, Value.oneCell', ↓reduceIte, reduceCtorEq, eq_self, ne_eq, imp_self, forall_const, Nat.reduceEqDiff, Nat.reduceAdd, Nat.reduceSub, Nat.reduceMul, Nat.reduceLT, Nat.reduceLeDiff, Nat.reduceBEq, Nat.reduceDiv, Nat.reduceMod, Int.reduceToNat, Int.reduceNeg, Int.reduceAdd, Int.reduceSub, Int.reduceMul, Int.reduceEq, Int.reduceNe, Int.reduceLT, Int.reduceLE, Int.reduceGT, Int.reduceGE, Int.cast_ofNat_Int], rfl⟩
  · rintro k fr M' ⟨i, x, hi, rfl, h3, hx, h6, h7, h8, rfl⟩
    simp -implicitDefEqProofs (maxSteps := 1000000) (disch := omega) only [↓xsP, ↓vc_seq, xsQ, xsT, xsR, tch, tOf, idsOf, storeE, eqA, fitC, fitL, eqCells, eqL, isNilS, absL, loadA, storeA, fieldAddrA, lenA, sliceA, boundA, buildA, placesOf, overw, buildSliceA, makeSliceA, clearA, unA, convA, extractA, fieldA, indexA, nilChk, capsA, retA, retA1, retL, rowOf, srcRows, gslot, Value.oneCell', ↓reduceIte, reduceCtorEq, eq_self, ne_eq, imp_self, forall_const, Nat.reduceEqDiff, Nat.reduceAdd, Nat.reduceSub, Nat.reduceMul, Nat.reduceLT, Nat.reduceLeDiff, Nat.reduceBEq, Nat.reduceDiv, Nat.reduceMod, Int.reduceToNat, Int.reduceNeg, Int.reduceAdd, Int.reduceSub, Int.reduceMul, Int.reduceEq, Int.reduceNe, Int.reduceLT, Int.reduceLE, Int.reduceGT, Int.reduceGE, h3, h6, h7, h8]
    refine condI_prop (fun hlt => ?_) (fun hlt => ?_)
    · have hi' : i < b.length := by omega
      have hpt := putL_withR' hi'
      have htl := putL_len (b.take i)
      rw [List.length_take] at htl
      obtain ⟨q, hq⟩ : ∃ q, b.getD i default = q := ⟨_, rfl⟩
      rw [hq] at hpt
      simp -implicitDefEqProofs (maxSteps := 1000000) (disch := omega) only [↓xsP, ↓vc_seq, xsQ, xsT, xsR, tch, tOf, idsOf, storeE, eqA, fitC, fitL, eqCells, eqL, isNilS, absL, loadA, storeA, fieldAddrA, lenA, sliceA, boundA, buildA, placesOf, overw, buildSliceA, makeSliceA, clearA, unA, convA, extractA, fieldA, indexA, nilChk, capsA, retA, retA1, retL, rowOf, srcRows, gslot, Value.oneCell', ↓reduceIte, reduceCtorEq, eq_self, ne_eq, imp_self, forall_const, Nat.reduceEqDiff, Nat.reduceAdd, Nat.reduceSub, Nat.reduceMul, Nat.reduceLT, Nat.reduceLeDiff, Nat.reduceBEq, Nat.reduceDiv, Nat.reduceMod, Int.reduceToNat, Int.reduceNeg, Int.reduceAdd, Int.reduceSub, Int.reduceMul, Int.reduceEq, Int.reduceNe, Int.reduceLT, Int.reduceLE, Int.reduceGT, Int.reduceGE, h3, h6, h7, h8, hq]
      refine newI_intro fun p5 hp5 => ?_
      simp -implicitDefEqProofs (maxSteps := 1000000) (disch := omega) only [↓xsP, ↓vc_seq, xsQ, xsT, xsR, tch, tOf, idsOf, storeE, eqA, fitC, fitL, eqCells, eqL, isNilS, absL, loadA, storeA, fieldAddrA, lenA, sliceA, boundA, buildA, placesOf, overw, buildSliceA, makeSliceA, clearA, unA, convA, extractA, fieldA, indexA, nilChk, capsA, retA, retA1, retL, rowOf, srcRows, gslot, Value.oneCell', ↓reduceIte, reduceCtorEq, eq_self, ne_eq, imp_self, forall_const, Nat.reduceEqDiff, Nat.reduceAdd, Nat.reduceSub, Nat.reduceMul, Nat.reduceLT, Nat.reduceLeDiff, Nat.reduceBEq, Nat.reduceDiv, Nat.reduceMod, Int.reduceToNat, Int.reduceNeg, Int.reduceAdd, Int.reduceSub, Int.reduceMul, Int.reduceEq, Int.reduceNe, Int.reduceLT, Int.reduceLE, Int.reduceGT, Int.reduceGE, h3, h6, h7, h8, hq]
      refine call_of (withR_is hx (by omega) q _) ?_
      simp -implicitDefEqProofs (maxSteps := 1000000) (disch := omega) only [↓xsP, ↓vc_seq, xsQ, xsT, xsR, tch, tOf, idsOf, storeE, eqA, fitC, fitL, eqCells, eqL, isNilS, absL, loadA, storeA, fieldAddrA, lenA, sliceA, boundA, buildA, placesOf, overw, buildSliceA, makeSliceA, clearA, unA, convA, extractA, fieldA, indexA, nilChk, capsA, retA, retA1, retL, rowOf, srcRows, gslot, Value.oneCell', ↓reduceIte, reduceCtorEq, eq_self, ne_eq, imp_self, forall_const, Nat.reduceEqDiff, Nat.reduceAdd, Nat.reduceSub, Nat.reduceMul, Nat.reduceLT, Nat.reduceLeDiff, Nat.reduceBEq, Nat.reduceDiv, Nat.reduceMod, Int.reduceToNat, Int.reduceNeg, Int.reduceAdd, Int.reduceSub, Int.reduceMul, Int.reduceEq, Int.reduceNe, Int.reduceLT, Int.reduceLE, Int.reduceGT, Int.reduceGE, h3, h6, h7, h8, hq]
      exact ⟨b.length - (i + 1), _, by omega, le_new (Mem.le_refl _) hp5, i + 1, _, by omega, rfl, rfl, by rw [hpt]; exact IsL.sl _, rfl, rfl⟩
    · have hi' : i = b.length := by omega
      subst hi'
      rw [List.take_length] at hx
      simp -implicitDefEqProofs (maxSteps := 1000000) (disch := omega) only [↓xsP, ↓vc_seq, xsQ, xsT, xsR, tch, tOf, idsOf, storeE, eqA, fitC, fitL, eqCells, eqL, isNilS, absL, loadA, storeA, fieldAddrA, lenA, sliceA, boundA, buildA, placesOf, overw, buildSliceA, makeSliceA, clearA, unA, convA, extractA, fieldA, indexA, nilChk, capsA, retA, retA1, retL, rowOf, srcRows, gslot, Value.oneCell', ↓reduceIte, reduceCtorEq, eq_self, ne_eq, imp_self, forall_const, Nat.reduceEqDiff, Nat.reduceAdd, Nat.reduceSub, Nat.reduceMul, Nat.reduceLT, Nat.reduceLeDiff, Nat.reduceBEq, Nat.reduceDiv, Nat.reduceMod, Int.reduceToNat, Int.reduceNeg, Int.reduceAdd, Int.reduceSub, Int.reduceMul, Int.reduceEq, Int.reduceNe, Int.reduceLT, Int.reduceLE, Int.reduceGT, Int.reduceGE, h3]
      rcases hx with rfl | ⟨h0, rfl⟩
      · exact fin_ok (Mem.le_refl _) ⟨rfl, rfl⟩
      · refine finI_of (XFin.wk (XFin.here ⟨?_, rfl⟩))
        rw [h0]
        rfl
/-- The row that was put last is kept from here on; what the rows lie in is written at another block. -/
theorem OutR.frzIn {e eR : TypeId} {B M2 N2 : Mem} {c : Nat} {X X' : Blk} {v : Lf} {rows : List (List Lf)} {x : Lf} {L : List (List Lf)} (h : OutR e (B.set c X) v M2 (rows ++ [[x]])) (hle : M2.le N2) (hne : e ≠ eR)
    (hx : (x = .nils ∧ L = []) ∨ ∃ idR, x = .ms idR 0 L.length ∧ N2 idR = some (.cells eR L 0) ∧ (B.set c X) idR = none) (hr : ∀ r ∈ rows, ∀ y ∈ r, ∃ rs, y = .sl rs) :
    ∃ M4, GStep (N2.set c X') M4 ∧ OutR e (B.set c X') v M4 (rows ++ [[.sl L]]) := by
  obtain ⟨M3, h3, hle3⟩ := h.turn (X' := X') hle
  rcases hx with ⟨rfl, rfl⟩ | ⟨idR, rfl, hN, hf⟩
  · obtain ⟨M4, h4, hg⟩ := h3.wk
    refine ⟨M4, (GStep.le hle3).trans hg, ?_⟩
    have e1 : rows.map (fun r => r.map wkL) = rows := by
      conv => rhs; rw [← List.map_id rows]
      refine List.map_congr_left fun r hrr => ?_
      conv => rhs; rw [id, ← List.map_id r]
      exact List.map_congr_left fun y hy => by obtain ⟨rs, rfl⟩ := hr r hrr y hy; rfl
    rw [List.map_append, e1] at h4
    exact h4
  · rcases h3 with ⟨h1, _, _⟩ | ⟨idO, hO, h2, rfl⟩
    · exact absurd h1 (by simp)
    · have hcR : c ≠ idR := fun e => by subst e; rw [Mem.set_eq] at hf; cases hf
      have hNR : (N2.set c X') idR = some (.cells eR L 0) := by rw [Mem.set_ne _ _ _ _ hcR]; exact hN
      have hNO := hle3 _ _ (Mem.set_eq _ _ _)
      have hRO : idR ≠ idO := fun e' => by
        subst e'
        rw [hNR] at hNO
        simp only [Option.some.injEq, Blk.cells.injEq] at hNO
        exact hne hNO.1.symm
      have hg := GStep.frz_in hNR hNO hRO
      have e2 : (rows ++ [[Lf.ms idR 0 L.length]]).map (fun r => r.map (frzL idR L)) = rows ++ [[.sl L]] := by
        rw [List.map_append]
        congr 1
        · conv => rhs; rw [← List.map_id rows]
          refine List.map_congr_left fun r hrr => ?_
          conv => rhs; rw [id, ← List.map_id r]
          exact List.map_congr_left fun y hy => by obtain ⟨rs, rfl⟩ := hr r hrr y hy; rfl
        · simp [frzL]
      rw [e2] at hg
      refine ⟨(B.set c X').set idO (.cells e (rows ++ [[.sl L]]) 0), hg.trans (GStep.le fun k bk hk => ?_), .inr ⟨idO, hO, by simpa using h2, rfl⟩⟩
      by_cases hk0 : idO = k
      · subst hk0
        rw [Mem.set_eq] at hk ⊢
        exact hk
      · rw [Mem.set_ne _ _ _ _ hk0] at hk
        have hk3 := hle3 k bk (by rw [Mem.set_ne _ _ _ _ hk0]; exact hk)
        have hkR : idR ≠ k := fun e' => by
          subst e'
          rw [Mem.set_ne _ _ _ _ hcR] at hk hf
          rw [hf] at hk
          cases hk
        rw [Mem.set_ne _ _ _ _ hk0, Mem.set_ne _ _ _ _ hkR]
        exact hk3
theorem oprow_sl (L : List (List Opn)) : ∀ r ∈ L.map oprow, ∀ y ∈ r, ∃ rs, y = .sl rs := fun r hr y hy => by
  obtain ⟨l, _, rfl⟩ := List.mem_map.1 hr
  rw [row_ops] at hy
  simp at hy
  exact ⟨_, hy⟩
/-- The operations that may be, at most 60, of the first ones. -/
def rowF (l : List Opn) (j : Nat) : List Opn := cleanRow (l.take j)
theorem rowF_succ (l : List Opn) {j : Nat} (hj : j < l.length) : rowF l (j + 1) = if mayOpB (l.getD j default) = true ∧ (rowF l j).length < 60 then rowF l j ++ [l.getD j default] else rowF l j := by
  unfold rowF cleanRow
  rw [take_snoc l hj, List.filter_append]
  generalize l.getD j default = q
  generalize (l.take j).filter mayOpB = F
  cases hm : mayOpB q with
  | false => simp [hm]
  | true =>
    rw [List.filter_cons_of_pos hm, List.filter_nil, List.length_take]
    by_cases h : F.length < 60
    · rw [if_pos ⟨rfl, by omega⟩, List.take_of_length_le (by simp; omega), List.take_of_length_le (by omega)]
    · rw [if_neg (by omega), List.take_append_of_le_length (by omega)]
theorem rowF_len (l : List Opn) (j : Nat) : (rowF l j).length ≤ 60 := by unfold rowF cleanRow; rw [List.length_take]; omega
theorem modI_if (n m : Int) (h : 0 < m) : modI n m = if n.tmod m < 0 then n.tmod m + m else n.tmod m := by
  have h1 := Int.tmod_lt_of_pos n h
  have h2 := Int.lt_tmod_of_pos n h
  unfold modI
  generalize n.tmod m = r at h1 h2 ⊢
  split
  · rw [Int.tmod_eq_emod_of_nonneg (by omega), Int.emod_eq_of_lt (by omega) (by omega)]
  · rw [Int.tmod_eq_emod_of_nonneg (by omega), Int.add_emod_right, Int.emod_eq_of_lt (by omega) (by omega)]
theorem min_200 (n : Nat) : (if (200 : Int) < (n : Int) then (200 : Int) else (n : Int)) = ((min 200 n : Nat) : Int) := by
  split <;> omega
theorem take_min (l : List Pr) (n : Nat) : List.take (min n l.length) (l.map Pr.row) = (l.take n).map Pr.row := by
  rw [List.map_take, ← List.length_map (f := Pr.row), ← List.take_take, List.take_length]
theorem cleanR_spec (s : Scr) (hs : SmS s) (M : Mem) : XCalls Go.Proofs.Try.prog 26 [.agg s.row] M fun r M' => r = .agg (cleanS s).row ∧ M' = M := by
  refine xcalls_intro (rs := [.cell 2 28]) Go.Proofs.Try.func26 rfl (by kernel_rfl) rfl rfl (by kernel_rfl) (by simp) ?_
  have hb := hs.beg
  have ho := hs.ops
  have hp := hs.picks
  have hpl := putL_len s.beg
  have hT := thrN_le s
  simp -implicitDefEqProofs (maxSteps := 1000000) (disch := omega) only [↓xsP, ↓vc_seq, xsQ, xsT, xsR, tch, tOf, idsOf, storeE, eqA, fitC, fitL, eqCells, eqL, isNilS, absL, loadA, storeA, fieldAddrA, lenA, sliceA, boundA, buildA, placesOf, overw, buildSliceA, makeSliceA, clearA, unA, convA, extractA, fieldA, indexA, nilChk, capsA, retA, retA1, retL, rowOf, srcRows, gslot, Value.oneCell', ↓reduceIte, reduceCtorEq, eq_self, ne_eq, imp_self, forall_const, Nat.reduceEqDiff, Nat.reduceAdd, Nat.reduceSub, Nat.reduceMul, Nat.reduceLT, Nat.reduceLeDiff, Nat.reduceBEq, Nat.reduceDiv, Nat.reduceMod, Int.reduceToNat, Int.reduceNeg, Int.reduceAdd, Int.reduceSub, Int.reduceMul, Int.reduceEq, Int.reduceNe, Int.reduceLT, Int.reduceLE, Int.reduceGT, Int.reduceGE]
  refine newI_intro fun a ha => ?_
  simp -implicitDefEqProofs (maxSteps := 1000000) (disch := omega) only [↓xsP, ↓vc_seq, xsQ, xsT, xsR, tch, tOf, idsOf, storeE, eqA, fitC, fitL, eqCells, eqL, isNilS, absL, loadA, storeA, fieldAddrA, lenA, sliceA, boundA, buildA, placesOf, overw, buildSliceA, makeSliceA, clearA, unA, convA, extractA, fieldA, indexA, nilChk, capsA, retA, retA1, retL, rowOf, srcRows, gslot, Value.oneCell', ↓reduceIte, reduceCtorEq, eq_self, ne_eq, imp_self, forall_const, Nat.reduceEqDiff, Nat.reduceAdd, Nat.reduceSub, Nat.reduceMul, Nat.reduceLT, Nat.reduceLeDiff, Nat.reduceBEq, Nat.reduceDiv, Nat.reduceMod, Int.reduceToNat, Int.reduceNeg, Int.reduceAdd, Int.reduceSub, Int.reduceMul, Int.reduceEq, Int.reduceNe, Int.reduceLT, Int.reduceLE, Int.reduceGT, Int.reduceGE]
  refine newI_intro fun b hb2 => ?_
  obtain ⟨hab, hb2'⟩ := bnd_new hb2
  simp -implicitDefEqProofs (maxSteps := 1000000) (disch := omega) only [↓xsP, ↓vc_seq, xsQ, xsT, xsR, tch, tOf, idsOf, storeE, eqA, fitC, fitL, eqCells, eqL, isNilS, absL, loadA, storeA, fieldAddrA, lenA, sliceA, boundA, buildA, placesOf, overw, buildSliceA, makeSliceA, clearA, unA, convA, extractA, fieldA, indexA, nilChk, capsA, retA, retA1, retL, rowOf, srcRows, gslot, Value.oneCell', ↓reduceIte, reduceCtorEq, eq_self, ne_eq, imp_self, forall_const, Nat.reduceEqDiff, Nat.reduceAdd, Nat.reduceSub, Nat.reduceMul, Nat.reduceLT, Nat.reduceLeDiff, Nat.reduceBEq, Nat.reduceDiv, Nat.reduceMod, Int.reduceToNat, Int.reduceNeg, Int.reduceAdd, Int.reduceSub, Int.reduceMul, Int.reduceEq, Int.reduceNe, Int.reduceLT, Int.reduceLE, Int.reduceGT, Int.reduceGE]
  refine xwrite (fun n0 => [ (13, n0 + 12)]) [13] [12] [[], [], [], [], [], [], [], [], [], [], [], [], [], []] (by kernel_rfl) (by kernel_rfl) (by kernel_rfl) (by kernel_rfl) (fun n0 hn0 => ⟨rfl, ?_, ?_⟩)
  · exact TOk_cons (.inr ⟨12, by decide, by decide, rfl⟩) (TOk_nil _ _)
  · obtain ⟨hbn, hn0'⟩ := bnd_new hn0
    obtain ⟨han, hn0''⟩ := bnd_new hn0'
    simp -implicitDefEqProofs (maxSteps := 1000000) (disch := omega) only [↓xsP, ↓vc_seq, xsQ, xsT, xsR, tch, tOf, idsOf, storeE, eqA, fitC, fitL, eqCells, eqL, isNilS, absL, loadA, storeA, fieldAddrA, lenA, sliceA, boundA, buildA, placesOf, overw, buildSliceA, makeSliceA, clearA, unA, convA, extractA, fieldA, indexA, nilChk, capsA, retA, retA1, retL, rowOf, srcRows, gslot, Value.oneCell', ↓reduceIte, reduceCtorEq, eq_self, ne_eq, imp_self, forall_const, Nat.reduceEqDiff, Nat.reduceAdd, Nat.reduceSub, Nat.reduceMul, Nat.reduceLT, Nat.reduceLeDiff, Nat.reduceBEq, Nat.reduceDiv, Nat.reduceMod, Int.reduceToNat, Int.reduceNeg, Int.reduceAdd, Int.reduceSub, Int.reduceMul, Int.reduceEq, Int.reduceNe, Int.reduceLT, Int.reduceLE, Int.reduceGT, Int.reduceGE]
    refine wcallI_of (fun M' _ => clampR_spec s.pol M') ?_
    simp -implicitDefEqProofs (maxSteps := 1000000) (disch := omega) only [↓xsP, ↓vc_seq, xsQ, xsT, xsR, tch, tOf, idsOf, storeE, eqA, fitC, fitL, eqCells, eqL, isNilS, absL, loadA, storeA, fieldAddrA, lenA, sliceA, boundA, buildA, placesOf, overw, buildSliceA, makeSliceA, clearA, unA, convA, extractA, fieldA, indexA, nilChk, capsA, retA, retA1, retL, rowOf, srcRows, gslot, Value.oneCell', ↓reduceIte, reduceCtorEq, eq_self, ne_eq, imp_self, forall_const, Nat.reduceEqDiff, Nat.reduceAdd, Nat.reduceSub, Nat.reduceMul, Nat.reduceLT, Nat.reduceLeDiff, Nat.reduceBEq, Nat.reduceDiv, Nat.reduceMod, Int.reduceToNat, Int.reduceNeg, Int.reduceAdd, Int.reduceSub, Int.reduceMul, Int.reduceEq, Int.reduceNe, Int.reduceLT, Int.reduceLE, Int.reduceGT, Int.reduceGE]
    refine ⟨.inl (by decide), ?_⟩
    refine call_of (mapOf_spec s.beg (by omega) _) ?_
    simp -implicitDefEqProofs (maxSteps := 1000000) (disch := omega) only [↓xsP, ↓vc_seq, xsQ, xsT, xsR, tch, tOf, idsOf, storeE, eqA, fitC, fitL, eqCells, eqL, isNilS, absL, loadA, storeA, fieldAddrA, lenA, sliceA, boundA, buildA, placesOf, overw, buildSliceA, makeSliceA, clearA, unA, convA, extractA, fieldA, indexA, nilChk, capsA, retA, retA1, retL, rowOf, srcRows, gslot, Value.oneCell', ↓reduceIte, reduceCtorEq, eq_self, ne_eq, imp_self, forall_const, Nat.reduceEqDiff, Nat.reduceAdd, Nat.reduceSub, Nat.reduceMul, Nat.reduceLT, Nat.reduceLeDiff, Nat.reduceBEq, Nat.reduceDiv, Nat.reduceMod, Int.reduceToNat, Int.reduceNeg, Int.reduceAdd, Int.reduceSub, Int.reduceMul, Int.reduceEq, Int.reduceNe, Int.reduceLT, Int.reduceLE, Int.reduceGT, Int.reduceGE]
    rw [min_200]
    have h1 : (min 200 (putL s.beg).length ≤ (putL s.beg).length) = True := eq_true (by omega)
    have h2 : (∀ r ∈ (putL s.beg).map Pr.row, r.length = _) = True := eq_true (rows2 (putL s.beg))
    have h3 : (0 ≤ ((min 200 (putL s.beg).length : Nat) : Int)) = True := eq_true (by omega)
    simp -implicitDefEqProofs (maxSteps := 1000000) (disch := omega) only [↓xsP, ↓vc_seq, xsQ, xsT, xsR, tch, tOf, idsOf, storeE, eqA, fitC, fitL, eqCells, eqL, isNilS, absL, loadA, storeA, fieldAddrA, lenA, sliceA, boundA, buildA, placesOf, overw, buildSliceA, makeSliceA, clearA, unA, convA, extractA, fieldA, indexA, nilChk, capsA, retA, retA1, retL, rowOf, srcRows, gslot, Value.oneCell', ↓reduceIte, reduceCtorEq, eq_self, ne_eq, imp_self, forall_const, Nat.reduceEqDiff, Nat.reduceAdd, Nat.reduceSub, Nat.reduceMul, Nat.reduceLT, Nat.reduceLeDiff, Nat.reduceBEq, Nat.reduceDiv, Nat.reduceMod, Int.reduceToNat, Int.reduceNeg, Int.reduceAdd, Int.reduceSub, Int.reduceMul, Int.reduceEq, Int.reduceNe, Int.reduceLT, Int.reduceLE, Int.reduceGT, Int.reduceGE, h1, h2, h3, mm_max, mm_min]
    rw [take_min]
    have hTT : max 1 (min s.threads 6) = ((thrN s : Nat) : Int) := by unfold thrN; omega
    have hCC : max 0 (min s.cells 60000) = min (max s.cells 0) 60000 := by omega
    rw [hTT, hCC]
    generalize hbg : (putL s.beg).take 200 = bg
    generalize hC : min (max s.cells 0) 60000 = C
    generalize hpol : clampP s.pol = pol
    generalize hTn : thrN s = T at hT ⊢
    generalize hc : n0 + 12 = c
    have hB : ∀ B : Mem, (M.set a (.cells 28 [s.row] 0)).set b (.cells 28 [[.int .i64 0, .int .i64 0, .int .i64 0, .int .i64 0, .int .i64 0, .int .i64 0, .int .i64 0, .nils, .nils, .nils]] 0) = B → B a = some (.cells 28 [s.row] 0) ∧ B b = some (.cells 28 [[.int .i64 0, .int .i64 0, .int .i64 0, .int .i64 0, .int .i64 0, .int .i64 0, .int .i64 0, .nils, .nils, .nils]] 0) ∧ M.le B := by
      rintro B rfl
      exact ⟨by simp (disch := omega) only [Mem.set_ne, Mem.set_eq], Mem.set_eq _ _ _, le_new (le_new (Mem.le_refl _) ha) hb2'⟩
    rw [row_scr] at hB
    generalize (M.set a _).set b _ = B at hB hn0 ⊢
    obtain ⟨hBa, hBb, hMB⟩ := hB B rfl
    clear hB
    have hcB : ∀ j, c ≤ j → B j = none := fun j hj => hn0 j (by omega)
    have hac : a < c := by omega
    have hbc : b < c := by omega
    refine xloopG (by kernel_rfl) (fun k fr M' => ∃ (i : Nat) (v : Lf), i ≤ T ∧ k = T - i ∧ fr 1 = .l (.ptr a 0 0) ∧ fr 2 = .l (.ptr b 0 0) ∧ fr 3 = .l (.ptr c 0 0) ∧ fr 35 = .l (.int .i64 T) ∧ fr 36 = .l (.int .i64 i) ∧ OutR 32 (B.set c (.cells 28 [crow T C pol bg v .nils] 0)) v M' ((rowsN s i).map oprow)) T ?_ ?_
    · refine ⟨0, .nils, Nat.zero_le _, rfl, ?_, ?_, ?_, ?_, ?_, OutR.nil _ _⟩
      · simp -implicitDefEqProofs (maxSteps := 1000000) (disch := omega) only [↓xsP, ↓vc_seq, xsQ, xsT, xsR, tch, tOf, idsOf, storeE, eqA, fitC, fitL, eqCells, eqL, isNilS, absL, loadA, storeA, fieldAddrA, lenA, sliceA, boundA, buildA, placesOf, overw, buildSliceA, makeSliceA, clearA, unA, convA, extractA, fieldA, indexA, nilChk, capsA, retA, retA1, retL, rowOf, srcRows, gslot, Value.oneCell', ↓reduceIte, reduceCtorEq, eq_self, ne_eq, imp_self, forall_const, Nat.reduceEqDiff, Nat.reduceAdd, Nat.reduceSub, Nat.reduceMul, Nat.reduceLT, Nat.reduceLeDiff, Nat.reduceBEq, Nat.reduceDiv, Nat.reduceMod, Int.reduceToNat, Int.reduceNeg, Int.reduceAdd, Int.reduceSub, Int.reduceMul, Int.reduceEq, Int.reduceNe, Int.reduceLT, Int.reduceLE, Int.reduceGT, Int.reduceGE]
      · simp -implicitDefEqProofs (maxSteps := 1000000) (disch := omega) only [↓xsP, ↓vc_seq, xsQ, xsT, xsR, tch, tOf, idsOf, storeE, eqA, fitC, fitL, eqCells, eqL, isNilS, absL, loadA, storeA, fieldAddrA, lenA, sliceA, boundA, buildA, placesOf, overw, buildSliceA, makeSliceA, clearA, unA, convA, extractA, fieldA, indexA, nilChk, capsA, retA, retA1, retL, rowOf, srcRows, gslot, Value.oneCell', ↓reduceIte, reduceCtorEq, eq_self, ne_eq, imp_self, forall_const, Nat.reduceEqDiff, Nat.reduceAdd, Nat.reduceSub, Nat.reduceMul, Nat.reduceLT, Nat.reduceLeDiff, Nat.reduceBEq, Nat.reduceDiv, Nat.reduceMod, Int.reduceToNat, Int.reduceNeg, Int.reduceAdd, Int.reduceSub, Int.reduceMul, Int.reduceEq, Int.reduceNe, Int.reduceLT, Int.reduceLE, Int.reduceGT, Int.reduceGE]
      · simp -implicitDefEqProofs (maxSteps := 1000000) (disch := omega) only [↓xsP, ↓vc_seq, xsQ, xsT, xsR, tch, tOf, idsOf, storeE, eqA, fitC, fitL, eqCells, eqL, isNilS, absL, loadA, storeA, fieldAddrA, lenA, sliceA, boundA, buildA, placesOf, overw, buildSliceA, makeSliceA, clearA, unA, convA, extractA, fieldA, indexA, nilChk, capsA, retA, retA1, retL, rowOf, srcRows, gslot, Value.oneCell', ↓reduceIte, reduceCtorEq, eq_self, ne_eq, imp_self, forall_const, Nat.reduceEqDiff, Nat.reduceAdd, Nat.reduceSub, Nat.reduceMul, Nat.reduceLT, Nat.reduceLeDiff, Nat.reduceBEq, Nat.reduceDiv, Nat.reduceMod, Int.reduceToNat, Int.reduceNeg, Int.reduceAdd, Int.reduceSub, Int.reduceMul, Int.reduceEq, Int.reduceNe, Int.reduceLT, Int.reduceLE, Int.reduceGT, Int.reduceGE]
      · simp -implicitDefEqProofs (maxSteps := 1000000) (disch := omega) only [↓xsP, ↓vc_seq, xsQ, xsT, xsR, tch, tOf, idsOf, storeE, eqA, fitC, fitL, eqCells, eqL, isNilS, absL, loadA, storeA, fieldAddrA, lenA, sliceA, boundA, buildA, placesOf, overw, buildSliceA, makeSliceA, clearA, unA, convA, extractA, fieldA, indexA, nilChk, capsA, retA, retA1, retL, rowOf, srcRows, gslot, Value.oneCell', ↓reduceIte, reduceCtorEq, eq_self, ne_eq, imp_self, forall_const, Nat.reduceEqDiff, Nat.reduceAdd, Nat.reduceSub, Nat.reduceMul, Nat.reduceLT, Nat.reduceLeDiff, Nat.reduceBEq, Nat.reduceDiv, Nat.reduceMod, Int.reduceToNat, Int.reduceNeg, Int.reduceAdd, Int.reduceSub, Int.reduceMul, Int.reduceEq, Int.reduceNe, Int.reduceLT, Int.reduceLE, Int.reduceGT, Int.reduceGE]
      · simp -implicitDefEqProofs (maxSteps := 1000000) (disch := omega) only [↓xsP, ↓vc_seq, xsQ, xsT, xsR, tch, tOf, idsOf, storeE, eqA, fitC, fitL, eqCells, eqL, isNilS, absL, loadA, storeA, fieldAddrA, lenA, sliceA, boundA, buildA, placesOf, overw, buildSliceA, makeSliceA, clearA, unA, convA, extractA, fieldA, indexA, nilChk, capsA, retA, retA1, retL, rowOf, srcRows, gslot, Value.oneCell', ↓reduceIte, reduceCtorEq, eq_self, ne_eq, imp_self, forall_const, Nat.reduceEqDiff, Nat.reduceAdd, Nat.reduceSub, Nat.reduceMul, Nat.reduceLT, Nat.reduceLeDiff, Nat.reduceBEq, Nat.reduceDiv, Nat.reduceMod, Int.reduceToNat, Int.reduceNeg, Int.reduceAdd, Int.reduceSub, Int.reduceMul, Int.reduceEq, Int.reduceNe, Int.reduceLT, Int.reduceLE, Int.reduceGT, Int.reduceGE, Int.cast_ofNat_Int]
    · rintro k fr M' ⟨i, v, hi, rfl, g1, g2, g3, g35, g36, hO⟩
      have hM'a : M' a = some (.cells 28 [s.row] 0) := hO.base _ _ (by rw [Mem.set_ne _ _ _ _ (by omega)]; exact hBa)
      have hM'c : M' c = some (.cells 28 [crow T C pol bg v .nils] 0) := hO.base _ _ (Mem.set_eq _ _ _)
      rw [row_scr] at hM'a
      simp -implicitDefEqProofs (maxSteps := 1000000) (disch := omega) only [↓xsP, ↓vc_seq, xsQ, xsT, xsR, tch, tOf, idsOf, storeE, eqA, fitC, fitL, eqCells, eqL, isNilS, absL, loadA, storeA, fieldAddrA, lenA, sliceA, boundA, buildA, placesOf, overw, buildSliceA, makeSliceA, clearA, unA, convA, extractA, fieldA, indexA, nilChk, capsA, retA, retA1, retL, rowOf, srcRows, gslot, Value.oneCell', ↓reduceIte, reduceCtorEq, eq_self, ne_eq, imp_self, forall_const, Nat.reduceEqDiff, Nat.reduceAdd, Nat.reduceSub, Nat.reduceMul, Nat.reduceLT, Nat.reduceLeDiff, Nat.reduceBEq, Nat.reduceDiv, Nat.reduceMod, Int.reduceToNat, Int.reduceNeg, Int.reduceAdd, Int.reduceSub, Int.reduceMul, Int.reduceEq, Int.reduceNe, Int.reduceLT, Int.reduceLE, Int.reduceGT, Int.reduceGE, g1, g2, g3, g35, g36]
      refine condI_prop (fun hlt => ?_) (fun hlt => ?_)
      · have hi' : i < T := by omega
        simp -implicitDefEqProofs (maxSteps := 1000000) (disch := omega) only [↓xsP, xsQ, xsT, xsR, tch, tOf, idsOf, storeE, eqA, fitC, fitL, eqCells, eqL, isNilS, absL, loadA, storeA, fieldAddrA, lenA, sliceA, boundA, buildA, placesOf, overw, buildSliceA, makeSliceA, clearA, unA, convA, extractA, fieldA, indexA, nilChk, capsA, retA, retA1, retL, rowOf, srcRows, gslot, Value.oneCell', ↓reduceIte, reduceCtorEq, eq_self, ne_eq, imp_self, forall_const, Nat.reduceEqDiff, Nat.reduceAdd, Nat.reduceSub, Nat.reduceMul, Nat.reduceLT, Nat.reduceLeDiff, Nat.reduceBEq, Nat.reduceDiv, Nat.reduceMod, Int.reduceToNat, Int.reduceNeg, Int.reduceAdd, Int.reduceSub, Int.reduceMul, Int.reduceEq, Int.reduceNe, Int.reduceLT, Int.reduceLE, Int.reduceGT, Int.reduceGE, g1, g2, g3, g35, g36]
        refine vc_seq_of ?_
        simp -implicitDefEqProofs (maxSteps := 1000000) (disch := omega) only [↓xsP, xsQ, xsT, xsR, tch, tOf, idsOf, storeE, eqA, fitC, fitL, eqCells, eqL, isNilS, absL, loadA, storeA, fieldAddrA, lenA, sliceA, boundA, buildA, placesOf, overw, buildSliceA, makeSliceA, clearA, unA, convA, extractA, fieldA, indexA, nilChk, capsA, retA, retA1, retL, rowOf, srcRows, gslot, Value.oneCell', ↓reduceIte, reduceCtorEq, eq_self, ne_eq, imp_self, forall_const, Nat.reduceEqDiff, Nat.reduceAdd, Nat.reduceSub, Nat.reduceMul, Nat.reduceLT, Nat.reduceLeDiff, Nat.reduceBEq, Nat.reduceDiv, Nat.reduceMod, Int.reduceToNat, Int.reduceNeg, Int.reduceAdd, Int.reduceSub, Int.reduceMul, Int.reduceEq, Int.reduceNe, Int.reduceLT, Int.reduceLE, Int.reduceGT, Int.reduceGE, g1, g2, g3, g35, g36]
        refine vc_seq_of ?_
        simp -implicitDefEqProofs (maxSteps := 1000000) (disch := omega) only [↓xsP, xsQ, xsT, xsR, tch, tOf, idsOf, storeE, eqA, fitC, fitL, eqCells, eqL, isNilS, absL, loadA, storeA, fieldAddrA, lenA, sliceA, boundA, buildA, placesOf, overw, buildSliceA, makeSliceA, clearA, unA, convA, extractA, fieldA, indexA, nilChk, capsA, retA, retA1, retL, rowOf, srcRows, gslot, Value.oneCell', ↓reduceIte, reduceCtorEq, eq_self, ne_eq, imp_self, forall_const, Nat.reduceEqDiff, Nat.reduceAdd, Nat.reduceSub, Nat.reduceMul, Nat.reduceLT, Nat.reduceLeDiff, Nat.reduceBEq, Nat.reduceDiv, Nat.reduceMod, Int.reduceToNat, Int.reduceNeg, Int.reduceAdd, Int.reduceSub, Int.reduceMul, Int.reduceEq, Int.reduceNe, Int.reduceLT, Int.reduceLE, Int.reduceGT, Int.reduceGE, g1, g2, g3, g35, g36]
        refine vc_seq_of ?_
        simp -implicitDefEqProofs (maxSteps := 1000000) (disch := omega) only [↓xsP, xsQ, xsT, xsR, tch, tOf, idsOf, storeE, eqA, fitC, fitL, eqCells, eqL, isNilS, absL, loadA, storeA, fieldAddrA, lenA, sliceA, boundA, buildA, placesOf, overw, buildSliceA, makeSliceA, clearA, unA, convA, extractA, fieldA, indexA, nilChk, capsA, retA, retA1, retL, rowOf, srcRows, gslot, Value.oneCell', ↓reduceIte, reduceCtorEq, eq_self, ne_eq, imp_self, forall_const, Nat.reduceEqDiff, Nat.reduceAdd, Nat.reduceSub, Nat.reduceMul, Nat.reduceLT, Nat.reduceLeDiff, Nat.reduceBEq, Nat.reduceDiv, Nat.reduceMod, Int.reduceToNat, Int.reduceNeg, Int.reduceAdd, Int.reduceSub, Int.reduceMul, Int.reduceEq, Int.reduceNe, Int.reduceLT, Int.reduceLE, Int.reduceGT, Int.reduceGE, g1, g2, g3, g35, g36]
        refine vc_cut (fun fr' N' => ∃ x5 M5, OutR 34 M' x5 M5 ((cleanRow (s.ops.getD i [])).map Opn.row) ∧ M5.le N' ∧ fr' 5 = .l x5 ∧ fr' 1 = .l (.ptr a 0 0) ∧ fr' 2 = .l (.ptr b 0 0) ∧ fr' 3 = .l (.ptr c 0 0) ∧ fr' 35 = .l (.int .i64 T) ∧ fr' 36 = .l (.int .i64 i)) ?_ ?_
        · simp -implicitDefEqProofs (maxSteps := 1000000) (disch := omega) only [↓xsP, ↓vc_seq, xsQ, xsT, xsR, tch, tOf, idsOf, storeE, eqA, fitC, fitL, eqCells, eqL, isNilS, absL, loadA, storeA, fieldAddrA, lenA, sliceA, boundA, buildA, placesOf, overw, buildSliceA, makeSliceA, clearA, unA, convA, extractA, fieldA, indexA, nilChk, capsA, retA, retA1, retL, rowOf, srcRows, gslot, Value.oneCell', ↓reduceIte, reduceCtorEq, eq_self, ne_eq, imp_self, forall_const, Nat.reduceEqDiff, Nat.reduceAdd, Nat.reduceSub, Nat.reduceMul, Nat.reduceLT, Nat.reduceLeDiff, Nat.reduceBEq, Nat.reduceDiv, Nat.reduceMod, Int.reduceToNat, Int.reduceNeg, Int.reduceAdd, Int.reduceSub, Int.reduceMul, Int.reduceEq, Int.reduceNe, Int.reduceLT, Int.reduceLE, Int.reduceGT, Int.reduceGE, g1, g2, g3, g35, g36, hM'a]
          refine condI_prop (fun hin => ?_) (fun hin => ?_)
          · have hi2 : i < s.ops.length := by omega
            have hrl := hs.rowAt hi2
            have hdd : s.ops.getD i [] = s.ops.getD i default := rfl
            rw [hdd]
            obtain ⟨l, hl⟩ : ∃ l, s.ops.getD i default = l := ⟨_, rfl⟩
            rw [hl] at hrl ⊢
            simp -implicitDefEqProofs (maxSteps := 1000000) (disch := omega) only [↓xsP, ↓vc_seq, xsQ, xsT, xsR, tch, tOf, idsOf, storeE, eqA, fitC, fitL, eqCells, eqL, isNilS, absL, loadA, storeA, fieldAddrA, lenA, sliceA, boundA, buildA, placesOf, overw, buildSliceA, makeSliceA, clearA, unA, convA, extractA, fieldA, indexA, nilChk, capsA, retA, retA1, retL, rowOf, srcRows, gslot, Value.oneCell', ↓reduceIte, reduceCtorEq, eq_self, ne_eq, imp_self, forall_const, Nat.reduceEqDiff, Nat.reduceAdd, Nat.reduceSub, Nat.reduceMul, Nat.reduceLT, Nat.reduceLeDiff, Nat.reduceBEq, Nat.reduceDiv, Nat.reduceMod, Int.reduceToNat, Int.reduceNeg, Int.reduceAdd, Int.reduceSub, Int.reduceMul, Int.reduceEq, Int.reduceNe, Int.reduceLT, Int.reduceLE, Int.reduceGT, Int.reduceGE, g1, g2, g3, g35, g36, hM'a, hl]
            refine loopI_of (xloop (by kernel_rfl) (fun k fr M2 => ∃ (j : Nat) (x5 : Lf), j ≤ l.length ∧ k = l.length - j ∧ fr 1 = .l (.ptr a 0 0) ∧ fr 2 = .l (.ptr b 0 0) ∧ fr 3 = .l (.ptr c 0 0) ∧ fr 35 = .l (.int .i64 T) ∧ fr 36 = .l (.int .i64 i) ∧ fr 5 = .l x5 ∧ fr 48 = .l (.sl (l.map Opn.row)) ∧ fr 49 = .l (.int .i64 l.length) ∧ fr 50 = .l (.int .i64 j) ∧ OutR 34 M' x5 M2 ((rowF l j).map Opn.row)) l.length ?_ ?_)
            · exact ⟨0, .nils, Nat.zero_le _, rfl, by simp -implicitDefEqProofs (maxSteps := 1000000) (disch := omega) only [↓xsP, ↓vc_seq, xsQ, xsT, xsR, tch, tOf, idsOf, storeE, eqA, fitC, fitL, eqCells, eqL, isNilS, absL, loadA, storeA, fieldAddrA, lenA, sliceA, boundA, buildA, placesOf, overw, buildSliceA, makeSliceA, clearA, unA, convA, extractA, fieldA, indexA, nilChk, capsA, retA, retA1, retL, rowOf, srcRows, gslot, Value.oneCell', ↓reduceIte, reduceCtorEq, eq_self, ne_eq, imp_self, forall_const, Nat.reduceEqDiff, Nat.reduceAdd, Nat.reduceSub, Nat.reduceMul, Nat.reduceLT, Nat.reduceLeDiff, Nat.reduceBEq, Nat.reduceDiv, Nat.reduceMod, Int.reduceToNat, Int.reduceNeg, Int.reduceAdd, Int.reduceSub, Int.reduceMul, Int.reduceEq, Int.reduceNe, Int.reduceLT, Int.reduceLE, Int.reduceGT, Int.reduceGE, g1], by simp -implicitDefEqProofs (maxSteps := 1000000) (disch := omega) only [↓xsP, ↓vc_seq, xsQ, xsT, xsR, tch, tOf, idsOf, storeE, eqA, fitC, fitL, eqCells, eqL, isNilS, absL, loadA, storeA, fieldAddrA, lenA, sliceA, boundA, buildA, placesOf, overw, buildSliceA, makeSliceA, clearA, unA, convA, extractA, fieldA, indexA, nilChk, capsA, retA, retA1, retL, rowOf, srcRows, gslot, Value.oneCell', ↓reduceIte, reduceCtorEq, eq_self, ne_eq, imp_self, forall_const, Nat.reduceEqDiff, Nat.reduceAdd, Nat.reduceSub, Nat.reduceMul, Nat.reduceLT, Nat.reduceLeDiff, Nat.reduceBEq, Nat.reduceDiv, Nat.reduceMod, Int.reduceToNat, Int.reduceNeg, Int.reduceAdd, Int.reduceSub, Int.reduceMul, Int.reduceEq, Int.reduceNe, Int.reduceLT, Int.reduceLE, Int.reduceGT, Int.reduceGE, g2], by simp -implicitDefEqProofs (maxSteps := 1000000) (disch := omega) only [↓xsP, ↓vc_seq, xsQ, xsT, xsR, tch, tOf, idsOf, storeE, eqA, fitC, fitL, eqCells, eqL, isNilS, absL, loadA, storeA, fieldAddrA, lenA, sliceA, boundA, buildA, placesOf, overw, buildSliceA, makeSliceA, clearA, unA, convA, extractA, fieldA, indexA, nilChk, capsA, retA, retA1, retL, rowOf, srcRows, gslot, Value.oneCell', ↓reduceIte, reduceCtorEq, eq_self, ne_eq, imp_self, forall_const, Nat.reduceEqDiff, Nat.reduceAdd, Nat.reduceSub, Nat.reduceMul, Nat.reduceLT, Nat.reduceLeDiff, Nat.reduceBEq, Nat.reduceDiv, Nat.reduceMod, Int.reduceToNat, Int.reduceNeg, Int.reduceAdd, Int.reduceSub, Int.reduceMul, Int.reduceEq, Int.reduceNe, Int.reduceLT, Int.reduceLE, Int.reduceGT, Int.reduceGE, g3], by simp -implicitDefEqProofs (maxSteps := 1000000) (disch := omega) only [↓xsP, ↓vc_seq, xsQ, xsT, xsR, tch, tOf, idsOf, storeE, eqA, fitC, fitL, eqCells, eqL, isNilS, absL, loadA, storeA, fieldAddrA, lenA, sliceA, boundA, buildA, placesOf, overw, buildSliceA, makeSliceA, clearA, unA, convA, extractA, fieldA, indexA, nilChk, capsA, retA, retA1, retL, rowOf, srcRows, gslot, Value.oneCell', ↓reduceIte, reduceCtorEq, eq_self, ne_eq, imp_self, forall_const, Nat.reduceEqDiff, Nat.reduceAdd, Nat.reduceSub, Nat.reduceMul, Nat.reduceLT, Nat.reduceLeDiff, Nat.reduceBEq, Nat.reduceDiv, Nat.reduceMod, Int.reduceToNat, Int.reduceNeg, Int.reduceAdd, Int.reduceSub, Int.reduceMul, Int.reduceEq, Int.reduceNe, Int.reduceLT, Int.reduceLE, Int.reduceGT, Int.reduceGE, g35], by simp -implicitDefEqProofs (maxSteps := 1000000) (disch := omega) only [↓xsP, ↓vc_seq, xsQ, xsT, xsR, tch, tOf, idsOf, storeE, eqA, fitC, fitL, eqCells, eqL, isNilS, absL, loadA, storeA, fieldAddrA, lenA, sliceA, boundA, buildA, placesOf, overw, buildSliceA, makeSliceA, clearA, unA, convA, extractA, fieldA, indexA, nilChk, capsA, retA, retA1, retL, rowOf, srcRows, gslot, Value.oneCell', ↓reduceIte, reduceCtorEq, eq_self, ne_eq, imp_self, forall_const, Nat.reduceEqDiff, Nat.reduceAdd, Nat.reduceSub, Nat.reduceMul, Nat.reduceLT, Nat.reduceLeDiff, Nat.reduceBEq, Nat.reduceDiv, Nat.reduceMod, Int.reduceToNat, Int.reduceNeg, Int.reduceAdd, Int.reduceSub, Int.reduceMul, Int.reduceEq, Int.reduceNe, Int.reduceLT, Int.reduceLE, Int.reduceGT, Int.reduceGE, g36], by simp -implicitDefEqProofs (maxSteps := 1000000) (disch := omega) only [↓xsP, ↓vc_seq, xsQ, xsT, xsR, tch, tOf, idsOf, storeE, eqA, fitC, fitL, eqCells, eqL, isNilS, absL, loadA, storeA, fieldAddrA, lenA, sliceA, boundA, buildA, placesOf, overw, buildSliceA, makeSliceA, clearA, unA, convA, extractA, fieldA, indexA, nilChk, capsA, retA, retA1, retL, rowOf, srcRows, gslot, Value.oneCell', ↓reduceIte, reduceCtorEq, eq_self, ne_eq, imp_self, forall_const, Nat.reduceEqDiff, Nat.reduceAdd, Nat.reduceSub, Nat.reduceMul, Nat.reduceLT, Nat.reduceLeDiff, Nat.reduceBEq, Nat.reduceDiv, Nat.reduceMod, Int.reduceToNat, Int.reduceNeg, Int.reduceAdd, Int.reduceSub, Int.reduceMul, Int.reduceEq, Int.reduceNe, Int.reduceLT, Int.reduceLE, Int.reduceGT, Int.reduceGE], by simp -implicitDefEqProofs (maxSteps := 1000000) (disch := omega) only [↓xsP, ↓vc_seq, xsQ, xsT, xsR, tch, tOf, idsOf, storeE, eqA, fitC, fitL, eqCells, eqL, isNilS, absL, loadA, storeA, fieldAddrA, lenA, sliceA, boundA, buildA, placesOf, overw, buildSliceA, makeSliceA, clearA, unA, convA, extractA, fieldA, indexA, nilChk, capsA, retA, retA1, retL, rowOf, srcRows, gslot, Value.oneCell', ↓reduceIte, reduceCtorEq, eq_self, ne_eq, imp_self, forall_const, Nat.reduceEqDiff, Nat.reduceAdd, Nat.reduceSub, Nat.reduceMul, Nat.reduceLT, Nat.reduceLeDiff, Nat.reduceBEq, Nat.reduceDiv, Nat.reduceMod, Int.reduceToNat, Int.reduceNeg, Int.reduceAdd, Int.reduceSub, Int.reduceMul, Int.reduceEq, Int.reduceNe, Int.reduceLT, Int.reduceLE, Int.reduceGT, Int.reduceGE], by simp -implicitDefEqProofs (maxSteps := 1000000) (disch := omega) only [↓xsP, ↓vc_seq, xsQ, xsT, xsR, tch, tOf, idsOf, storeE, eqA, fitC, fitL, eqCells, eqL, isNilS, absL, loadA, storeA, fieldAddrA, lenA, sliceA, boundA, buildA, placesOf, overw, buildSliceA, makeSliceA, clearA, unA, convA, extractA, fieldA, indexA, nilChk, capsA, retA, retA1, retL, rowOf, srcRows, gslot, Value.oneCell', ↓reduceIte, reduceCtorEq, eq_self, ne_eq, imp_self, forall_const, Nat.reduceEqDiff, Nat.reduceAdd, Nat.reduceSub, Nat.reduceMul, Nat.reduceLT, Nat.reduceLeDiff, Nat.reduceBEq, Nat.reduceDiv, Nat.reduceMod, Int.reduceToNat, Int.reduceNeg, Int.reduceAdd, Int.reduceSub, Int.reduceMul, Int.reduceEq, Int.reduceNe, Int.reduceLT, Int.reduceLE, Int.reduceGT, Int.reduceGE], by simp -implicitDefEqProofs (maxSteps := 1000000) (disch := omega) only [↓xsP, ↓vc_seq, xsQ, xsT, xsR, tch, tOf, idsOf, storeE, eqA, fitC, fitL, eqCells, eqL, isNilS, absL, loadA, storeA, fieldAddrA, lenA, sliceA, boundA, buildA, placesOf, overw, buildSliceA, makeSliceA, clearA, unA, convA, extractA, fieldA, indexA, nilChk, capsA, retA, retA1, retL, rowOf, srcRows, gslot, Value.oneCell', ↓reduceIte, reduceCtorEq, eq_self, ne_eq, imp_self, forall_const, Nat.reduceEqDiff, Nat.reduceAdd, Nat.reduceSub, Nat.reduceMul, Nat.reduceLT, Nat.reduceLeDiff, Nat.reduceBEq, Nat.reduceDiv, Nat.reduceMod, Int.reduceToNat, Int.reduceNeg, Int.reduceAdd, Int.reduceSub, Int.reduceMul, Int.reduceEq, Int.reduceNe, Int.reduceLT, Int.reduceLE, Int.reduceGT, Int.reduceGE, Int.cast_ofNat_Int], OutR.nil _ _⟩
            · clear g1 g2 g3 g35 g36
              rintro k fr M2 ⟨j, x5, hj, rfl, g1, g2, g3, g35, g36, g5, g48, g49, g50, hO2⟩
              simp -implicitDefEqProofs (maxSteps := 1000000) (disch := omega) only [↓xsP, ↓vc_seq, xsQ, xsT, xsR, tch, tOf, idsOf, storeE, eqA, fitC, fitL, eqCells, eqL, isNilS, absL, loadA, storeA, fieldAddrA, lenA, sliceA, boundA, buildA, placesOf, overw, buildSliceA, makeSliceA, clearA, unA, convA, extractA, fieldA, indexA, nilChk, capsA, retA, retA1, retL, rowOf, srcRows, gslot, Value.oneCell', ↓reduceIte, reduceCtorEq, eq_self, ne_eq, imp_self, forall_const, Nat.reduceEqDiff, Nat.reduceAdd, Nat.reduceSub, Nat.reduceMul, Nat.reduceLT, Nat.reduceLeDiff, Nat.reduceBEq, Nat.reduceDiv, Nat.reduceMod, Int.reduceToNat, Int.reduceNeg, Int.reduceAdd, Int.reduceSub, Int.reduceMul, Int.reduceEq, Int.reduceNe, Int.reduceLT, Int.reduceLE, Int.reduceGT, Int.reduceGE, g1, g2, g3, g35, g36, g5, g48, g49, g50]
              refine condI_prop (fun hlt2 => ?_) (fun hlt2 => ?_)
              · have hj' : j < l.length := by omega
                have hsu := rowF_succ l hj'
                have hrw := rowF_len l j
                obtain ⟨q, hq⟩ : ∃ q, l.getD j default = q := ⟨_, rfl⟩
                rw [hq] at hsu
                simp -implicitDefEqProofs (maxSteps := 1000000) (disch := omega) only [↓xsP, ↓vc_seq, xsQ, xsT, xsR, tch, tOf, idsOf, storeE, eqA, fitC, fitL, eqCells, eqL, isNilS, absL, loadA, storeA, fieldAddrA, lenA, sliceA, boundA, buildA, placesOf, overw, buildSliceA, makeSliceA, clearA, unA, convA, extractA, fieldA, indexA, nilChk, capsA, retA, retA1, retL, rowOf, srcRows, gslot, Value.oneCell', ↓reduceIte, reduceCtorEq, eq_self, ne_eq, imp_self, forall_const, Nat.reduceEqDiff, Nat.reduceAdd, Nat.reduceSub, Nat.reduceMul, Nat.reduceLT, Nat.reduceLeDiff, Nat.reduceBEq, Nat.reduceDiv, Nat.reduceMod, Int.reduceToNat, Int.reduceNeg, Int.reduceAdd, Int.reduceSub, Int.reduceMul, Int.reduceEq, Int.reduceNe, Int.reduceLT, Int.reduceLE, Int.reduceGT, Int.reduceGE, g1, g2, g3, g35, g36, g5, g48, g49, g50, hq]
                refine newI_intro fun p7 hp7 => ?_
                simp -implicitDefEqProofs (maxSteps := 1000000) (disch := omega) only [↓xsP, ↓vc_seq, xsQ, xsT, xsR, tch, tOf, idsOf, storeE, eqA, fitC, fitL, eqCells, eqL, isNilS, absL, loadA, storeA, fieldAddrA, lenA, sliceA, boundA, buildA, placesOf, overw, buildSliceA, makeSliceA, clearA, unA, convA, extractA, fieldA, indexA, nilChk, capsA, retA, retA1, retL, rowOf, srcRows, gslot, Value.oneCell', ↓reduceIte, reduceCtorEq, eq_self, ne_eq, imp_self, forall_const, Nat.reduceEqDiff, Nat.reduceAdd, Nat.reduceSub, Nat.reduceMul, Nat.reduceLT, Nat.reduceLeDiff, Nat.reduceBEq, Nat.reduceDiv, Nat.reduceMod, Int.reduceToNat, Int.reduceNeg, Int.reduceAdd, Int.reduceSub, Int.reduceMul, Int.reduceEq, Int.reduceNe, Int.reduceLT, Int.reduceLE, Int.reduceGT, Int.reduceGE, g1, g2, g3, g35, g36, g5, g48, g49, g50, hq]
                refine call_of (mayOpR_spec q _) ?_
                cases hm : mayOpB q with
                | false =>
                  rw [hm, if_neg (by simp)] at hsu
                  simp -implicitDefEqProofs (maxSteps := 1000000) (disch := omega) only [↓xsP, ↓vc_seq, xsQ, xsT, xsR, tch, tOf, idsOf, storeE, eqA, fitC, fitL, eqCells, eqL, isNilS, absL, loadA, storeA, fieldAddrA, lenA, sliceA, boundA, buildA, placesOf, overw, buildSliceA, makeSliceA, clearA, unA, convA, extractA, fieldA, indexA, nilChk, capsA, retA, retA1, retL, rowOf, srcRows, gslot, Value.oneCell', ↓reduceIte, reduceCtorEq, eq_self, ne_eq, imp_self, forall_const, Nat.reduceEqDiff, Nat.reduceAdd, Nat.reduceSub, Nat.reduceMul, Nat.reduceLT, Nat.reduceLeDiff, Nat.reduceBEq, Nat.reduceDiv, Nat.reduceMod, Int.reduceToNat, Int.reduceNeg, Int.reduceAdd, Int.reduceSub, Int.reduceMul, Int.reduceEq, Int.reduceNe, Int.reduceLT, Int.reduceLE, Int.reduceGT, Int.reduceGE, g1, g2, g3, g35, g36, g5, g48, g49, g50, hq]
                  exact ⟨l.length - (j + 1), M2, by omega, le_new (Mem.le_refl _) hp7, j + 1, x5, by omega, rfl, rfl, rfl, by rw [hsu]; exact hO2⟩
                | true =>
                  rw [hm] at hsu
                  have hlenA : ∀ X : Mem, lenA prog X 32 (.l x5) = some (.l (.int .i64 (rowF l j).length)) := fun X => by
                    rcases hO2 with ⟨h1, rfl, _⟩ | ⟨idR, _, rfl, _⟩
                    · have : rowF l j = [] := by simpa using h1
                      rw [this]
                      simp -implicitDefEqProofs (maxSteps := 1000000) (disch := omega) only [↓xsP, ↓vc_seq, xsQ, xsT, xsR, tch, tOf, idsOf, storeE, eqA, fitC, fitL, eqCells, eqL, isNilS, absL, loadA, storeA, fieldAddrA, lenA, sliceA, boundA, buildA, placesOf, overw, buildSliceA, makeSliceA, clearA, unA, convA, extractA, fieldA, indexA, nilChk, capsA, retA, retA1, retL, rowOf, srcRows, gslot, Value.oneCell', ↓reduceIte, reduceCtorEq, eq_self, ne_eq, imp_self, forall_const, Nat.reduceEqDiff, Nat.reduceAdd, Nat.reduceSub, Nat.reduceMul, Nat.reduceLT, Nat.reduceLeDiff, Nat.reduceBEq, Nat.reduceDiv, Nat.reduceMod, Int.reduceToNat, Int.reduceNeg, Int.reduceAdd, Int.reduceSub, Int.reduceMul, Int.reduceEq, Int.reduceNe, Int.reduceLT, Int.reduceLE, Int.reduceGT, Int.reduceGE, Int.cast_ofNat_Int]
                    · simp -implicitDefEqProofs (maxSteps := 1000000) (disch := omega) only [↓xsP, ↓vc_seq, xsQ, xsT, xsR, tch, tOf, idsOf, storeE, eqA, fitC, fitL, eqCells, eqL, isNilS, absL, loadA, storeA, fieldAddrA, lenA, sliceA, boundA, buildA, placesOf, overw, buildSliceA, makeSliceA, clearA, unA, convA, extractA, fieldA, indexA, nilChk, capsA, retA, retA1, retL, rowOf, srcRows, gslot, Value.oneCell', ↓reduceIte, reduceCtorEq, eq_self, ne_eq, imp_self, forall_const, Nat.reduceEqDiff, Nat.reduceAdd, Nat.reduceSub, Nat.reduceMul, Nat.reduceLT, Nat.reduceLeDiff, Nat.reduceBEq, Nat.reduceDiv, Nat.reduceMod, Int.reduceToNat, Int.reduceNeg, Int.reduceAdd, Int.reduceSub, Int.reduceMul, Int.reduceEq, Int.reduceNe, Int.reduceLT, Int.reduceLE, Int.reduceGT, Int.reduceGE]
                  simp -implicitDefEqProofs (maxSteps := 1000000) (disch := omega) only [↓xsP, ↓vc_seq, xsQ, xsT, xsR, tch, tOf, idsOf, storeE, eqA, fitC, fitL, eqCells, eqL, isNilS, absL, loadA, storeA, fieldAddrA, lenA, sliceA, boundA, buildA, placesOf, overw, buildSliceA, makeSliceA, clearA, unA, convA, extractA, fieldA, indexA, nilChk, capsA, retA, retA1, retL, rowOf, srcRows, gslot, Value.oneCell', ↓reduceIte, reduceCtorEq, eq_self, ne_eq, imp_self, forall_const, Nat.reduceEqDiff, Nat.reduceAdd, Nat.reduceSub, Nat.reduceMul, Nat.reduceLT, Nat.reduceLeDiff, Nat.reduceBEq, Nat.reduceDiv, Nat.reduceMod, Int.reduceToNat, Int.reduceNeg, Int.reduceAdd, Int.reduceSub, Int.reduceMul, Int.reduceEq, Int.reduceNe, Int.reduceLT, Int.reduceLE, Int.reduceGT, Int.reduceGE, g1, g2, g3, g35, g36, g5, g48, g49, g50, hq]
                  refine optI_intro _ (hlenA _) ?_
                  simp -implicitDefEqProofs (maxSteps := 1000000) (disch := omega) only [↓xsP, ↓vc_seq, xsQ, xsT, xsR, tch, tOf, idsOf, storeE, eqA, fitC, fitL, eqCells, eqL, isNilS, absL, loadA, storeA, fieldAddrA, lenA, sliceA, boundA, buildA, placesOf, overw, buildSliceA, makeSliceA, clearA, unA, convA, extractA, fieldA, indexA, nilChk, capsA, retA, retA1, retL, rowOf, srcRows, gslot, Value.oneCell', ↓reduceIte, reduceCtorEq, eq_self, ne_eq, imp_self, forall_const, Nat.reduceEqDiff, Nat.reduceAdd, Nat.reduceSub, Nat.reduceMul, Nat.reduceLT, Nat.reduceLeDiff, Nat.reduceBEq, Nat.reduceDiv, Nat.reduceMod, Int.reduceToNat, Int.reduceNeg, Int.reduceAdd, Int.reduceSub, Int.reduceMul, Int.reduceEq, Int.reduceNe, Int.reduceLT, Int.reduceLE, Int.reduceGT, Int.reduceGE, g1, g2, g3, g35, g36, g5, g48, g49, g50, hq]
                  refine condI_prop (fun h60 => ?_) (fun h60 => ?_)
                  · rw [if_pos ⟨rfl, by omega⟩] at hsu
                    simp -implicitDefEqProofs (maxSteps := 1000000) (disch := omega) only [↓xsP, ↓vc_seq, xsQ, xsT, xsR, tch, tOf, idsOf, storeE, eqA, fitC, fitL, eqCells, eqL, isNilS, absL, loadA, storeA, fieldAddrA, lenA, sliceA, boundA, buildA, placesOf, overw, buildSliceA, makeSliceA, clearA, unA, convA, extractA, fieldA, indexA, nilChk, capsA, retA, retA1, retL, rowOf, srcRows, gslot, Value.oneCell', ↓reduceIte, reduceCtorEq, eq_self, ne_eq, imp_self, forall_const, Nat.reduceEqDiff, Nat.reduceAdd, Nat.reduceSub, Nat.reduceMul, Nat.reduceLT, Nat.reduceLeDiff, Nat.reduceBEq, Nat.reduceDiv, Nat.reduceMod, Int.reduceToNat, Int.reduceNeg, Int.reduceAdd, Int.reduceSub, Int.reduceMul, Int.reduceEq, Int.reduceNe, Int.reduceLT, Int.reduceLE, Int.reduceGT, Int.reduceGE, g1, g2, g3, g35, g36, g5, g48, g49, g50, hq]
                    refine newI_intro fun pb hpb => ?_
                    simp -implicitDefEqProofs (maxSteps := 1000000) (disch := omega) only [↓xsP, ↓vc_seq, xsQ, xsT, xsR, tch, tOf, idsOf, storeE, eqA, fitC, fitL, eqCells, eqL, isNilS, absL, loadA, storeA, fieldAddrA, lenA, sliceA, boundA, buildA, placesOf, overw, buildSliceA, makeSliceA, clearA, unA, convA, extractA, fieldA, indexA, nilChk, capsA, retA, retA1, retL, rowOf, srcRows, gslot, Value.oneCell', ↓reduceIte, reduceCtorEq, eq_self, ne_eq, imp_self, forall_const, Nat.reduceEqDiff, Nat.reduceAdd, Nat.reduceSub, Nat.reduceMul, Nat.reduceLT, Nat.reduceLeDiff, Nat.reduceBEq, Nat.reduceDiv, Nat.reduceMod, Int.reduceToNat, Int.reduceNeg, Int.reduceAdd, Int.reduceSub, Int.reduceMul, Int.reduceEq, Int.reduceNe, Int.reduceLT, Int.reduceLE, Int.reduceGT, Int.reduceGE, g1, g2, g3, g35, g36, g5, g48, g49, g50, hq]
                    refine app_outR ti_32 rfl ti_34 (by kernel_rfl) (by decide) (by decide) rfl hO2 (le_new (Mem.le_refl _) hp7) hpb (by simp; omega) fun v' N2 M3 hO3 hle3 hkeep => ?_
                    simp -implicitDefEqProofs (maxSteps := 1000000) (disch := omega) only [↓xsP, ↓vc_seq, xsQ, xsT, xsR, tch, tOf, idsOf, storeE, eqA, fitC, fitL, eqCells, eqL, isNilS, absL, loadA, storeA, fieldAddrA, lenA, sliceA, boundA, buildA, placesOf, overw, buildSliceA, makeSliceA, clearA, unA, convA, extractA, fieldA, indexA, nilChk, capsA, retA, retA1, retL, rowOf, srcRows, gslot, Value.oneCell', ↓reduceIte, reduceCtorEq, eq_self, ne_eq, imp_self, forall_const, Nat.reduceEqDiff, Nat.reduceAdd, Nat.reduceSub, Nat.reduceMul, Nat.reduceLT, Nat.reduceLeDiff, Nat.reduceBEq, Nat.reduceDiv, Nat.reduceMod, Int.reduceToNat, Int.reduceNeg, Int.reduceAdd, Int.reduceSub, Int.reduceMul, Int.reduceEq, Int.reduceNe, Int.reduceLT, Int.reduceLE, Int.reduceGT, Int.reduceGE, g1, g2, g3, g35, g36, g5, g48, g49, g50, hq]
                    exact ⟨l.length - (j + 1), M3, by omega, hle3, j + 1, v', by omega, rfl, rfl, rfl, by rw [hsu, List.map_append]; exact hO3⟩
                  · rw [if_neg (by omega)] at hsu
                    simp -implicitDefEqProofs (maxSteps := 1000000) (disch := omega) only [↓xsP, ↓vc_seq, xsQ, xsT, xsR, tch, tOf, idsOf, storeE, eqA, fitC, fitL, eqCells, eqL, isNilS, absL, loadA, storeA, fieldAddrA, lenA, sliceA, boundA, buildA, placesOf, overw, buildSliceA, makeSliceA, clearA, unA, convA, extractA, fieldA, indexA, nilChk, capsA, retA, retA1, retL, rowOf, srcRows, gslot, Value.oneCell', ↓reduceIte, reduceCtorEq, eq_self, ne_eq, imp_self, forall_const, Nat.reduceEqDiff, Nat.reduceAdd, Nat.reduceSub, Nat.reduceMul, Nat.reduceLT, Nat.reduceLeDiff, Nat.reduceBEq, Nat.reduceDiv, Nat.reduceMod, Int.reduceToNat, Int.reduceNeg, Int.reduceAdd, Int.reduceSub, Int.reduceMul, Int.reduceEq, Int.reduceNe, Int.reduceLT, Int.reduceLE, Int.reduceGT, Int.reduceGE, g1, g2, g3, g35, g36, g5, g48, g49, g50, hq]
                    exact ⟨l.length - (j + 1), M2, by omega, le_new (Mem.le_refl _) hp7, j + 1, x5, by omega, rfl, rfl, rfl, by rw [hsu]; exact hO2⟩
              · have hjl : j = l.length := by omega
                subst hjl
                rw [rowF, List.take_length] at hO2
                simp -implicitDefEqProofs (maxSteps := 1000000) (disch := omega) only [↓xsP, ↓vc_seq, xsQ, xsT, xsR, tch, tOf, idsOf, storeE, eqA, fitC, fitL, eqCells, eqL, isNilS, absL, loadA, storeA, fieldAddrA, lenA, sliceA, boundA, buildA, placesOf, overw, buildSliceA, makeSliceA, clearA, unA, convA, extractA, fieldA, indexA, nilChk, capsA, retA, retA1, retL, rowOf, srcRows, gslot, Value.oneCell', ↓reduceIte, reduceCtorEq, eq_self, ne_eq, imp_self, forall_const, Nat.reduceEqDiff, Nat.reduceAdd, Nat.reduceSub, Nat.reduceMul, Nat.reduceLT, Nat.reduceLeDiff, Nat.reduceBEq, Nat.reduceDiv, Nat.reduceMod, Int.reduceToNat, Int.reduceNeg, Int.reduceAdd, Int.reduceSub, Int.reduceMul, Int.reduceEq, Int.reduceNe, Int.reduceLT, Int.reduceLE, Int.reduceGT, Int.reduceGE, g1, g2, g3, g35, g36, g5]
                exact ⟨x5, M2, hO2, Mem.le_refl _, rfl⟩
          · simp -implicitDefEqProofs (maxSteps := 1000000) (disch := omega) only [↓xsP, ↓vc_seq, xsQ, xsT, xsR, tch, tOf, idsOf, storeE, eqA, fitC, fitL, eqCells, eqL, isNilS, absL, loadA, storeA, fieldAddrA, lenA, sliceA, boundA, buildA, placesOf, overw, buildSliceA, makeSliceA, clearA, unA, convA, extractA, fieldA, indexA, nilChk, capsA, retA, retA1, retL, rowOf, srcRows, gslot, Value.oneCell', ↓reduceIte, reduceCtorEq, eq_self, ne_eq, imp_self, forall_const, Nat.reduceEqDiff, Nat.reduceAdd, Nat.reduceSub, Nat.reduceMul, Nat.reduceLT, Nat.reduceLeDiff, Nat.reduceBEq, Nat.reduceDiv, Nat.reduceMod, Int.reduceToNat, Int.reduceNeg, Int.reduceAdd, Int.reduceSub, Int.reduceMul, Int.reduceEq, Int.reduceNe, Int.reduceLT, Int.reduceLE, Int.reduceGT, Int.reduceGE, g1, g2, g3, g35, g36]
            have hgd : s.ops.getD i [] = [] := by
              rw [List.getD_eq_getElem?_getD, List.getElem?_eq_none (by omega)]
              rfl
            rw [hgd]
            exact ⟨.nils, M', OutR.nil _ _, Mem.le_refl _, rfl⟩
        · clear g1 g2 g3 g35 g36
          rintro fr N' ⟨x5, M5, hO5, hMN5, g5, g1, g2, g3, g35, g36⟩
          have hMN : M'.le N' := fun k bk hk => hMN5 _ _ (hO5.base _ _ hk)
          have hN'c := hMN _ _ hM'c
          rw [crow] at hN'c
          simp -implicitDefEqProofs (maxSteps := 1000000) (disch := omega) only [↓xsP, ↓vc_seq, xsQ, xsT, xsR, tch, tOf, idsOf, storeE, eqA, fitC, fitL, eqCells, eqL, isNilS, absL, loadA, storeA, fieldAddrA, lenA, sliceA, boundA, buildA, placesOf, overw, buildSliceA, makeSliceA, clearA, unA, convA, extractA, fieldA, indexA, nilChk, capsA, retA, retA1, retL, rowOf, srcRows, gslot, Value.oneCell', ↓reduceIte, reduceCtorEq, eq_self, ne_eq, imp_self, forall_const, Nat.reduceEqDiff, Nat.reduceAdd, Nat.reduceSub, Nat.reduceMul, Nat.reduceLT, Nat.reduceLeDiff, Nat.reduceBEq, Nat.reduceDiv, Nat.reduceMod, Int.reduceToNat, Int.reduceNeg, Int.reduceAdd, Int.reduceSub, Int.reduceMul, Int.reduceEq, Int.reduceNe, Int.reduceLT, Int.reduceLE, Int.reduceGT, Int.reduceGE, g1, g2, g3, g5, g35, g36, hN'c]
          refine newI_intro fun pb hpb => ?_
          have hcb := lt_of_bnd hpb hN'c
          simp -implicitDefEqProofs (maxSteps := 1000000) (disch := omega) only [↓xsP, ↓vc_seq, xsQ, xsT, xsR, tch, tOf, idsOf, storeE, eqA, fitC, fitL, eqCells, eqL, isNilS, absL, loadA, storeA, fieldAddrA, lenA, sliceA, boundA, buildA, placesOf, overw, buildSliceA, makeSliceA, clearA, unA, convA, extractA, fieldA, indexA, nilChk, capsA, retA, retA1, retL, rowOf, srcRows, gslot, Value.oneCell', ↓reduceIte, reduceCtorEq, eq_self, ne_eq, imp_self, forall_const, Nat.reduceEqDiff, Nat.reduceAdd, Nat.reduceSub, Nat.reduceMul, Nat.reduceLT, Nat.reduceLeDiff, Nat.reduceBEq, Nat.reduceDiv, Nat.reduceMod, Int.reduceToNat, Int.reduceNeg, Int.reduceAdd, Int.reduceSub, Int.reduceMul, Int.reduceEq, Int.reduceNe, Int.reduceLT, Int.reduceLE, Int.reduceGT, Int.reduceGE, g1, g2, g3, g5, g35, g36, hN'c]
          refine app_outR ti_25 rfl ti_32 (by kernel_rfl) (by decide) (by decide) rfl hO hMN hpb (by simp [rowsN]; omega) fun v' N2 M2 hO2 hle2 hkeep => ?_
          have hN2c := hle2 _ _ (hO2.base _ _ (Mem.set_eq _ _ _))
          rw [crow] at hN2c
          simp -implicitDefEqProofs (maxSteps := 1000000) (disch := omega) only [↓xsP, ↓vc_seq, xsQ, xsT, xsR, tch, tOf, idsOf, storeE, eqA, fitC, fitL, eqCells, eqL, isNilS, absL, loadA, storeA, fieldAddrA, lenA, sliceA, boundA, buildA, placesOf, overw, buildSliceA, makeSliceA, clearA, unA, convA, extractA, fieldA, indexA, nilChk, capsA, retA, retA1, retL, rowOf, srcRows, gslot, Value.oneCell', ↓reduceIte, reduceCtorEq, eq_self, ne_eq, imp_self, forall_const, Nat.reduceEqDiff, Nat.reduceAdd, Nat.reduceSub, Nat.reduceMul, Nat.reduceLT, Nat.reduceLeDiff, Nat.reduceBEq, Nat.reduceDiv, Nat.reduceMod, Int.reduceToNat, Int.reduceNeg, Int.reduceAdd, Int.reduceSub, Int.reduceMul, Int.reduceEq, Int.reduceNe, Int.reduceLT, Int.reduceLE, Int.reduceGT, Int.reduceGE, g1, g2, g3, g5, g35, g36, hN2c]
          obtain ⟨M4, hgs, hO4⟩ := hO2.frzIn (eR := 34) (L := (cleanRow (s.ops.getD i [])).map Opn.row) (X' := .cells 28 [crow T C pol bg v' .nils] 0) hle2 (by decide) (by
            rcases hO5 with ⟨h1, h2, _⟩ | ⟨idR, hR, h2, hM5⟩
            · exact .inl ⟨h2, h1⟩
            · refine .inr ⟨idR, h2, hkeep _ _ (hMN5 _ _ (by rw [hM5]; exact Mem.set_eq _ _ _)) (hR _ (Nat.le_refl _)), ?_⟩
              cases hq : (B.set c (.cells 28 [crow T C pol bg v .nils] 0)) idR with
              | none => rfl
              | some bk => have := hO.base _ _ hq; rw [hR _ (Nat.le_refl _)] at this; cases this) (oprow_sl _)
          refine ⟨T - (i + 1), M4, by omega, hgs, i + 1, v', by omega, rfl, rfl, ?_⟩
          rw [rowsN_succ, List.map_append]
          exact hO4
      · have hil : i = T := by omega
        subst hil
        simp -implicitDefEqProofs (maxSteps := 1000000) (disch := omega) only [↓xsP, xsQ, xsT, xsR, tch, tOf, idsOf, storeE, eqA, fitC, fitL, eqCells, eqL, isNilS, absL, loadA, storeA, fieldAddrA, lenA, sliceA, boundA, buildA, placesOf, overw, buildSliceA, makeSliceA, clearA, unA, convA, extractA, fieldA, indexA, nilChk, capsA, retA, retA1, retL, rowOf, srcRows, gslot, Value.oneCell', ↓reduceIte, reduceCtorEq, eq_self, ne_eq, imp_self, forall_const, Nat.reduceEqDiff, Nat.reduceAdd, Nat.reduceSub, Nat.reduceMul, Nat.reduceLT, Nat.reduceLeDiff, Nat.reduceBEq, Nat.reduceDiv, Nat.reduceMod, Int.reduceToNat, Int.reduceNeg, Int.reduceAdd, Int.reduceSub, Int.reduceMul, Int.reduceEq, Int.reduceNe, Int.reduceLT, Int.reduceLE, Int.reduceGT, Int.reduceGE, g1, g2, g3, hM'a]
        generalize hPk : s.picks.take 100000 = Pk
        refine vc_cut (fun fr' M2 => ∃ y, OutR 3 (M'.set c (.cells 28 [crow i C pol bg v y] 0)) y M2 ((Pk.map fun n => modI n i).map irow) ∧ fr' 2 = .l (.ptr b 0 0) ∧ fr' 3 = .l (.ptr c 0 0)) ?_ ?_
        · simp -implicitDefEqProofs (maxSteps := 1000000) (disch := omega) only [↓xsP, ↓vc_seq, xsQ, xsT, xsR, tch, tOf, idsOf, storeE, eqA, fitC, fitL, eqCells, eqL, isNilS, absL, loadA, storeA, fieldAddrA, lenA, sliceA, boundA, buildA, placesOf, overw, buildSliceA, makeSliceA, clearA, unA, convA, extractA, fieldA, indexA, nilChk, capsA, retA, retA1, retL, rowOf, srcRows, gslot, Value.oneCell', ↓reduceIte, reduceCtorEq, eq_self, ne_eq, imp_self, forall_const, Nat.reduceEqDiff, Nat.reduceAdd, Nat.reduceSub, Nat.reduceMul, Nat.reduceLT, Nat.reduceLeDiff, Nat.reduceBEq, Nat.reduceDiv, Nat.reduceMod, Int.reduceToNat, Int.reduceNeg, Int.reduceAdd, Int.reduceSub, Int.reduceMul, Int.reduceEq, Int.reduceNe, Int.reduceLT, Int.reduceLE, Int.reduceGT, Int.reduceGE, g1, g2, g3, hM'a]
          refine loopI_of (xloop (by kernel_rfl) (fun k fr M2 => ∃ (j : Nat) (y : Lf), j ≤ s.picks.length ∧ j ≤ 100000 ∧ k = s.picks.length - j ∧ fr 2 = .l (.ptr b 0 0) ∧ fr 3 = .l (.ptr c 0 0) ∧ fr 74 = .l (.sl (s.picks.map irow)) ∧ fr 75 = .l (.int .i64 s.picks.length) ∧ fr 76 = .l (.int .i64 j) ∧ OutR 3 (M'.set c (.cells 28 [crow i C pol bg v y] 0)) y M2 (((s.picks.take j).map fun n => modI n i).map irow)) s.picks.length ?_ ?_)
          · refine ⟨0, .nils, Nat.zero_le _, Nat.zero_le _, rfl, by simp -implicitDefEqProofs (maxSteps := 1000000) (disch := omega) only [↓xsP, ↓vc_seq, xsQ, xsT, xsR, tch, tOf, idsOf, storeE, eqA, fitC, fitL, eqCells, eqL, isNilS, absL, loadA, storeA, fieldAddrA, lenA, sliceA, boundA, buildA, placesOf, overw, buildSliceA, makeSliceA, clearA, unA, convA, extractA, fieldA, indexA, nilChk, capsA, retA, retA1, retL, rowOf, srcRows, gslot, Value.oneCell', ↓reduceIte, reduceCtorEq, eq_self, ne_eq, imp_self, forall_const, Nat.reduceEqDiff, Nat.reduceAdd, Nat.reduceSub, Nat.reduceMul, Nat.reduceLT, Nat.reduceLeDiff, Nat.reduceBEq, Nat.reduceDiv, Nat.reduceMod, Int.reduceToNat, Int.reduceNeg, Int.reduceAdd, Int.reduceSub, Int.reduceMul, Int.reduceEq, Int.reduceNe, Int.reduceLT, Int.reduceLE, Int.reduceGT, Int.reduceGE, g2], by simp -implicitDefEqProofs (maxSteps := 1000000) (disch := omega) only [↓xsP, ↓vc_seq, xsQ, xsT, xsR, tch, tOf, idsOf, storeE, eqA, fitC, fitL, eqCells, eqL, isNilS, absL, loadA, storeA, fieldAddrA, lenA, sliceA, boundA, buildA, placesOf, overw, buildSliceA, makeSliceA, clearA, unA, convA, extractA, fieldA, indexA, nilChk, capsA, retA, retA1, retL, rowOf, srcRows, gslot, Value.oneCell', ↓reduceIte, reduceCtorEq, eq_self, ne_eq, imp_self, forall_const, Nat.reduceEqDiff, Nat.reduceAdd, Nat.reduceSub, Nat.reduceMul, Nat.reduceLT, Nat.reduceLeDiff, Nat.reduceBEq, Nat.reduceDiv, Nat.reduceMod, Int.reduceToNat, Int.reduceNeg, Int.reduceAdd, Int.reduceSub, Int.reduceMul, Int.reduceEq, Int.reduceNe, Int.reduceLT, Int.reduceLE, Int.reduceGT, Int.reduceGE, g3], by simp -implicitDefEqProofs (maxSteps := 1000000) (disch := omega) only [↓xsP, ↓vc_seq, xsQ, xsT, xsR, tch, tOf, idsOf, storeE, eqA, fitC, fitL, eqCells, eqL, isNilS, absL, loadA, storeA, fieldAddrA, lenA, sliceA, boundA, buildA, placesOf, overw, buildSliceA, makeSliceA, clearA, unA, convA, extractA, fieldA, indexA, nilChk, capsA, retA, retA1, retL, rowOf, srcRows, gslot, Value.oneCell', ↓reduceIte, reduceCtorEq, eq_self, ne_eq, imp_self, forall_const, Nat.reduceEqDiff, Nat.reduceAdd, Nat.reduceSub, Nat.reduceMul, Nat.reduceLT, Nat.reduceLeDiff, Nat.reduceBEq, Nat.reduceDiv, Nat.reduceMod, Int.reduceToNat, Int.reduceNeg, Int.reduceAdd, Int.reduceSub, Int.reduceMul, Int.reduceEq, Int.reduceNe, Int.reduceLT, Int.reduceLE, Int.reduceGT, Int.reduceGE], by simp -implicitDefEqProofs (maxSteps := 1000000) (disch := omega) only [↓xsP, ↓vc_seq, xsQ, xsT, xsR, tch, tOf, idsOf, storeE, eqA, fitC, fitL, eqCells, eqL, isNilS, absL, loadA, storeA, fieldAddrA, lenA, sliceA, boundA, buildA, placesOf, overw, buildSliceA, makeSliceA, clearA, unA, convA, extractA, fieldA, indexA, nilChk, capsA, retA, retA1, retL, rowOf, srcRows, gslot, Value.oneCell', ↓reduceIte, reduceCtorEq, eq_self, ne_eq, imp_self, forall_const, Nat.reduceEqDiff, Nat.reduceAdd, Nat.reduceSub, Nat.reduceMul, Nat.reduceLT, Nat.reduceLeDiff, Nat.reduceBEq, Nat.reduceDiv, Nat.reduceMod, Int.reduceToNat, Int.reduceNeg, Int.reduceAdd, Int.reduceSub, Int.reduceMul, Int.reduceEq, Int.reduceNe, Int.reduceLT, Int.reduceLE, Int.reduceGT, Int.reduceGE], by simp -implicitDefEqProofs (maxSteps := 1000000) (disch := omega) only [↓xsP, ↓vc_seq, xsQ, xsT, xsR, tch, tOf, idsOf, storeE, eqA, fitC, fitL, eqCells, eqL, isNilS, absL, loadA, storeA, fieldAddrA, lenA, sliceA, boundA, buildA, placesOf, overw, buildSliceA, makeSliceA, clearA, unA, convA, extractA, fieldA, indexA, nilChk, capsA, retA, retA1, retL, rowOf, srcRows, gslot, Value.oneCell', ↓reduceIte, reduceCtorEq, eq_self, ne_eq, imp_self, forall_const, Nat.reduceEqDiff, Nat.reduceAdd, Nat.reduceSub, Nat.reduceMul, Nat.reduceLT, Nat.reduceLeDiff, Nat.reduceBEq, Nat.reduceDiv, Nat.reduceMod, Int.reduceToNat, Int.reduceNeg, Int.reduceAdd, Int.reduceSub, Int.reduceMul, Int.reduceEq, Int.reduceNe, Int.reduceLT, Int.reduceLE, Int.reduceGT, Int.reduceGE, Int.cast_ofNat_Int], ?_⟩
            rw [Mem.set_self hM'c]
            exact OutR.nil _ _
          · clear g1 g2 g3 g35 g36
            rintro k fr M2 ⟨j, y, hj, hj1, rfl, g2, g3, g74, g75, g76, hO2⟩
            have hM2c := hO2.base _ _ (Mem.set_eq _ _ _)
            rw [crow] at hM2c
            simp -implicitDefEqProofs (maxSteps := 1000000) (disch := omega) only [↓xsP, ↓vc_seq, xsQ, xsT, xsR, tch, tOf, idsOf, storeE, eqA, fitC, fitL, eqCells, eqL, isNilS, absL, loadA, storeA, fieldAddrA, lenA, sliceA, boundA, buildA, placesOf, overw, buildSliceA, makeSliceA, clearA, unA, convA, extractA, fieldA, indexA, nilChk, capsA, retA, retA1, retL, rowOf, srcRows, gslot, Value.oneCell', ↓reduceIte, reduceCtorEq, eq_self, ne_eq, imp_self, forall_const, Nat.reduceEqDiff, Nat.reduceAdd, Nat.reduceSub, Nat.reduceMul, Nat.reduceLT, Nat.reduceLeDiff, Nat.reduceBEq, Nat.reduceDiv, Nat.reduceMod, Int.reduceToNat, Int.reduceNeg, Int.reduceAdd, Int.reduceSub, Int.reduceMul, Int.reduceEq, Int.reduceNe, Int.reduceLT, Int.reduceLE, Int.reduceGT, Int.reduceGE, g2, g3, g74, g75, g76]
            refine condI_prop (fun hlt2 => ?_) (fun hlt2 => ?_)
            · have hj' : j < s.picks.length := by omega
              have htk := take_snoc s.picks hj'
              obtain ⟨q, hq⟩ : ∃ q, s.picks.getD j default = q := ⟨_, rfl⟩
              rw [hq] at htk
              simp -implicitDefEqProofs (maxSteps := 1000000) (disch := omega) only [↓xsP, ↓vc_seq, xsQ, xsT, xsR, tch, tOf, idsOf, storeE, eqA, fitC, fitL, eqCells, eqL, isNilS, absL, loadA, storeA, fieldAddrA, lenA, sliceA, boundA, buildA, placesOf, overw, buildSliceA, makeSliceA, clearA, unA, convA, extractA, fieldA, indexA, nilChk, capsA, retA, retA1, retL, rowOf, srcRows, gslot, Value.oneCell', ↓reduceIte, reduceCtorEq, eq_self, ne_eq, imp_self, forall_const, Nat.reduceEqDiff, Nat.reduceAdd, Nat.reduceSub, Nat.reduceMul, Nat.reduceLT, Nat.reduceLeDiff, Nat.reduceBEq, Nat.reduceDiv, Nat.reduceMod, Int.reduceToNat, Int.reduceNeg, Int.reduceAdd, Int.reduceSub, Int.reduceMul, Int.reduceEq, Int.reduceNe, Int.reduceLT, Int.reduceLE, Int.reduceGT, Int.reduceGE, g2, g3, g74, g75, g76, hq]
              refine condI_prop (fun hbr => ?_) (fun hbr => ?_)
              · have : j = 100000 := by omega
                subst this
                rw [hPk] at hO2
                simp -implicitDefEqProofs (maxSteps := 1000000) (disch := omega) only [↓xsP, ↓vc_seq, xsQ, xsT, xsR, tch, tOf, idsOf, storeE, eqA, fitC, fitL, eqCells, eqL, isNilS, absL, loadA, storeA, fieldAddrA, lenA, sliceA, boundA, buildA, placesOf, overw, buildSliceA, makeSliceA, clearA, unA, convA, extractA, fieldA, indexA, nilChk, capsA, retA, retA1, retL, rowOf, srcRows, gslot, Value.oneCell', ↓reduceIte, reduceCtorEq, eq_self, ne_eq, imp_self, forall_const, Nat.reduceEqDiff, Nat.reduceAdd, Nat.reduceSub, Nat.reduceMul, Nat.reduceLT, Nat.reduceLeDiff, Nat.reduceBEq, Nat.reduceDiv, Nat.reduceMod, Int.reduceToNat, Int.reduceNeg, Int.reduceAdd, Int.reduceSub, Int.reduceMul, Int.reduceEq, Int.reduceNe, Int.reduceLT, Int.reduceLE, Int.reduceGT, Int.reduceGE, g2, g3]
                exact ⟨y, hO2⟩
              · have hne : ((i : Int) = 0) = False := eq_false (by omega)
                have hmi := modI_if q i (by omega)
                have ha1 := Int.tmod_lt_of_pos q (show (0 : Int) < i by omega)
                have ha2 := Int.lt_tmod_of_pos q (show (0 : Int) < i by omega)
                simp -implicitDefEqProofs (maxSteps := 1000000) (disch := omega) only [↓xsP, ↓vc_seq, xsQ, xsT, xsR, tch, tOf, idsOf, storeE, eqA, fitC, fitL, eqCells, eqL, isNilS, absL, loadA, storeA, fieldAddrA, lenA, sliceA, boundA, buildA, placesOf, overw, buildSliceA, makeSliceA, clearA, unA, convA, extractA, fieldA, indexA, nilChk, capsA, retA, retA1, retL, rowOf, srcRows, gslot, Value.oneCell', ↓reduceIte, reduceCtorEq, eq_self, ne_eq, imp_self, forall_const, Nat.reduceEqDiff, Nat.reduceAdd, Nat.reduceSub, Nat.reduceMul, Nat.reduceLT, Nat.reduceLeDiff, Nat.reduceBEq, Nat.reduceDiv, Nat.reduceMod, Int.reduceToNat, Int.reduceNeg, Int.reduceAdd, Int.reduceSub, Int.reduceMul, Int.reduceEq, Int.reduceNe, Int.reduceLT, Int.reduceLE, Int.reduceGT, Int.reduceGE, g2, g3, g74, g75, g76, hM2c, ar_rem, hne]
                have hput : ∀ (z : Int) (pb : Nat), z = modI q i → (∀ jj, pb ≤ jj → M2 jj = none) → ∀ K : AV → Mem → Prop, (∀ v' N2 M3, OutR 3 (M'.set c (.cells 28 [crow i C pol bg v y] 0)) v' M3 (((s.picks.take (j + 1)).map fun n => modI n i).map irow) → M3.le N2 → K (.l v') N2) → @appI prog (M2.set pb (.cells 3 [[.int .i64 z]] 0)) 26 26 (.l y) (.l (.ms pb 0 1)) ⟨K⟩ := fun z pb hz hpb K hK => by
                  subst hz
                  refine app_outR (r := irow (modI q i)) ti_26 rfl ti_3 (by kernel_rfl) (by decide) (by decide) rfl hO2 (Mem.le_refl _) hpb (by simp; omega) fun v' N2 M3 hO3 hle3 hkeep => hK v' N2 M3 ?_ hle3
                  rw [htk, List.map_append, List.map_append]
                  exact hO3
                refine condI_prop (fun hng => ?_) (fun hng => ?_)
                · rw [if_pos hng] at hmi
                  simp -implicitDefEqProofs (maxSteps := 1000000) (disch := omega) only [↓xsP, ↓vc_seq, xsQ, xsT, xsR, tch, tOf, idsOf, storeE, eqA, fitC, fitL, eqCells, eqL, isNilS, absL, loadA, storeA, fieldAddrA, lenA, sliceA, boundA, buildA, placesOf, overw, buildSliceA, makeSliceA, clearA, unA, convA, extractA, fieldA, indexA, nilChk, capsA, retA, retA1, retL, rowOf, srcRows, gslot, Value.oneCell', ↓reduceIte, reduceCtorEq, eq_self, ne_eq, imp_self, forall_const, Nat.reduceEqDiff, Nat.reduceAdd, Nat.reduceSub, Nat.reduceMul, Nat.reduceLT, Nat.reduceLeDiff, Nat.reduceBEq, Nat.reduceDiv, Nat.reduceMod, Int.reduceToNat, Int.reduceNeg, Int.reduceAdd, Int.reduceSub, Int.reduceMul, Int.reduceEq, Int.reduceNe, Int.reduceLT, Int.reduceLE, Int.reduceGT, Int.reduceGE, g2, g3, g74, g75, g76, hM2c]
                  refine newI_intro fun pb hpb => ?_
                  simp -implicitDefEqProofs (maxSteps := 1000000) (disch := omega) only [↓xsP, ↓vc_seq, xsQ, xsT, xsR, tch, tOf, idsOf, storeE, eqA, fitC, fitL, eqCells, eqL, isNilS, absL, loadA, storeA, fieldAddrA, lenA, sliceA, boundA, buildA, placesOf, overw, buildSliceA, makeSliceA, clearA, unA, convA, extractA, fieldA, indexA, nilChk, capsA, retA, retA1, retL, rowOf, srcRows, gslot, Value.oneCell', ↓reduceIte, reduceCtorEq, eq_self, ne_eq, imp_self, forall_const, Nat.reduceEqDiff, Nat.reduceAdd, Nat.reduceSub, Nat.reduceMul, Nat.reduceLT, Nat.reduceLeDiff, Nat.reduceBEq, Nat.reduceDiv, Nat.reduceMod, Int.reduceToNat, Int.reduceNeg, Int.reduceAdd, Int.reduceSub, Int.reduceMul, Int.reduceEq, Int.reduceNe, Int.reduceLT, Int.reduceLE, Int.reduceGT, Int.reduceGE, g2, g3, g74, g75, g76, hM2c]
                  refine hput _ pb hmi.symm hpb _ fun v' N2 M3 hO3 hle3 => ?_
                  have hN2c := hle3 _ _ (hO3.base _ _ (Mem.set_eq _ _ _))
                  rw [crow] at hN2c
                  simp -implicitDefEqProofs (maxSteps := 1000000) (disch := omega) only [↓xsP, ↓vc_seq, xsQ, xsT, xsR, tch, tOf, idsOf, storeE, eqA, fitC, fitL, eqCells, eqL, isNilS, absL, loadA, storeA, fieldAddrA, lenA, sliceA, boundA, buildA, placesOf, overw, buildSliceA, makeSliceA, clearA, unA, convA, extractA, fieldA, indexA, nilChk, capsA, retA, retA1, retL, rowOf, srcRows, gslot, Value.oneCell', ↓reduceIte, reduceCtorEq, eq_self, ne_eq, imp_self, forall_const, Nat.reduceEqDiff, Nat.reduceAdd, Nat.reduceSub, Nat.reduceMul, Nat.reduceLT, Nat.reduceLeDiff, Nat.reduceBEq, Nat.reduceDiv, Nat.reduceMod, Int.reduceToNat, Int.reduceNeg, Int.reduceAdd, Int.reduceSub, Int.reduceMul, Int.reduceEq, Int.reduceNe, Int.reduceLT, Int.reduceLE, Int.reduceGT, Int.reduceGE, g2, g3, g74, g75, g76, hN2c]
                  obtain ⟨M4, hO4, hle4⟩ := hO3.turn (X' := .cells 28 [crow i C pol bg v v'] 0) hle3
                  rw [crow] at hle4
                  exact ⟨s.picks.length - (j + 1), M4, by omega, hle4, j + 1, v', by omega, by omega, rfl, rfl, hO4⟩
                · rw [if_neg hng] at hmi
                  simp -implicitDefEqProofs (maxSteps := 1000000) (disch := omega) only [↓xsP, ↓vc_seq, xsQ, xsT, xsR, tch, tOf, idsOf, storeE, eqA, fitC, fitL, eqCells, eqL, isNilS, absL, loadA, storeA, fieldAddrA, lenA, sliceA, boundA, buildA, placesOf, overw, buildSliceA, makeSliceA, clearA, unA, convA, extractA, fieldA, indexA, nilChk, capsA, retA, retA1, retL, rowOf, srcRows, gslot, Value.oneCell', ↓reduceIte, reduceCtorEq, eq_self, ne_eq, imp_self, forall_const, Nat.reduceEqDiff, Nat.reduceAdd, Nat.reduceSub, Nat.reduceMul, Nat.reduceLT, Nat.reduceLeDiff, Nat.reduceBEq, Nat.reduceDiv, Nat.reduceMod, Int.reduceToNat, Int.reduceNeg, Int.reduceAdd, Int.reduceSub, Int.reduceMul, Int.reduceEq, Int.reduceNe, Int.reduceLT, Int.reduceLE, Int.reduceGT, Int.reduceGE, g2, g3, g74, g75, g76, hM2c]
                  refine newI_intro fun pb hpb => ?_
                  simp -implicitDefEqProofs (maxSteps := 1000000) (disch := omega) only [↓xsP, ↓vc_seq, xsQ, xsT, xsR, tch, tOf, idsOf, storeE, eqA, fitC, fitL, eqCells, eqL, isNilS, absL, loadA, storeA, fieldAddrA, lenA, sliceA, boundA, buildA, placesOf, overw, buildSliceA, makeSliceA, clearA, unA, convA, extractA, fieldA, indexA, nilChk, capsA, retA, retA1, retL, rowOf, srcRows, gslot, Value.oneCell', ↓reduceIte, reduceCtorEq, eq_self, ne_eq, imp_self, forall_const, Nat.reduceEqDiff, Nat.reduceAdd, Nat.reduceSub, Nat.reduceMul, Nat.reduceLT, Nat.reduceLeDiff, Nat.reduceBEq, Nat.reduceDiv, Nat.reduceMod, Int.reduceToNat, Int.reduceNeg, Int.reduceAdd, Int.reduceSub, Int.reduceMul, Int.reduceEq, Int.reduceNe, Int.reduceLT, Int.reduceLE, Int.reduceGT, Int.reduceGE, g2, g3, g74, g75, g76, hM2c]
                  refine hput _ pb hmi.symm hpb _ fun v' N2 M3 hO3 hle3 => ?_
                  have hN2c := hle3 _ _ (hO3.base _ _ (Mem.set_eq _ _ _))
                  rw [crow] at hN2c
                  simp -implicitDefEqProofs (maxSteps := 1000000) (disch := omega) only [↓xsP, ↓vc_seq, xsQ, xsT, xsR, tch, tOf, idsOf, storeE, eqA, fitC, fitL, eqCells, eqL, isNilS, absL, loadA, storeA, fieldAddrA, lenA, sliceA, boundA, buildA, placesOf, overw, buildSliceA, makeSliceA, clearA, unA, convA, extractA, fieldA, indexA, nilChk, capsA, retA, retA1, retL, rowOf, srcRows, gslot, Value.oneCell', ↓reduceIte, reduceCtorEq, eq_self, ne_eq, imp_self, forall_const, Nat.reduceEqDiff, Nat.reduceAdd, Nat.reduceSub, Nat.reduceMul, Nat.reduceLT, Nat.reduceLeDiff, Nat.reduceBEq, Nat.reduceDiv, Nat.reduceMod, Int.reduceToNat, Int.reduceNeg, Int.reduceAdd, Int.reduceSub, Int.reduceMul, Int.reduceEq, Int.reduceNe, Int.reduceLT, Int.reduceLE, Int.reduceGT, Int.reduceGE, g2, g3, g74, g75, g76, hN2c]
                  obtain ⟨M4, hO4, hle4⟩ := hO3.turn (X' := .cells 28 [crow i C pol bg v v'] 0) hle3
                  rw [crow] at hle4
                  exact ⟨s.picks.length - (j + 1), M4, by omega, hle4, j + 1, v', by omega, by omega, rfl, rfl, hO4⟩
            · have : j = s.picks.length := by omega
              subst this
              have hP0 : s.picks.take s.picks.length = Pk := by rw [← hPk, List.take_length, List.take_of_length_le (by omega)]
              rw [hP0] at hO2
              simp -implicitDefEqProofs (maxSteps := 1000000) (disch := omega) only [↓xsP, ↓vc_seq, xsQ, xsT, xsR, tch, tOf, idsOf, storeE, eqA, fitC, fitL, eqCells, eqL, isNilS, absL, loadA, storeA, fieldAddrA, lenA, sliceA, boundA, buildA, placesOf, overw, buildSliceA, makeSliceA, clearA, unA, convA, extractA, fieldA, indexA, nilChk, capsA, retA, retA1, retL, rowOf, srcRows, gslot, Value.oneCell', ↓reduceIte, reduceCtorEq, eq_self, ne_eq, imp_self, forall_const, Nat.reduceEqDiff, Nat.reduceAdd, Nat.reduceSub, Nat.reduceMul, Nat.reduceLT, Nat.reduceLeDiff, Nat.reduceBEq, Nat.reduceDiv, Nat.reduceMod, Int.reduceToNat, Int.reduceNeg, Int.reduceAdd, Int.reduceSub, Int.reduceMul, Int.reduceEq, Int.reduceNe, Int.reduceLT, Int.reduceLE, Int.reduceGT, Int.reduceGE, g2, g3]
              exact ⟨y, hO2⟩
        · clear g1 g2 g3 g35 g36
          rintro fr M2 ⟨y, hO2, g2, g3⟩
          have hM2c := hO2.base _ _ (Mem.set_eq _ _ _)
          rw [crow] at hM2c
          have hcb : b ≠ c := by omega
          have hM2b : M2 b = some (.cells 28 [[.int .i64 0, .int .i64 0, .int .i64 0, .int .i64 0, .int .i64 0, .int .i64 0, .int .i64 0, .nils, .nils, .nils]] 0) := by
            refine hO2.base _ _ ?_
            rw [Mem.set_ne _ _ _ _ (fun e => hcb e.symm)]
            refine hO.base _ _ ?_
            rw [Mem.set_ne _ _ _ _ (fun e => hcb e.symm)]
            exact hBb
          simp -implicitDefEqProofs (maxSteps := 1000000) (disch := omega) only [↓xsP, ↓vc_seq, xsQ, xsT, xsR, tch, tOf, idsOf, storeE, eqA, fitC, fitL, eqCells, eqL, isNilS, absL, loadA, storeA, fieldAddrA, lenA, sliceA, boundA, buildA, placesOf, overw, buildSliceA, makeSliceA, clearA, unA, convA, extractA, fieldA, indexA, nilChk, capsA, retA, retA1, retL, rowOf, srcRows, gslot, Value.oneCell', ↓reduceIte, reduceCtorEq, eq_self, ne_eq, imp_self, forall_const, Nat.reduceEqDiff, Nat.reduceAdd, Nat.reduceSub, Nat.reduceMul, Nat.reduceLT, Nat.reduceLeDiff, Nat.reduceBEq, Nat.reduceDiv, Nat.reduceMod, Int.reduceToNat, Int.reduceNeg, Int.reduceAdd, Int.reduceSub, Int.reduceMul, Int.reduceEq, Int.reduceNe, Int.reduceLT, Int.reduceLE, Int.reduceGT, Int.reduceGE, g2, g3, hM2c, hM2b]
          have hMle : ∀ k bk, M k = some bk → k < a ∧ M2 k = some bk := fun k bk hk => by
            have h1 := lt_of_bnd ha hk
            refine ⟨h1, hO2.base _ _ ?_⟩
            rw [Mem.set_ne _ _ _ _ (by omega)]
            refine hO.base _ _ ?_
            rw [Mem.set_ne _ _ _ _ (by omega)]
            exact hMB _ _ hk
          have hend : (AV.agg [.int .i64 i, .int .i64 C, .int .i64 pol.high, .int .i64 pol.low, .int .i64 pol.cont, .int .i64 pol.unc, .int .i64 pol.multi, .sl (bg.map Pr.row), .sl ((rowsN s i).map oprow), .sl ((Pk.map fun n => modI n i).map irow)] : AV) = .agg (cleanS s).row := by
            rw [row_scr]
            simp only [cleanS, hbg, hC, hpol, hTn, hPk]
          rw [row_scr] at hend
          rcases hO with ⟨hr0, _, _⟩ | ⟨idO, hidO, rfl, hMO⟩
          · have := congrArg List.length hr0
            simp [rowsN] at this
            omega
          · have hcO := lt_of_bnd hidO (Mem.set_eq B c _)
            have hO1 : M2 idO = some (.cells 32 ((rowsN s i).map oprow) 0) := by
              refine hO2.base _ _ ?_
              rw [Mem.set_ne _ _ _ _ (by omega), hMO]
              exact Mem.set_eq _ _ _
            have hNO : ∀ X, (M2.set b X) idO = some (.cells 32 ((rowsN s i).map oprow) 0) := fun X => by rw [Mem.set_ne _ _ _ _ (by omega)]; exact hO1
            rcases hO2 with ⟨hr0, rfl, hMM⟩ | ⟨idP, hidP, rfl, hMM⟩
            · have hPk0 : Pk = [] := by simpa using hr0
              refine finI_of (XFin.frz idO (hNO _) (XFin.wk (XFin.le (M' := M) (fun k bk hk => ?_) ⟨?_, rfl⟩)))
              · obtain ⟨h1, h2⟩ := hMle k bk hk
                simp (disch := omega) only [Mem.set_ne, h2]
              · rw [← hend, hPk0]
                simp [frzA, frz1, frzL, wkT, wkA, wkL, List.take_of_length_le]
            · have hMO' := lt_of_bnd hidP (show (M'.set c _) idO = some (.cells 32 ((rowsN s i).map oprow) 0) by rw [Mem.set_ne _ _ _ _ (by omega), hMO]; exact Mem.set_eq _ _ _)
              have hcP := lt_of_bnd hidP (Mem.set_eq M' c _)
              have hP1 : M2 idP = some (.cells 3 ((Pk.map fun n => modI n i).map irow) 0) := by rw [hMM]; exact Mem.set_eq _ _ _
              refine finI_of (XFin.frz idO (hNO _) (XFin.frz idP (by simp (disch := omega) only [Mem.set_ne, hP1]; rfl) (XFin.le (M' := M) (fun k bk hk => ?_) ⟨?_, rfl⟩)))
              · obtain ⟨h1, h2⟩ := hMle k bk hk
                simp (disch := omega) only [Mem.set_ne, h2]
              · have hne : ¬ idP = idO := by omega
                rw [← hend]
                simp [frzA, frz1, frzL, List.take_of_length_le, hne]
end Go.X

/- Scripts: alone. -/

set_option linter.unusedVariables false
set_option linter.unusedSimpArgs false
set_option maxHeartbeats 20000000
set_option maxRecDepth 100000
namespace Go.X
open Go.Proofs.Try (prog)

/-- Rows more, of a slice that is never written any more. -/
theorem app_outS {e t : TypeId} {ti te : TI} (hti : tiOf Go.Proofs.Try.prog t = some ti) (hd : ti.d = .slice e) (hte : tiOf Go.Proofs.Try.prog e = some te) (hz : zeroFits Go.Proofs.Try.prog e = true) (hsz : 0 < te.size) (hby : te.bytes ≤ 128)
    {M M' : Mem} {v : Lf} {rows src : List (List Lf)} (hr : ∀ r ∈ src, r.length = te.size) (h : OutR e M v M' rows) (hlen : rows.length + src.length ≤ 1000001) {K : AV → Mem → Prop}
    (hc : ∀ v' N' M2, OutR e M v' M2 (rows ++ src) → M2.le N' → K (.l v') N') :
    @appI Go.Proofs.Try.prog M' t t (.l v) (.l (.sl src)) ⟨K⟩ := by
  have hsrc : ∀ X : Mem, srcRows Go.Proofs.Try.prog X t t e te (.l (.sl src)) = some src := fun X => by
    simp only [srcRows, if_true]
    rw [if_pos hr]
  rcases h with ⟨rfl, rfl, rfl⟩ | ⟨idO, hO, rfl, rfl⟩
  · refine app_nils _ _ _ _ e _ _ hti hd hte hz hsz _ src (hsrc _) ?_ ?_ ?_ ?_
    · have h1 : src.length * te.bytes ≤ 1000001 * 128 := Nat.mul_le_mul (by simp at hlen; omega) hby
      omega
    · simp at hlen
      omega
    · intro h0
      refine hc _ _ M' ?_ (Mem.le_refl _)
      rw [h0]
      exact OutR.nil _ _
    · intro _ idA hidA
      exact hc _ _ _ (.inr ⟨idA, hidA, rfl, rfl⟩) (Mem.le_refl _)
  · refine app_ms _ _ _ _ e _ _ hti hd hte hz hsz idO rows.length _ (rows := rows) (keep := 0) src (Mem.set_eq _ _ _) (hsrc _) (Nat.le_refl _) (Nat.zero_le _) ?_ ?_ ?_
    · have h1 : (rows.length + src.length) * te.bytes ≤ 1000001 * 128 := Nat.mul_le_mul hlen hby
      omega
    · omega
    · intro idA hidA
      obtain ⟨hOA, hA⟩ := bnd_new hidA
      refine hc _ _ _ (.inr ⟨idA, hA, by simp, rfl⟩) (le_seti ?_ fun k bk hk hh => ?_)
      · rw [Mem.set_eq, List.take_of_length_le (Nat.le_refl _)]
      · have h0 := lt_of_bnd hO hh
        have := lt_of_bnd hA hh
        rw [Mem.set_ne _ _ _ _ (by omega), Mem.del_ne _ _ _ (by omega), Mem.set_ne _ _ _ _ (by omega)]
        exact hh
theorem totO2_take {L : List (List Opn)} {i : Nat} (hi : i < L.length) : (L.take (i + 1)).flatten = (L.take i).flatten ++ L.getD i default := by
  rw [take_snoc L hi, List.flatten_append]
  simp
theorem totO2_le (L : List (List Opn)) (i : Nat) : (L.take i).flatten.length ≤ L.flatten.length := by
  conv => rhs; rw [← List.take_append_drop i L]
  rw [List.flatten_append, List.length_append]
  omega
theorem concatO_spec (L : List (List Opn)) (hln : L.length ≤ 1000) (htot : L.flatten.length ≤ 2000002) (M : Mem) :
    XCalls Go.Proofs.Try.prog 52 [.l (.sl (L.map oprow))] M fun r M' => r = .l (.sl (L.flatten.map Opn.row)) ∧ M' = M := by
  refine xcalls_intro (rs := [.tmp 2]) Go.Proofs.Try.func52 rfl (by kernel_rfl) rfl rfl (by kernel_rfl) (by simp) ?_
  refine vc_seq_of ?_
  simp -implicitDefEqProofs (maxSteps := 1000000) (disch := omega) only [↓xsP, xsQ, xsT, xsR, tch, tOf, idsOf, storeE, eqA, fitC, fitL, eqCells, eqL, isNilS, absL, loadA, storeA, fieldAddrA, lenA, sliceA, boundA, buildA, placesOf, overw, buildSliceA, makeSliceA, clearA, unA, convA, extractA, fieldA, indexA, nilChk, capsA, retA, retA1, retL, rowOf, srcRows, gslot, Value.oneCell', ↓reduceIte, reduceCtorEq, eq_self, ne_eq, imp_self, forall_const, Nat.reduceEqDiff, Nat.reduceAdd, Nat.reduceSub, Nat.reduceMul, Nat.reduceLT, Nat.reduceLeDiff, Nat.reduceBEq, Nat.reduceDiv, Nat.reduceMod, Int.reduceToNat, Int.reduceNeg, Int.reduceAdd, Int.reduceSub, Int.reduceMul, Int.reduceEq, Int.reduceNe, Int.reduceLT, Int.reduceLE, Int.reduceGT, Int.reduceGE]
  refine vc_seq_of ?_
  simp -implicitDefEqProofs (maxSteps := 1000000) (disch := omega) only [↓xsP, xsQ, xsT, xsR, tch, tOf, idsOf, storeE, eqA, fitC, fitL, eqCells, eqL, isNilS, absL, loadA, storeA, fieldAddrA, lenA, sliceA, boundA, buildA, placesOf, overw, buildSliceA, makeSliceA, clearA, unA, convA, extractA, fieldA, indexA, nilChk, capsA, retA, retA1, retL, rowOf, srcRows, gslot, Value.oneCell', ↓reduceIte, reduceCtorEq, eq_self, ne_eq, imp_self, forall_const, Nat.reduceEqDiff, Nat.reduceAdd, Nat.reduceSub, Nat.reduceMul, Nat.reduceLT, Nat.reduceLeDiff, Nat.reduceBEq, Nat.reduceDiv, Nat.reduceMod, Int.reduceToNat, Int.reduceNeg, Int.reduceAdd, Int.reduceSub, Int.reduceMul, Int.reduceEq, Int.reduceNe, Int.reduceLT, Int.reduceLE, Int.reduceGT, Int.reduceGE]
  refine vc_cut (fun fr N => N = M ∧ fr 0 = .l (.sl (L.map oprow)) ∧ fr 3 = .l (.int .i64 L.flatten.length)) ?_ ?_
  · simp -implicitDefEqProofs (maxSteps := 1000000) (disch := omega) only [↓xsP, ↓vc_seq, xsQ, xsT, xsR, tch, tOf, idsOf, storeE, eqA, fitC, fitL, eqCells, eqL, isNilS, absL, loadA, storeA, fieldAddrA, lenA, sliceA, boundA, buildA, placesOf, overw, buildSliceA, makeSliceA, clearA, unA, convA, extractA, fieldA, indexA, nilChk, capsA, retA, retA1, retL, rowOf, srcRows, gslot, Value.oneCell', ↓reduceIte, reduceCtorEq, eq_self, ne_eq, imp_self, forall_const, Nat.reduceEqDiff, Nat.reduceAdd, Nat.reduceSub, Nat.reduceMul, Nat.reduceLT, Nat.reduceLeDiff, Nat.reduceBEq, Nat.reduceDiv, Nat.reduceMod, Int.reduceToNat, Int.reduceNeg, Int.reduceAdd, Int.reduceSub, Int.reduceMul, Int.reduceEq, Int.reduceNe, Int.reduceLT, Int.reduceLE, Int.reduceGT, Int.reduceGE]
    refine loopI_of (xloop (by kernel_rfl) (fun k fr M' => ∃ i : Nat, i ≤ L.length ∧ k = L.length - i ∧ fr 0 = .l (.sl (L.map oprow)) ∧ fr 3 = .l (.int .i64 (L.take i).flatten.length) ∧ fr 9 = .l (.sl (L.map oprow)) ∧ fr 10 = .l (.int .i64 L.length) ∧ fr 11 = .l (.int .i64 i) ∧ M' = M) L.length ?_ ?_)
    · exact ⟨0, Nat.zero_le _, rfl, by simp -implicitDefEqProofs (maxSteps := 1000000) (disch := omega) only [↓xsP, ↓vc_seq, xsQ, xsT, xsR, tch, tOf, idsOf, storeE, eqA, fitC, fitL, eqCells, eqL, isNilS, absL, loadA, storeA, fieldAddrA, lenA, sliceA, boundA, buildA, placesOf, overw, buildSliceA, makeSliceA, clearA, unA, convA, extractA, fieldA, indexA, nilChk, capsA, retA, retA1, retL, rowOf, srcRows, gslot, Value.oneCell', ↓reduceIte, reduceCtorEq, eq_self, ne_eq, imp_self, forall_const, Nat.reduceEqDiff, Nat.reduceAdd, Nat.reduceSub, Nat.reduceMul, Nat.reduceLT, Nat.reduceLeDiff, Nat.reduceBEq, Nat.reduceDiv, Nat.reduceMod, Int.reduceToNat, Int.reduceNeg, Int.reduceAdd, Int.reduceSub, Int.reduceMul, Int.reduceEq, Int.reduceNe, Int.reduceLT, Int.reduceLE, Int.reduceGT, Int.reduceGE], by simp -implicitDefEqProofs (maxSteps := 1000000) (disch := omega) only [↓xsP, ↓vc_seq, xsQ, xsT, xsR, tch, tOf, idsOf, storeE, eqA, fitC, fitL, eqCells, eqL, isNilS, absL, loadA, storeA, fieldAddrA, lenA, sliceA, boundA, buildA, placesOf, overw, buildSliceA, makeSliceA, clearA, unA, convA, extractA, fieldA, indexA, nilChk, capsA, retA, retA1, retL, rowOf, srcRows, gslot, Value.oneCell', ↓reduceIte, reduceCtorEq, eq_self, ne_eq, imp_self, forall_const, Nat.reduceEqDiff, Nat.reduceAdd, Nat.reduceSub, Nat.reduceMul, Nat.reduceLT, Nat.reduceLeDiff, Nat.reduceBEq, Nat.reduceDiv, Nat.reduceMod, Int.reduceToNat, Int.reduceNeg, Int.reduceAdd, Int.reduceSub, Int.reduceMul, Int.reduceEq, Int.reduceNe, Int.reduceLT, Int.reduceLE, Int.reduceGT, Int.reduceGE, Int.cast_ofNat_Int], by simp -implicitDefEqProofs (maxSteps := 1000000) (disch := omega) only [↓xsP, ↓vc_seq, xsQ, xsT, xsR, tch, tOf, idsOf, storeE, eqA, fitC, fitL, eqCells, eqL, isNilS, absL, loadA, storeA, fieldAddrA, lenA, sliceA, boundA, buildA, placesOf, overw, buildSliceA, makeSliceA, clearA, unA, convA, extractA, fieldA, indexA, nilChk, capsA, retA, retA1, retL, rowOf, srcRows, gslot, Value.oneCell', ↓reduceIte, reduceCtorEq, eq_self, ne_eq, imp_self, forall_const, Nat.reduceEqDiff, Nat.reduceAdd, Nat.reduceSub, Nat.reduceMul, Nat.reduceLT, Nat.reduceLeDiff, Nat.reduceBEq, Nat.reduceDiv, Nat.reduceMod, Int.reduceToNat, Int.reduceNeg, Int.reduceAdd, Int.reduceSub, Int.reduceMul, Int.reduceEq, Int.reduceNe, Int.reduceLT, Int.reduceLE, Int.reduceGT, Int.reduceGE], by simp -implicitDefEqProofs (maxSteps := 1000000) (disch := omega) only [↓xsP, ↓vc_seq, xsQ, xsT, xsR, tch, tOf, idsOf, storeE, eqA, fitC, fitL, eqCells, eqL, isNilS, absL, loadA, storeA, fieldAddrA, lenA, sliceA, boundA, buildA, placesOf, overw, buildSliceA, makeSliceA, clearA, unA, convA, extractA, fieldA, indexA, nilChk, capsA, retA, retA1, retL, rowOf, srcRows, gslot, Value.oneCell', ↓reduceIte, reduceCtorEq, eq_self, ne_eq, imp_self, forall_const, Nat.reduceEqDiff, Nat.reduceAdd, Nat.reduceSub, Nat.reduceMul, Nat.reduceLT, Nat.reduceLeDiff, Nat.reduceBEq, Nat.reduceDiv, Nat.reduceMod, Int.reduceToNat, Int.reduceNeg, Int.reduceAdd, Int.reduceSub, Int.reduceMul, Int.reduceEq, Int.reduceNe, Int.reduceLT, Int.reduceLE, Int.reduceGT, Int.reduceGE], by simp -implicitDefEqProofs (maxSteps := 1000000) (disch := omega) only [↓xsP, ↓vc_seq, xsQ, xsT, xsR, tch, tOf, idsOf, storeE, eqA, fitC, fitL, eqCells, eqL, isNilS, absL, loadA, storeA, fieldAddrA, lenA, sliceA, boundA, buildA, placesOf, overw, buildSliceA, makeSliceA, clearA, unA, convA, extractA, fieldA, indexA, nilChk, capsA, retA, retA1, retL, rowOf, srcRows, gslot, Value.oneCell', ↓reduceIte, reduceCtorEq, eq_self, ne_eq, imp_self, forall_const, Nat.reduceEqDiff, Nat.reduceAdd, Nat.reduceSub, Nat.reduceMul, Nat.reduceLT, Nat.reduceLeDiff, Nat.reduceBEq, Nat.reduceDiv, Nat.reduceMod, Int.reduceToNat, Int.reduceNeg, Int.reduceAdd, Int.reduceSub, Int.reduceMul, Int.reduceEq, Int.reduceNe, Int.reduceLT, Int.reduceLE, Int.reduceGT, Int.reduceGE, Int.cast_ofNat_Int], rfl⟩
    · rintro k fr M' ⟨i, hi, rfl, h0, h3, h9, h10, h11, rfl⟩
      simp -implicitDefEqProofs (maxSteps := 1000000) (disch := omega) only [↓xsP, ↓vc_seq, xsQ, xsT, xsR, tch, tOf, idsOf, storeE, eqA, fitC, fitL, eqCells, eqL, isNilS, absL, loadA, storeA, fieldAddrA, lenA, sliceA, boundA, buildA, placesOf, overw, buildSliceA, makeSliceA, clearA, unA, convA, extractA, fieldA, indexA, nilChk, capsA, retA, retA1, retL, rowOf, srcRows, gslot, Value.oneCell', ↓reduceIte, reduceCtorEq, eq_self, ne_eq, imp_self, forall_const, Nat.reduceEqDiff, Nat.reduceAdd, Nat.reduceSub, Nat.reduceMul, Nat.reduceLT, Nat.reduceLeDiff, Nat.reduceBEq, Nat.reduceDiv, Nat.reduceMod, Int.reduceToNat, Int.reduceNeg, Int.reduceAdd, Int.reduceSub, Int.reduceMul, Int.reduceEq, Int.reduceNe, Int.reduceLT, Int.reduceLE, Int.reduceGT, Int.reduceGE, h0, h3, h9, h10, h11]
      refine condI_prop (fun hlt => ?_) (fun hlt => ?_)
      · have hi' : i < L.length := by omega
        have ht := totO2_take hi'
        have htl := totO2_le L (i + 1)
        rw [ht, List.length_append] at htl
        obtain ⟨l, hl⟩ : ∃ l, L.getD i default = l := ⟨_, rfl⟩
        rw [hl] at ht htl
        simp -implicitDefEqProofs (maxSteps := 1000000) (disch := omega) only [↓xsP, ↓vc_seq, xsQ, xsT, xsR, tch, tOf, idsOf, storeE, eqA, fitC, fitL, eqCells, eqL, isNilS, absL, loadA, storeA, fieldAddrA, lenA, sliceA, boundA, buildA, placesOf, overw, buildSliceA, makeSliceA, clearA, unA, convA, extractA, fieldA, indexA, nilChk, capsA, retA, retA1, retL, rowOf, srcRows, gslot, Value.oneCell', ↓reduceIte, reduceCtorEq, eq_self, ne_eq, imp_self, forall_const, Nat.reduceEqDiff, Nat.reduceAdd, Nat.reduceSub, Nat.reduceMul, Nat.reduceLT, Nat.reduceLeDiff, Nat.reduceBEq, Nat.reduceDiv, Nat.reduceMod, Int.reduceToNat, Int.reduceNeg, Int.reduceAdd, Int.reduceSub, Int.reduceMul, Int.reduceEq, Int.reduceNe, Int.reduceLT, Int.reduceLE, Int.reduceGT, Int.reduceGE, h0, h3, h9, h10, h11, hl]
        have hneg : (((L.take i).flatten.length : Int) + (l.length : Int) < 0) = False := eq_false (by omega)
        simp -implicitDefEqProofs (maxSteps := 1000000) (disch := omega) only [↓xsP, ↓vc_seq, xsQ, xsT, xsR, tch, tOf, idsOf, storeE, eqA, fitC, fitL, eqCells, eqL, isNilS, absL, loadA, storeA, fieldAddrA, lenA, sliceA, boundA, buildA, placesOf, overw, buildSliceA, makeSliceA, clearA, unA, convA, extractA, fieldA, indexA, nilChk, capsA, retA, retA1, retL, rowOf, srcRows, gslot, Value.oneCell', ↓reduceIte, reduceCtorEq, eq_self, ne_eq, imp_self, forall_const, Nat.reduceEqDiff, Nat.reduceAdd, Nat.reduceSub, Nat.reduceMul, Nat.reduceLT, Nat.reduceLeDiff, Nat.reduceBEq, Nat.reduceDiv, Nat.reduceMod, Int.reduceToNat, Int.reduceNeg, Int.reduceAdd, Int.reduceSub, Int.reduceMul, Int.reduceEq, Int.reduceNe, Int.reduceLT, Int.reduceLE, Int.reduceGT, Int.reduceGE, h0, h3, h9, h10, h11, hneg]
        exact ⟨L.length - (i + 1), M', by omega, Mem.le_refl _, i + 1, by omega, rfl, by rw [ht]; simp, rfl, rfl⟩
      · simp -implicitDefEqProofs (maxSteps := 1000000) (disch := omega) only [↓xsP, ↓vc_seq, xsQ, xsT, xsR, tch, tOf, idsOf, storeE, eqA, fitC, fitL, eqCells, eqL, isNilS, absL, loadA, storeA, fieldAddrA, lenA, sliceA, boundA, buildA, placesOf, overw, buildSliceA, makeSliceA, clearA, unA, convA, extractA, fieldA, indexA, nilChk, capsA, retA, retA1, retL, rowOf, srcRows, gslot, Value.oneCell', ↓reduceIte, reduceCtorEq, eq_self, ne_eq, imp_self, forall_const, Nat.reduceEqDiff, Nat.reduceAdd, Nat.reduceSub, Nat.reduceMul, Nat.reduceLT, Nat.reduceLeDiff, Nat.reduceBEq, Nat.reduceDiv, Nat.reduceMod, Int.reduceToNat, Int.reduceNeg, Int.reduceAdd, Int.reduceSub, Int.reduceMul, Int.reduceEq, Int.reduceNe, Int.reduceLT, Int.reduceLE, Int.reduceGT, Int.reduceGE, h0, h3, h9, h10, h11]
        have hil : i = L.length := by omega
        rw [hil, List.take_length]
  · rintro fr N ⟨rfl, h0, h3⟩
    refine vc_cut (fun fr M1 => fr 0 = .l (.sl (L.map oprow)) ∧ ((L.flatten = [] ∧ fr 6 = .l .nils ∧ M1 = N) ∨ ∃ idR rows, (∀ j, idR ≤ j → N j = none) ∧ fr 6 = .l (.ms idR 0 0) ∧ M1 = N.set idR (.cells 34 rows 0))) ?_ ?_
    · simp -implicitDefEqProofs (maxSteps := 1000000) (disch := omega) only [↓xsP, ↓vc_seq, xsQ, xsT, xsR, tch, tOf, idsOf, storeE, eqA, fitC, fitL, eqCells, eqL, isNilS, absL, loadA, storeA, fieldAddrA, lenA, sliceA, boundA, buildA, placesOf, overw, buildSliceA, makeSliceA, clearA, unA, convA, extractA, fieldA, indexA, nilChk, capsA, retA, retA1, retL, rowOf, srcRows, gslot, Value.oneCell', ↓reduceIte, reduceCtorEq, eq_self, ne_eq, imp_self, forall_const, Nat.reduceEqDiff, Nat.reduceAdd, Nat.reduceSub, Nat.reduceMul, Nat.reduceLT, Nat.reduceLeDiff, Nat.reduceBEq, Nat.reduceDiv, Nat.reduceMod, Int.reduceToNat, Int.reduceNeg, Int.reduceAdd, Int.reduceSub, Int.reduceMul, Int.reduceEq, Int.reduceNe, Int.reduceLT, Int.reduceLE, Int.reduceGT, Int.reduceGE, h0, h3]
      refine callI_of ((growO_spec L.flatten.length htot _).mono ?_)
      rintro r M1 (⟨rfl, h2, rfl⟩ | ⟨id, h1, rfl, rfl⟩)
      · simp -implicitDefEqProofs (maxSteps := 1000000) (disch := omega) only [↓xsP, ↓vc_seq, xsQ, xsT, xsR, tch, tOf, idsOf, storeE, eqA, fitC, fitL, eqCells, eqL, isNilS, absL, loadA, storeA, fieldAddrA, lenA, sliceA, boundA, buildA, placesOf, overw, buildSliceA, makeSliceA, clearA, unA, convA, extractA, fieldA, indexA, nilChk, capsA, retA, retA1, retL, rowOf, srcRows, gslot, Value.oneCell', ↓reduceIte, reduceCtorEq, eq_self, ne_eq, imp_self, forall_const, Nat.reduceEqDiff, Nat.reduceAdd, Nat.reduceSub, Nat.reduceMul, Nat.reduceLT, Nat.reduceLeDiff, Nat.reduceBEq, Nat.reduceDiv, Nat.reduceMod, Int.reduceToNat, Int.reduceNeg, Int.reduceAdd, Int.reduceSub, Int.reduceMul, Int.reduceEq, Int.reduceNe, Int.reduceLT, Int.reduceLE, Int.reduceGT, Int.reduceGE, h0, h3]
        exact .inl (List.eq_nil_of_length_eq_zero h2)
      · simp -implicitDefEqProofs (maxSteps := 1000000) (disch := omega) only [↓xsP, ↓vc_seq, xsQ, xsT, xsR, tch, tOf, idsOf, storeE, eqA, fitC, fitL, eqCells, eqL, isNilS, absL, loadA, storeA, fieldAddrA, lenA, sliceA, boundA, buildA, placesOf, overw, buildSliceA, makeSliceA, clearA, unA, convA, extractA, fieldA, indexA, nilChk, capsA, retA, retA1, retL, rowOf, srcRows, gslot, Value.oneCell', ↓reduceIte, reduceCtorEq, eq_self, ne_eq, imp_self, forall_const, Nat.reduceEqDiff, Nat.reduceAdd, Nat.reduceSub, Nat.reduceMul, Nat.reduceLT, Nat.reduceLeDiff, Nat.reduceBEq, Nat.reduceDiv, Nat.reduceMod, Int.reduceToNat, Int.reduceNeg, Int.reduceAdd, Int.reduceSub, Int.reduceMul, Int.reduceEq, Int.reduceNe, Int.reduceLT, Int.reduceLE, Int.reduceGT, Int.reduceGE, h0, h3]
        exact .inr ⟨id, _, h1, rfl, rfl⟩
    · clear h0 h3
      rintro fr M1 ⟨h0, hst⟩
      simp -implicitDefEqProofs (maxSteps := 1000000) (disch := omega) only [↓xsP, ↓vc_seq, xsQ, xsT, xsR, tch, tOf, idsOf, storeE, eqA, fitC, fitL, eqCells, eqL, isNilS, absL, loadA, storeA, fieldAddrA, lenA, sliceA, boundA, buildA, placesOf, overw, buildSliceA, makeSliceA, clearA, unA, convA, extractA, fieldA, indexA, nilChk, capsA, retA, retA1, retL, rowOf, srcRows, gslot, Value.oneCell', ↓reduceIte, reduceCtorEq, eq_self, ne_eq, imp_self, forall_const, Nat.reduceEqDiff, Nat.reduceAdd, Nat.reduceSub, Nat.reduceMul, Nat.reduceLT, Nat.reduceLeDiff, Nat.reduceBEq, Nat.reduceDiv, Nat.reduceMod, Int.reduceToNat, Int.reduceNeg, Int.reduceAdd, Int.reduceSub, Int.reduceMul, Int.reduceEq, Int.reduceNe, Int.reduceLT, Int.reduceLE, Int.reduceGT, Int.reduceGE, h0]
      refine loopI_of (xloop (by kernel_rfl) (fun k fr M' => ∃ i : Nat, i ≤ L.length ∧ k = L.length - i ∧ fr 25 = .l (.sl (L.map oprow)) ∧ fr 26 = .l (.int .i64 L.length) ∧ fr 27 = .l (.int .i64 i) ∧
        ((L.flatten = [] ∧ fr 6 = .l .nils ∧ M' = N) ∨ ∃ idR rows, (∀ j, idR ≤ j → N j = none) ∧ fr 6 = .l (.ms idR 0 (L.take i).flatten.length) ∧ M' = N.set idR (.cells 34 rows 0) ∧ rows.take (L.take i).flatten.length = (L.take i).flatten.map Opn.row ∧ (L.take i).flatten.length ≤ rows.length)) L.length ?_ ?_)
      · refine ⟨0, Nat.zero_le _, rfl, by simp -implicitDefEqProofs (maxSteps := 1000000) (disch := omega) only [↓xsP, ↓vc_seq, xsQ, xsT, xsR, tch, tOf, idsOf, storeE, eqA, fitC, fitL, eqCells, eqL, isNilS, absL, loadA, storeA, fieldAddrA, lenA, sliceA, boundA, buildA, placesOf, overw, buildSliceA, makeSliceA, clearA, unA, convA, extractA, fieldA, indexA, nilChk, capsA, retA, retA1, retL, rowOf, srcRows, gslot, Value.oneCell', ↓reduceIte, reduceCtorEq, eq_self, ne_eq, imp_self, forall_const, Nat.reduceEqDiff, Nat.reduceAdd, Nat.reduceSub, Nat.reduceMul, Nat.reduceLT, Nat.reduceLeDiff, Nat.reduceBEq, Nat.reduceDiv, Nat.reduceMod, Int.reduceToNat, Int.reduceNeg, Int.reduceAdd, Int.reduceSub, Int.reduceMul, Int.reduceEq, Int.reduceNe, Int.reduceLT, Int.reduceLE, Int.reduceGT, Int.reduceGE], by simp -implicitDefEqProofs (maxSteps := 1000000) (disch := omega) only [↓xsP, ↓vc_seq, xsQ, xsT, xsR, tch, tOf, idsOf, storeE, eqA, fitC, fitL, eqCells, eqL, isNilS, absL, loadA, storeA, fieldAddrA, lenA, sliceA, boundA, buildA, placesOf, overw, buildSliceA, makeSliceA, clearA, unA, convA, extractA, fieldA, indexA, nilChk, capsA, retA, retA1, retL, rowOf, srcRows, gslot, Value.oneCell', ↓reduceIte, reduceCtorEq, eq_self, ne_eq, imp_self, forall_const, Nat.reduceEqDiff, Nat.reduceAdd, Nat.reduceSub, Nat.reduceMul, Nat.reduceLT, Nat.reduceLeDiff, Nat.reduceBEq, Nat.reduceDiv, Nat.reduceMod, Int.reduceToNat, Int.reduceNeg, Int.reduceAdd, Int.reduceSub, Int.reduceMul, Int.reduceEq, Int.reduceNe, Int.reduceLT, Int.reduceLE, Int.reduceGT, Int.reduceGE], by simp -implicitDefEqProofs (maxSteps := 1000000) (disch := omega) only [↓xsP, ↓vc_seq, xsQ, xsT, xsR, tch, tOf, idsOf, storeE, eqA, fitC, fitL, eqCells, eqL, isNilS, absL, loadA, storeA, fieldAddrA, lenA, sliceA, boundA, buildA, placesOf, overw, buildSliceA, makeSliceA, clearA, unA, convA, extractA, fieldA, indexA, nilChk, capsA, retA, retA1, retL, rowOf, srcRows, gslot, Value.oneCell', ↓reduceIte, reduceCtorEq, eq_self, ne_eq, imp_self, forall_const, Nat.reduceEqDiff, Nat.reduceAdd, Nat.reduceSub, Nat.reduceMul, Nat.reduceLT, Nat.reduceLeDiff, Nat.reduceBEq, Nat.reduceDiv, Nat.reduceMod, Int.reduceToNat, Int.reduceNeg, Int.reduceAdd, Int.reduceSub, Int.reduceMul, Int.reduceEq, Int.reduceNe, Int.reduceLT, Int.reduceLE, Int.reduceGT, Int.reduceGE, Int.cast_ofNat_Int], ?_⟩
        rcases hst with ⟨h1, h2, h3⟩ | ⟨idR, rows, h1, h2, h3⟩
        · exact .inl ⟨h1, by simp -implicitDefEqProofs (maxSteps := 1000000) (disch := omega) only [↓xsP, ↓vc_seq, xsQ, xsT, xsR, tch, tOf, idsOf, storeE, eqA, fitC, fitL, eqCells, eqL, isNilS, absL, loadA, storeA, fieldAddrA, lenA, sliceA, boundA, buildA, placesOf, overw, buildSliceA, makeSliceA, clearA, unA, convA, extractA, fieldA, indexA, nilChk, capsA, retA, retA1, retL, rowOf, srcRows, gslot, Value.oneCell', ↓reduceIte, reduceCtorEq, eq_self, ne_eq, imp_self, forall_const, Nat.reduceEqDiff, Nat.reduceAdd, Nat.reduceSub, Nat.reduceMul, Nat.reduceLT, Nat.reduceLeDiff, Nat.reduceBEq, Nat.reduceDiv, Nat.reduceMod, Int.reduceToNat, Int.reduceNeg, Int.reduceAdd, Int.reduceSub, Int.reduceMul, Int.reduceEq, Int.reduceNe, Int.reduceLT, Int.reduceLE, Int.reduceGT, Int.reduceGE, h2], h3⟩
        · exact .inr ⟨idR, rows, h1, by simp -implicitDefEqProofs (maxSteps := 1000000) (disch := omega) only [↓xsP, ↓vc_seq, xsQ, xsT, xsR, tch, tOf, idsOf, storeE, eqA, fitC, fitL, eqCells, eqL, isNilS, absL, loadA, storeA, fieldAddrA, lenA, sliceA, boundA, buildA, placesOf, overw, buildSliceA, makeSliceA, clearA, unA, convA, extractA, fieldA, indexA, nilChk, capsA, retA, retA1, retL, rowOf, srcRows, gslot, Value.oneCell', ↓reduceIte, reduceCtorEq, eq_self, ne_eq, imp_self, forall_const, Nat.reduceEqDiff, Nat.reduceAdd, Nat.reduceSub, Nat.reduceMul, Nat.reduceLT, Nat.reduceLeDiff, Nat.reduceBEq, Nat.reduceDiv, Nat.reduceMod, Int.reduceToNat, Int.reduceNeg, Int.reduceAdd, Int.reduceSub, Int.reduceMul, Int.reduceEq, Int.reduceNe, Int.reduceLT, Int.reduceLE, Int.reduceGT, Int.reduceGE, h2], h3, rfl, Nat.zero_le _⟩
      · rintro k fr M' ⟨i, hi, rfl, h25, h26, h27, hst⟩
        simp -implicitDefEqProofs (maxSteps := 1000000) (disch := omega) only [↓xsP, ↓vc_seq, xsQ, xsT, xsR, tch, tOf, idsOf, storeE, eqA, fitC, fitL, eqCells, eqL, isNilS, absL, loadA, storeA, fieldAddrA, lenA, sliceA, boundA, buildA, placesOf, overw, buildSliceA, makeSliceA, clearA, unA, convA, extractA, fieldA, indexA, nilChk, capsA, retA, retA1, retL, rowOf, srcRows, gslot, Value.oneCell', ↓reduceIte, reduceCtorEq, eq_self, ne_eq, imp_self, forall_const, Nat.reduceEqDiff, Nat.reduceAdd, Nat.reduceSub, Nat.reduceMul, Nat.reduceLT, Nat.reduceLeDiff, Nat.reduceBEq, Nat.reduceDiv, Nat.reduceMod, Int.reduceToNat, Int.reduceNeg, Int.reduceAdd, Int.reduceSub, Int.reduceMul, Int.reduceEq, Int.reduceNe, Int.reduceLT, Int.reduceLE, Int.reduceGT, Int.reduceGE, h25, h26, h27]
        refine condI_prop (fun hlt => ?_) (fun hlt => ?_)
        · have hi' : i < L.length := by omega
          have ht := totO2_take hi'
          have htl := totO2_le L (i + 1)
          rw [ht, List.length_append] at htl
          obtain ⟨l, hl⟩ : ∃ l, L.getD i default = l := ⟨_, rfl⟩
          rw [hl] at ht htl
          rcases hst with ⟨h1, h6, rfl⟩ | ⟨idR, rows, h1, h6, rfl, h7, h8⟩
          · have hLi : l = [] := by
              rw [h1] at htl
              simp only [List.length_nil] at htl
              exact List.eq_nil_of_length_eq_zero (by omega)
            subst hLi
            simp -implicitDefEqProofs (maxSteps := 1000000) (disch := omega) only [↓xsP, ↓vc_seq, xsQ, xsT, xsR, tch, tOf, idsOf, storeE, eqA, fitC, fitL, eqCells, eqL, isNilS, absL, loadA, storeA, fieldAddrA, lenA, sliceA, boundA, buildA, placesOf, overw, buildSliceA, makeSliceA, clearA, unA, convA, extractA, fieldA, indexA, nilChk, capsA, retA, retA1, retL, rowOf, srcRows, gslot, Value.oneCell', ↓reduceIte, reduceCtorEq, eq_self, ne_eq, imp_self, forall_const, Nat.reduceEqDiff, Nat.reduceAdd, Nat.reduceSub, Nat.reduceMul, Nat.reduceLT, Nat.reduceLeDiff, Nat.reduceBEq, Nat.reduceDiv, Nat.reduceMod, Int.reduceToNat, Int.reduceNeg, Int.reduceAdd, Int.reduceSub, Int.reduceMul, Int.reduceEq, Int.reduceNe, Int.reduceLT, Int.reduceLE, Int.reduceGT, Int.reduceGE, h25, h26, h27, hl, h6]
            refine app_srcO_nil (.inl rfl) ?_
            simp -implicitDefEqProofs (maxSteps := 1000000) (disch := omega) only [↓xsP, ↓vc_seq, xsQ, xsT, xsR, tch, tOf, idsOf, storeE, eqA, fitC, fitL, eqCells, eqL, isNilS, absL, loadA, storeA, fieldAddrA, lenA, sliceA, boundA, buildA, placesOf, overw, buildSliceA, makeSliceA, clearA, unA, convA, extractA, fieldA, indexA, nilChk, capsA, retA, retA1, retL, rowOf, srcRows, gslot, Value.oneCell', ↓reduceIte, reduceCtorEq, eq_self, ne_eq, imp_self, forall_const, Nat.reduceEqDiff, Nat.reduceAdd, Nat.reduceSub, Nat.reduceMul, Nat.reduceLT, Nat.reduceLeDiff, Nat.reduceBEq, Nat.reduceDiv, Nat.reduceMod, Int.reduceToNat, Int.reduceNeg, Int.reduceAdd, Int.reduceSub, Int.reduceMul, Int.reduceEq, Int.reduceNe, Int.reduceLT, Int.reduceLE, Int.reduceGT, Int.reduceGE, h25, h26, h27, h6]
            exact ⟨L.length - (i + 1), M', by omega, Mem.le_refl _, i + 1, by omega, rfl, by simp, .inl ⟨h1, rfl⟩⟩
          · simp -implicitDefEqProofs (maxSteps := 1000000) (disch := omega) only [↓xsP, ↓vc_seq, xsQ, xsT, xsR, tch, tOf, idsOf, storeE, eqA, fitC, fitL, eqCells, eqL, isNilS, absL, loadA, storeA, fieldAddrA, lenA, sliceA, boundA, buildA, placesOf, overw, buildSliceA, makeSliceA, clearA, unA, convA, extractA, fieldA, indexA, nilChk, capsA, retA, retA1, retL, rowOf, srcRows, gslot, Value.oneCell', ↓reduceIte, reduceCtorEq, eq_self, ne_eq, imp_self, forall_const, Nat.reduceEqDiff, Nat.reduceAdd, Nat.reduceSub, Nat.reduceMul, Nat.reduceLT, Nat.reduceLeDiff, Nat.reduceBEq, Nat.reduceDiv, Nat.reduceMod, Int.reduceToNat, Int.reduceNeg, Int.reduceAdd, Int.reduceSub, Int.reduceMul, Int.reduceEq, Int.reduceNe, Int.reduceLT, Int.reduceLE, Int.reduceGT, Int.reduceGE, h25, h26, h27, hl, h6]
            refine app_srcO (l := l) (.inl rfl) (Mem.set_eq _ _ _) h8 (Nat.zero_le _) (by omega) fun id' hid' => ?_
            obtain ⟨hRi, hid'⟩ := bnd_new hid'
            simp -implicitDefEqProofs (maxSteps := 1000000) (disch := omega) only [↓xsP, ↓vc_seq, xsQ, xsT, xsR, tch, tOf, idsOf, storeE, eqA, fitC, fitL, eqCells, eqL, isNilS, absL, loadA, storeA, fieldAddrA, lenA, sliceA, boundA, buildA, placesOf, overw, buildSliceA, makeSliceA, clearA, unA, convA, extractA, fieldA, indexA, nilChk, capsA, retA, retA1, retL, rowOf, srcRows, gslot, Value.oneCell', ↓reduceIte, reduceCtorEq, eq_self, ne_eq, imp_self, forall_const, Nat.reduceEqDiff, Nat.reduceAdd, Nat.reduceSub, Nat.reduceMul, Nat.reduceLT, Nat.reduceLeDiff, Nat.reduceBEq, Nat.reduceDiv, Nat.reduceMod, Int.reduceToNat, Int.reduceNeg, Int.reduceAdd, Int.reduceSub, Int.reduceMul, Int.reduceEq, Int.reduceNe, Int.reduceLT, Int.reduceLE, Int.reduceGT, Int.reduceGE, h25, h26, h27, h6]
            refine ⟨L.length - (i + 1), N.set id' (.cells 34 (rows.take (L.take i).flatten.length ++ l.map Opn.row) 0), by omega, le_clone (h1 _ (Nat.le_refl _)), i + 1, by omega, rfl, by simp, .inr ⟨id', _, hid', by rw [ht, List.length_append], rfl, ?_, ?_⟩⟩
            · rw [h7, ht, List.map_append, List.take_of_length_le (by simp only [List.length_append, List.length_map]; exact Nat.le_refl _)]
            · rw [h7, ht]
              simp only [List.length_append, List.length_map]
              exact Nat.le_refl _
        · simp -implicitDefEqProofs (maxSteps := 1000000) (disch := omega) only [↓xsP, ↓vc_seq, xsQ, xsT, xsR, tch, tOf, idsOf, storeE, eqA, fitC, fitL, eqCells, eqL, isNilS, absL, loadA, storeA, fieldAddrA, lenA, sliceA, boundA, buildA, placesOf, overw, buildSliceA, makeSliceA, clearA, unA, convA, extractA, fieldA, indexA, nilChk, capsA, retA, retA1, retL, rowOf, srcRows, gslot, Value.oneCell', ↓reduceIte, reduceCtorEq, eq_self, ne_eq, imp_self, forall_const, Nat.reduceEqDiff, Nat.reduceAdd, Nat.reduceSub, Nat.reduceMul, Nat.reduceLT, Nat.reduceLeDiff, Nat.reduceBEq, Nat.reduceDiv, Nat.reduceMod, Int.reduceToNat, Int.reduceNeg, Int.reduceAdd, Int.reduceSub, Int.reduceMul, Int.reduceEq, Int.reduceNe, Int.reduceLT, Int.reduceLE, Int.reduceGT, Int.reduceGE, h25, h26, h27]
          have hil : i = L.length := by omega
          subst hil
          rw [List.take_length] at hst
          rcases hst with ⟨h1, h6, rfl⟩ | ⟨idR, rows, h1, h6, rfl, h7, h8⟩
          · simp -implicitDefEqProofs (maxSteps := 1000000) (disch := omega) only [↓xsP, ↓vc_seq, xsQ, xsT, xsR, tch, tOf, idsOf, storeE, eqA, fitC, fitL, eqCells, eqL, isNilS, absL, loadA, storeA, fieldAddrA, lenA, sliceA, boundA, buildA, placesOf, overw, buildSliceA, makeSliceA, clearA, unA, convA, extractA, fieldA, indexA, nilChk, capsA, retA, retA1, retL, rowOf, srcRows, gslot, Value.oneCell', ↓reduceIte, reduceCtorEq, eq_self, ne_eq, imp_self, forall_const, Nat.reduceEqDiff, Nat.reduceAdd, Nat.reduceSub, Nat.reduceMul, Nat.reduceLT, Nat.reduceLeDiff, Nat.reduceBEq, Nat.reduceDiv, Nat.reduceMod, Int.reduceToNat, Int.reduceNeg, Int.reduceAdd, Int.reduceSub, Int.reduceMul, Int.reduceEq, Int.reduceNe, Int.reduceLT, Int.reduceLE, Int.reduceGT, Int.reduceGE, h6]
            refine finI_of (XFin.wk (XFin.here ⟨?_, rfl⟩))
            rw [h1]
            rfl
          · simp -implicitDefEqProofs (maxSteps := 1000000) (disch := omega) only [↓xsP, ↓vc_seq, xsQ, xsT, xsR, tch, tOf, idsOf, storeE, eqA, fitC, fitL, eqCells, eqL, isNilS, absL, loadA, storeA, fieldAddrA, lenA, sliceA, boundA, buildA, placesOf, overw, buildSliceA, makeSliceA, clearA, unA, convA, extractA, fieldA, indexA, nilChk, capsA, retA, retA1, retL, rowOf, srcRows, gslot, Value.oneCell', ↓reduceIte, reduceCtorEq, eq_self, ne_eq, imp_self, forall_const, Nat.reduceEqDiff, Nat.reduceAdd, Nat.reduceSub, Nat.reduceMul, Nat.reduceLT, Nat.reduceLeDiff, Nat.reduceBEq, Nat.reduceDiv, Nat.reduceMod, Int.reduceToNat, Int.reduceNeg, Int.reduceAdd, Int.reduceSub, Int.reduceMul, Int.reduceEq, Int.reduceNe, Int.reduceLT, Int.reduceLE, Int.reduceGT, Int.reduceGE, h6]
            refine finI_of (XFin.frz idR (Mem.set_eq _ _ _) (XFin.le ?_ ⟨?_, rfl⟩))
            · exact le_new (le_new (Mem.le_refl _) h1) h1
            · simp only [frzA, frz1, frzL, Nat.zero_add, List.drop_zero, h8, h7, eq_self, and_self, if_true]
theorem cleanRow_len (l : List Opn) : (cleanRow l).length ≤ 60 := by unfold cleanRow; rw [List.length_take]; omega
theorem rowsN_tot (s : Scr) (n : Nat) : (rowsN s n).flatten.length ≤ 60 * n := by
  induction n with
  | zero => simp [rowsN]
  | succ n ih =>
    rw [rowsN_succ, List.flatten_append, List.length_append]
    have := cleanRow_len (s.ops.getD n [])
    simp only [List.flatten_cons, List.flatten_nil, List.append_nil]
    omega
noncomputable def soloS (s : Scr) : Scr := ⟨1, (cleanS s).cells, (cleanS s).pol, (cleanS s).beg, [(cleanS s).ops.flatten.take 60], []⟩
theorem solo_spec (s : Scr) (hs : SmS s) (M : Mem) : XCalls Go.Proofs.Try.prog 27 [.agg s.row] M fun r M' => r = .agg (soloS s).row ∧ M' = M := by
  refine xcalls_intro (rs := [.cell 2 28]) Go.Proofs.Try.func27 rfl (by kernel_rfl) rfl rfl (by kernel_rfl) (by simp) ?_
  have hT := thrN_le s
  have htot := rowsN_tot s (thrN s)
  have hops : (cleanS s).ops = rowsN s (thrN s) := rfl
  have hlen : (rowsN s (thrN s)).length = thrN s := by simp [rowsN]
  simp -implicitDefEqProofs (maxSteps := 1000000) (disch := omega) only [↓xsP, ↓vc_seq, xsQ, xsT, xsR, tch, tOf, idsOf, storeE, eqA, fitC, fitL, eqCells, eqL, isNilS, absL, loadA, storeA, fieldAddrA, lenA, sliceA, boundA, buildA, placesOf, overw, buildSliceA, makeSliceA, clearA, unA, convA, extractA, fieldA, indexA, nilChk, capsA, retA, retA1, retL, rowOf, srcRows, gslot, Value.oneCell', ↓reduceIte, reduceCtorEq, eq_self, ne_eq, imp_self, forall_const, Nat.reduceEqDiff, Nat.reduceAdd, Nat.reduceSub, Nat.reduceMul, Nat.reduceLT, Nat.reduceLeDiff, Nat.reduceBEq, Nat.reduceDiv, Nat.reduceMod, Int.reduceToNat, Int.reduceNeg, Int.reduceAdd, Int.reduceSub, Int.reduceMul, Int.reduceEq, Int.reduceNe, Int.reduceLT, Int.reduceLE, Int.reduceGT, Int.reduceGE]
  refine newI_intro fun a ha => ?_
  simp -implicitDefEqProofs (maxSteps := 1000000) (disch := omega) only [↓xsP, ↓vc_seq, xsQ, xsT, xsR, tch, tOf, idsOf, storeE, eqA, fitC, fitL, eqCells, eqL, isNilS, absL, loadA, storeA, fieldAddrA, lenA, sliceA, boundA, buildA, placesOf, overw, buildSliceA, makeSliceA, clearA, unA, convA, extractA, fieldA, indexA, nilChk, capsA, retA, retA1, retL, rowOf, srcRows, gslot, Value.oneCell', ↓reduceIte, reduceCtorEq, eq_self, ne_eq, imp_self, forall_const, Nat.reduceEqDiff, Nat.reduceAdd, Nat.reduceSub, Nat.reduceMul, Nat.reduceLT, Nat.reduceLeDiff, Nat.reduceBEq, Nat.reduceDiv, Nat.reduceMod, Int.reduceToNat, Int.reduceNeg, Int.reduceAdd, Int.reduceSub, Int.reduceMul, Int.reduceEq, Int.reduceNe, Int.reduceLT, Int.reduceLE, Int.reduceGT, Int.reduceGE]
  refine newI_intro fun b hb => ?_
  obtain ⟨hab, hb'⟩ := bnd_new hb
  simp -implicitDefEqProofs (maxSteps := 1000000) (disch := omega) only [↓xsP, ↓vc_seq, xsQ, xsT, xsR, tch, tOf, idsOf, storeE, eqA, fitC, fitL, eqCells, eqL, isNilS, absL, loadA, storeA, fieldAddrA, lenA, sliceA, boundA, buildA, placesOf, overw, buildSliceA, makeSliceA, clearA, unA, convA, extractA, fieldA, indexA, nilChk, capsA, retA, retA1, retL, rowOf, srcRows, gslot, Value.oneCell', ↓reduceIte, reduceCtorEq, eq_self, ne_eq, imp_self, forall_const, Nat.reduceEqDiff, Nat.reduceAdd, Nat.reduceSub, Nat.reduceMul, Nat.reduceLT, Nat.reduceLeDiff, Nat.reduceBEq, Nat.reduceDiv, Nat.reduceMod, Int.reduceToNat, Int.reduceNeg, Int.reduceAdd, Int.reduceSub, Int.reduceMul, Int.reduceEq, Int.reduceNe, Int.reduceLT, Int.reduceLE, Int.reduceGT, Int.reduceGE]
  refine call_of (clean_spec s hs _) ?_
  have hsol : (soloS s).row = [.int .i64 1, .int .i64 (cleanS s).cells, .int .i64 (cleanS s).pol.high, .int .i64 (cleanS s).pol.low, .int .i64 (cleanS s).pol.cont, .int .i64 (cleanS s).pol.unc, .int .i64 (cleanS s).pol.multi, .sl ((cleanS s).beg.map Pr.row), .sl [[.sl (((cleanS s).ops.flatten.take 60).map Opn.row)]], .sl []] := rfl
  rw [hsol]
  rw [← hops] at htot hlen
  generalize cleanS s = c at htot hlen ⊢
  simp -implicitDefEqProofs (maxSteps := 1000000) (disch := omega) only [↓xsP, ↓vc_seq, xsQ, xsT, xsR, tch, tOf, idsOf, storeE, eqA, fitC, fitL, eqCells, eqL, isNilS, absL, loadA, storeA, fieldAddrA, lenA, sliceA, boundA, buildA, placesOf, overw, buildSliceA, makeSliceA, clearA, unA, convA, extractA, fieldA, indexA, nilChk, capsA, retA, retA1, retL, rowOf, srcRows, gslot, Value.oneCell', ↓reduceIte, reduceCtorEq, eq_self, ne_eq, imp_self, forall_const, Nat.reduceEqDiff, Nat.reduceAdd, Nat.reduceSub, Nat.reduceMul, Nat.reduceLT, Nat.reduceLeDiff, Nat.reduceBEq, Nat.reduceDiv, Nat.reduceMod, Int.reduceToNat, Int.reduceNeg, Int.reduceAdd, Int.reduceSub, Int.reduceMul, Int.reduceEq, Int.reduceNe, Int.reduceLT, Int.reduceLE, Int.reduceGT, Int.reduceGE]
  refine newI_intro fun d hd => ?_
  obtain ⟨hbd, hd'⟩ := bnd_new hd
  obtain ⟨had, hd''⟩ := bnd_new hd'
  simp -implicitDefEqProofs (maxSteps := 1000000) (disch := omega) only [↓xsP, ↓vc_seq, xsQ, xsT, xsR, tch, tOf, idsOf, storeE, eqA, fitC, fitL, eqCells, eqL, isNilS, absL, loadA, storeA, fieldAddrA, lenA, sliceA, boundA, buildA, placesOf, overw, buildSliceA, makeSliceA, clearA, unA, convA, extractA, fieldA, indexA, nilChk, capsA, retA, retA1, retL, rowOf, srcRows, gslot, Value.oneCell', ↓reduceIte, reduceCtorEq, eq_self, ne_eq, imp_self, forall_const, Nat.reduceEqDiff, Nat.reduceAdd, Nat.reduceSub, Nat.reduceMul, Nat.reduceLT, Nat.reduceLeDiff, Nat.reduceBEq, Nat.reduceDiv, Nat.reduceMod, Int.reduceToNat, Int.reduceNeg, Int.reduceAdd, Int.reduceSub, Int.reduceMul, Int.reduceEq, Int.reduceNe, Int.reduceLT, Int.reduceLE, Int.reduceGT, Int.reduceGE]
  refine call_of (concatO_spec c.ops (by omega) (by omega) _) ?_
  simp -implicitDefEqProofs (maxSteps := 1000000) (disch := omega) only [↓xsP, ↓vc_seq, xsQ, xsT, xsR, tch, tOf, idsOf, storeE, eqA, fitC, fitL, eqCells, eqL, isNilS, absL, loadA, storeA, fieldAddrA, lenA, sliceA, boundA, buildA, placesOf, overw, buildSliceA, makeSliceA, clearA, unA, convA, extractA, fieldA, indexA, nilChk, capsA, retA, retA1, retL, rowOf, srcRows, gslot, Value.oneCell', ↓reduceIte, reduceCtorEq, eq_self, ne_eq, imp_self, forall_const, Nat.reduceEqDiff, Nat.reduceAdd, Nat.reduceSub, Nat.reduceMul, Nat.reduceLT, Nat.reduceLeDiff, Nat.reduceBEq, Nat.reduceDiv, Nat.reduceMod, Int.reduceToNat, Int.reduceNeg, Int.reduceAdd, Int.reduceSub, Int.reduceMul, Int.reduceEq, Int.reduceNe, Int.reduceLT, Int.reduceLE, Int.reduceGT, Int.reduceGE]
  refine call_of (firstO_spec c.ops.flatten 60 _) ?_
  simp -implicitDefEqProofs (maxSteps := 1000000) (disch := omega) only [↓xsP, ↓vc_seq, xsQ, xsT, xsR, tch, tOf, idsOf, storeE, eqA, fitC, fitL, eqCells, eqL, isNilS, absL, loadA, storeA, fieldAddrA, lenA, sliceA, boundA, buildA, placesOf, overw, buildSliceA, makeSliceA, clearA, unA, convA, extractA, fieldA, indexA, nilChk, capsA, retA, retA1, retL, rowOf, srcRows, gslot, Value.oneCell', ↓reduceIte, reduceCtorEq, eq_self, ne_eq, imp_self, forall_const, Nat.reduceEqDiff, Nat.reduceAdd, Nat.reduceSub, Nat.reduceMul, Nat.reduceLT, Nat.reduceLeDiff, Nat.reduceBEq, Nat.reduceDiv, Nat.reduceMod, Int.reduceToNat, Int.reduceNeg, Int.reduceAdd, Int.reduceSub, Int.reduceMul, Int.reduceEq, Int.reduceNe, Int.reduceLT, Int.reduceLE, Int.reduceGT, Int.reduceGE]
  refine newI_intro fun e he => ?_
  have hde := lt_of_bnd he (Mem.set_eq _ d _)
  simp -implicitDefEqProofs (maxSteps := 1000000) (disch := omega) only [↓xsP, ↓vc_seq, xsQ, xsT, xsR, tch, tOf, idsOf, storeE, eqA, fitC, fitL, eqCells, eqL, isNilS, absL, loadA, storeA, fieldAddrA, lenA, sliceA, boundA, buildA, placesOf, overw, buildSliceA, makeSliceA, clearA, unA, convA, extractA, fieldA, indexA, nilChk, capsA, retA, retA1, retL, rowOf, srcRows, gslot, Value.oneCell', ↓reduceIte, reduceCtorEq, eq_self, ne_eq, imp_self, forall_const, Nat.reduceEqDiff, Nat.reduceAdd, Nat.reduceSub, Nat.reduceMul, Nat.reduceLT, Nat.reduceLeDiff, Nat.reduceBEq, Nat.reduceDiv, Nat.reduceMod, Int.reduceToNat, Int.reduceNeg, Int.reduceAdd, Int.reduceSub, Int.reduceMul, Int.reduceEq, Int.reduceNe, Int.reduceLT, Int.reduceLE, Int.reduceGT, Int.reduceGE]
  refine finI_of (XFin.frz e (T := 32) (rows := [[.sl ((c.ops.flatten.take 60).map Opn.row)]]) (keep := 0) (by simp (disch := omega) only [Mem.set_ne, Mem.set_eq]) (XFin.wk (XFin.le (M' := M) (fun k bk hk => ?_) ⟨?_, rfl⟩)))
  · have := lt_of_bnd ha hk
    simp (disch := omega) only [Mem.set_ne, hk]
  · simp [frzA, frz1, frzL, wkT, wkA, wkL]
theorem min_60 (n : Nat) : (if (60 : Int) < (n : Int) then (60 : Int) else (n : Int)) = ((min 60 n : Nat) : Int) := by
  split <;> omega
theorem soloR_spec (s : Scr) (hs : SmS s) (M : Mem) : XCalls Go.Proofs.Try.prog 28 [.agg s.row] M fun r M' => r = .agg (soloS s).row ∧ M' = M := by
  refine xcalls_intro (rs := [.cell 2 28]) Go.Proofs.Try.func28 rfl (by kernel_rfl) rfl rfl (by kernel_rfl) (by simp) ?_
  have hT := thrN_le s
  have htot := rowsN_tot s (thrN s)
  have hops : (cleanS s).ops = rowsN s (thrN s) := rfl
  have hlen : (rowsN s (thrN s)).length = thrN s := by simp [rowsN]
  simp -implicitDefEqProofs (maxSteps := 1000000) (disch := omega) only [↓xsP, ↓vc_seq, xsQ, xsT, xsR, tch, tOf, idsOf, storeE, eqA, fitC, fitL, eqCells, eqL, isNilS, absL, loadA, storeA, fieldAddrA, lenA, sliceA, boundA, buildA, placesOf, overw, buildSliceA, makeSliceA, clearA, unA, convA, extractA, fieldA, indexA, nilChk, capsA, retA, retA1, retL, rowOf, srcRows, gslot, Value.oneCell', ↓reduceIte, reduceCtorEq, eq_self, ne_eq, imp_self, forall_const, Nat.reduceEqDiff, Nat.reduceAdd, Nat.reduceSub, Nat.reduceMul, Nat.reduceLT, Nat.reduceLeDiff, Nat.reduceBEq, Nat.reduceDiv, Nat.reduceMod, Int.reduceToNat, Int.reduceNeg, Int.reduceAdd, Int.reduceSub, Int.reduceMul, Int.reduceEq, Int.reduceNe, Int.reduceLT, Int.reduceLE, Int.reduceGT, Int.reduceGE]
  refine newI_intro fun a ha => ?_
  simp -implicitDefEqProofs (maxSteps := 1000000) (disch := omega) only [↓xsP, ↓vc_seq, xsQ, xsT, xsR, tch, tOf, idsOf, storeE, eqA, fitC, fitL, eqCells, eqL, isNilS, absL, loadA, storeA, fieldAddrA, lenA, sliceA, boundA, buildA, placesOf, overw, buildSliceA, makeSliceA, clearA, unA, convA, extractA, fieldA, indexA, nilChk, capsA, retA, retA1, retL, rowOf, srcRows, gslot, Value.oneCell', ↓reduceIte, reduceCtorEq, eq_self, ne_eq, imp_self, forall_const, Nat.reduceEqDiff, Nat.reduceAdd, Nat.reduceSub, Nat.reduceMul, Nat.reduceLT, Nat.reduceLeDiff, Nat.reduceBEq, Nat.reduceDiv, Nat.reduceMod, Int.reduceToNat, Int.reduceNeg, Int.reduceAdd, Int.reduceSub, Int.reduceMul, Int.reduceEq, Int.reduceNe, Int.reduceLT, Int.reduceLE, Int.reduceGT, Int.reduceGE]
  refine newI_intro fun b hb => ?_
  obtain ⟨hab, hb'⟩ := bnd_new hb
  simp -implicitDefEqProofs (maxSteps := 1000000) (disch := omega) only [↓xsP, ↓vc_seq, xsQ, xsT, xsR, tch, tOf, idsOf, storeE, eqA, fitC, fitL, eqCells, eqL, isNilS, absL, loadA, storeA, fieldAddrA, lenA, sliceA, boundA, buildA, placesOf, overw, buildSliceA, makeSliceA, clearA, unA, convA, extractA, fieldA, indexA, nilChk, capsA, retA, retA1, retL, rowOf, srcRows, gslot, Value.oneCell', ↓reduceIte, reduceCtorEq, eq_self, ne_eq, imp_self, forall_const, Nat.reduceEqDiff, Nat.reduceAdd, Nat.reduceSub, Nat.reduceMul, Nat.reduceLT, Nat.reduceLeDiff, Nat.reduceBEq, Nat.reduceDiv, Nat.reduceMod, Int.reduceToNat, Int.reduceNeg, Int.reduceAdd, Int.reduceSub, Int.reduceMul, Int.reduceEq, Int.reduceNe, Int.reduceLT, Int.reduceLE, Int.reduceGT, Int.reduceGE]
  refine call_of (cleanR_spec s hs _) ?_
  have hsol : (soloS s).row = [.int .i64 1, .int .i64 (cleanS s).cells, .int .i64 (cleanS s).pol.high, .int .i64 (cleanS s).pol.low, .int .i64 (cleanS s).pol.cont, .int .i64 (cleanS s).pol.unc, .int .i64 (cleanS s).pol.multi, .sl ((cleanS s).beg.map Pr.row), .sl [[.sl (((cleanS s).ops.flatten.take 60).map Opn.row)]], .sl []] := rfl
  rw [hsol]
  rw [← hops] at htot hlen
  generalize cleanS s = c at htot hlen ⊢
  simp -implicitDefEqProofs (maxSteps := 1000000) (disch := omega) only [↓xsP, ↓vc_seq, xsQ, xsT, xsR, tch, tOf, idsOf, storeE, eqA, fitC, fitL, eqCells, eqL, isNilS, absL, loadA, storeA, fieldAddrA, lenA, sliceA, boundA, buildA, placesOf, overw, buildSliceA, makeSliceA, clearA, unA, convA, extractA, fieldA, indexA, nilChk, capsA, retA, retA1, retL, rowOf, srcRows, gslot, Value.oneCell', ↓reduceIte, reduceCtorEq, eq_self, ne_eq, imp_self, forall_const, Nat.reduceEqDiff, Nat.reduceAdd, Nat.reduceSub, Nat.reduceMul, Nat.reduceLT, Nat.reduceLeDiff, Nat.reduceBEq, Nat.reduceDiv, Nat.reduceMod, Int.reduceToNat, Int.reduceNeg, Int.reduceAdd, Int.reduceSub, Int.reduceMul, Int.reduceEq, Int.reduceNe, Int.reduceLT, Int.reduceLE, Int.reduceGT, Int.reduceGE]
  refine newI_intro fun d hd => ?_
  obtain ⟨hbd, hd'⟩ := bnd_new hd
  obtain ⟨had, hd''⟩ := bnd_new hd'
  have hN3 : ∀ N : Mem, ((M.set a (.cells 28 [s.row] 0)).set b (.cells 28 [[.int .i64 0, .int .i64 0, .int .i64 0, .int .i64 0, .int .i64 0, .int .i64 0, .int .i64 0, .nils, .nils, .nils]] 0)).set d (.cells 28 [c.row] 0) = N → N d = some (.cells 28 [c.row] 0) ∧ N b = some (.cells 28 [[.int .i64 0, .int .i64 0, .int .i64 0, .int .i64 0, .int .i64 0, .int .i64 0, .int .i64 0, .nils, .nils, .nils]] 0) ∧ ∀ k bk, M k = some bk → k < a ∧ N k = some bk := by
    rintro N rfl
    refine ⟨Mem.set_eq _ _ _, by simp (disch := omega) only [Mem.set_ne, Mem.set_eq], fun k bk hk => ?_⟩
    have := lt_of_bnd ha hk
    exact ⟨this, by simp (disch := omega) only [Mem.set_ne, hk]⟩
  rw [row_scr, row_scr] at hN3
  simp -implicitDefEqProofs (maxSteps := 1000000) (disch := omega) only [↓xsP, ↓vc_seq, xsQ, xsT, xsR, tch, tOf, idsOf, storeE, eqA, fitC, fitL, eqCells, eqL, isNilS, absL, loadA, storeA, fieldAddrA, lenA, sliceA, boundA, buildA, placesOf, overw, buildSliceA, makeSliceA, clearA, unA, convA, extractA, fieldA, indexA, nilChk, capsA, retA, retA1, retL, rowOf, srcRows, gslot, Value.oneCell', ↓reduceIte, reduceCtorEq, eq_self, ne_eq, imp_self, forall_const, Nat.reduceEqDiff, Nat.reduceAdd, Nat.reduceSub, Nat.reduceMul, Nat.reduceLT, Nat.reduceLeDiff, Nat.reduceBEq, Nat.reduceDiv, Nat.reduceMod, Int.reduceToNat, Int.reduceNeg, Int.reduceAdd, Int.reduceSub, Int.reduceMul, Int.reduceEq, Int.reduceNe, Int.reduceLT, Int.reduceLE, Int.reduceGT, Int.reduceGE]
  generalize ((M.set a _).set b _).set d _ = N at hN3 ⊢
  obtain ⟨hNd, hNb, hNM⟩ := hN3 N rfl
  clear hN3
  refine loopI_of (xloop (by kernel_rfl) (fun k fr M2 => ∃ (i : Nat) (x : Lf), i ≤ c.ops.length ∧ k = c.ops.length - i ∧ fr 2 = .l (.ptr b 0 0) ∧ fr 3 = .l (.ptr d 0 0) ∧ fr 4 = .l x ∧ fr 10 = .l (.sl (c.ops.map oprow)) ∧ fr 11 = .l (.int .i64 c.ops.length) ∧ fr 12 = .l (.int .i64 i) ∧ OutR 34 N x M2 ((c.ops.take i).flatten.map Opn.row)) c.ops.length ?_ ?_)
  · exact ⟨0, .nils, Nat.zero_le _, rfl, by simp -implicitDefEqProofs (maxSteps := 1000000) (disch := omega) only [↓xsP, ↓vc_seq, xsQ, xsT, xsR, tch, tOf, idsOf, storeE, eqA, fitC, fitL, eqCells, eqL, isNilS, absL, loadA, storeA, fieldAddrA, lenA, sliceA, boundA, buildA, placesOf, overw, buildSliceA, makeSliceA, clearA, unA, convA, extractA, fieldA, indexA, nilChk, capsA, retA, retA1, retL, rowOf, srcRows, gslot, Value.oneCell', ↓reduceIte, reduceCtorEq, eq_self, ne_eq, imp_self, forall_const, Nat.reduceEqDiff, Nat.reduceAdd, Nat.reduceSub, Nat.reduceMul, Nat.reduceLT, Nat.reduceLeDiff, Nat.reduceBEq, Nat.reduceDiv, Nat.reduceMod, Int.reduceToNat, Int.reduceNeg, Int.reduceAdd, Int.reduceSub, Int.reduceMul, Int.reduceEq, Int.reduceNe, Int.reduceLT, Int.reduceLE, Int.reduceGT, Int.reduceGE], by simp -implicitDefEqProofs (maxSteps := 1000000) (disch := omega) only [↓xsP, ↓vc_seq, xsQ, xsT, xsR, tch, tOf, idsOf, storeE, eqA, fitC, fitL, eqCells, eqL, isNilS, absL, loadA, storeA, fieldAddrA, lenA, sliceA, boundA, buildA, placesOf, overw, buildSliceA, makeSliceA, clearA, unA, convA, extractA, fieldA, indexA, nilChk, capsA, retA, retA1, retL, rowOf, srcRows, gslot, Value.oneCell', ↓reduceIte, reduceCtorEq, eq_self, ne_eq, imp_self, forall_const, Nat.reduceEqDiff, Nat.reduceAdd, Nat.reduceSub, Nat.reduceMul, Nat.reduceLT, Nat.reduceLeDiff, Nat.reduceBEq, Nat.reduceDiv, Nat.reduceMod, Int.reduceToNat, Int.reduceNeg, Int.reduceAdd, Int.reduceSub, Int.reduceMul, Int.reduceEq, Int.reduceNe, Int.reduceLT, Int.reduceLE, Int.reduceGT, Int.reduceGE], by simp -implicitDefEqProofs (maxSteps := 1000000) (disch := omega) only [↓xsP, ↓vc_seq, xsQ, xsT, xsR, tch, tOf, idsOf, storeE, eqA, fitC, fitL, eqCells, eqL, isNilS, absL, loadA, storeA, fieldAddrA, lenA, sliceA, boundA, buildA, placesOf, overw, buildSliceA, makeSliceA, clearA, unA, convA, extractA, fieldA, indexA, nilChk, capsA, retA, retA1, retL, rowOf, srcRows, gslot, Value.oneCell', ↓reduceIte, reduceCtorEq, eq_self, ne_eq, imp_self, forall_const, Nat.reduceEqDiff, Nat.reduceAdd, Nat.reduceSub, Nat.reduceMul, Nat.reduceLT, Nat.reduceLeDiff, Nat.reduceBEq, Nat.reduceDiv, Nat.reduceMod, Int.reduceToNat, Int.reduceNeg, Int.reduceAdd, Int.reduceSub, Int.reduceMul, Int.reduceEq, Int.reduceNe, Int.reduceLT, Int.reduceLE, Int.reduceGT, Int.reduceGE], by simp -implicitDefEqProofs (maxSteps := 1000000) (disch := omega) only [↓xsP, ↓vc_seq, xsQ, xsT, xsR, tch, tOf, idsOf, storeE, eqA, fitC, fitL, eqCells, eqL, isNilS, absL, loadA, storeA, fieldAddrA, lenA, sliceA, boundA, buildA, placesOf, overw, buildSliceA, makeSliceA, clearA, unA, convA, extractA, fieldA, indexA, nilChk, capsA, retA, retA1, retL, rowOf, srcRows, gslot, Value.oneCell', ↓reduceIte, reduceCtorEq, eq_self, ne_eq, imp_self, forall_const, Nat.reduceEqDiff, Nat.reduceAdd, Nat.reduceSub, Nat.reduceMul, Nat.reduceLT, Nat.reduceLeDiff, Nat.reduceBEq, Nat.reduceDiv, Nat.reduceMod, Int.reduceToNat, Int.reduceNeg, Int.reduceAdd, Int.reduceSub, Int.reduceMul, Int.reduceEq, Int.reduceNe, Int.reduceLT, Int.reduceLE, Int.reduceGT, Int.reduceGE], by simp -implicitDefEqProofs (maxSteps := 1000000) (disch := omega) only [↓xsP, ↓vc_seq, xsQ, xsT, xsR, tch, tOf, idsOf, storeE, eqA, fitC, fitL, eqCells, eqL, isNilS, absL, loadA, storeA, fieldAddrA, lenA, sliceA, boundA, buildA, placesOf, overw, buildSliceA, makeSliceA, clearA, unA, convA, extractA, fieldA, indexA, nilChk, capsA, retA, retA1, retL, rowOf, srcRows, gslot, Value.oneCell', ↓reduceIte, reduceCtorEq, eq_self, ne_eq, imp_self, forall_const, Nat.reduceEqDiff, Nat.reduceAdd, Nat.reduceSub, Nat.reduceMul, Nat.reduceLT, Nat.reduceLeDiff, Nat.reduceBEq, Nat.reduceDiv, Nat.reduceMod, Int.reduceToNat, Int.reduceNeg, Int.reduceAdd, Int.reduceSub, Int.reduceMul, Int.reduceEq, Int.reduceNe, Int.reduceLT, Int.reduceLE, Int.reduceGT, Int.reduceGE], by simp -implicitDefEqProofs (maxSteps := 1000000) (disch := omega) only [↓xsP, ↓vc_seq, xsQ, xsT, xsR, tch, tOf, idsOf, storeE, eqA, fitC, fitL, eqCells, eqL, isNilS, absL, loadA, storeA, fieldAddrA, lenA, sliceA, boundA, buildA, placesOf, overw, buildSliceA, makeSliceA, clearA, unA, convA, extractA, fieldA, indexA, nilChk, capsA, retA, retA1, retL, rowOf, srcRows, gslot, Value.oneCell', ↓reduceIte, reduceCtorEq, eq_self, ne_eq, imp_self, forall_const, Nat.reduceEqDiff, Nat.reduceAdd, Nat.reduceSub, Nat.reduceMul, Nat.reduceLT, Nat.reduceLeDiff, Nat.reduceBEq, Nat.reduceDiv, Nat.reduceMod, Int.reduceToNat, Int.reduceNeg, Int.reduceAdd, Int.reduceSub, Int.reduceMul, Int.reduceEq, Int.reduceNe, Int.reduceLT, Int.reduceLE, Int.reduceGT, Int.reduceGE, Int.cast_ofNat_Int], OutR.nil _ _⟩
  · rintro k fr M2 ⟨i, x, hi, rfl, g2, g3, g4, g10, g11, g12, hO⟩
    simp -implicitDefEqProofs (maxSteps := 1000000) (disch := omega) only [↓xsP, ↓vc_seq, xsQ, xsT, xsR, tch, tOf, idsOf, storeE, eqA, fitC, fitL, eqCells, eqL, isNilS, absL, loadA, storeA, fieldAddrA, lenA, sliceA, boundA, buildA, placesOf, overw, buildSliceA, makeSliceA, clearA, unA, convA, extractA, fieldA, indexA, nilChk, capsA, retA, retA1, retL, rowOf, srcRows, gslot, Value.oneCell', ↓reduceIte, reduceCtorEq, eq_self, ne_eq, imp_self, forall_const, Nat.reduceEqDiff, Nat.reduceAdd, Nat.reduceSub, Nat.reduceMul, Nat.reduceLT, Nat.reduceLeDiff, Nat.reduceBEq, Nat.reduceDiv, Nat.reduceMod, Int.reduceToNat, Int.reduceNeg, Int.reduceAdd, Int.reduceSub, Int.reduceMul, Int.reduceEq, Int.reduceNe, Int.reduceLT, Int.reduceLE, Int.reduceGT, Int.reduceGE, g2, g3, g4, g10, g11, g12]
    refine condI_prop (fun hlt => ?_) (fun hlt => ?_)
    · have hi' : i < c.ops.length := by omega
      have ht := totO2_take hi'
      have htl := totO2_le c.ops (i + 1)
      rw [ht, List.length_append] at htl
      obtain ⟨l, hl⟩ : ∃ l, c.ops.getD i default = l := ⟨_, rfl⟩
      rw [hl] at ht htl
      simp -implicitDefEqProofs (maxSteps := 1000000) (disch := omega) only [↓xsP, ↓vc_seq, xsQ, xsT, xsR, tch, tOf, idsOf, storeE, eqA, fitC, fitL, eqCells, eqL, isNilS, absL, loadA, storeA, fieldAddrA, lenA, sliceA, boundA, buildA, placesOf, overw, buildSliceA, makeSliceA, clearA, unA, convA, extractA, fieldA, indexA, nilChk, capsA, retA, retA1, retL, rowOf, srcRows, gslot, Value.oneCell', ↓reduceIte, reduceCtorEq, eq_self, ne_eq, imp_self, forall_const, Nat.reduceEqDiff, Nat.reduceAdd, Nat.reduceSub, Nat.reduceMul, Nat.reduceLT, Nat.reduceLeDiff, Nat.reduceBEq, Nat.reduceDiv, Nat.reduceMod, Int.reduceToNat, Int.reduceNeg, Int.reduceAdd, Int.reduceSub, Int.reduceMul, Int.reduceEq, Int.reduceNe, Int.reduceLT, Int.reduceLE, Int.reduceGT, Int.reduceGE, g2, g3, g4, g10, g11, g12, hl]
      refine app_outS ti_32 rfl ti_34 (by kernel_rfl) (by decide) (by decide) (rows4 l) hO (by rw [List.length_map, List.length_map]; omega) fun v' N2 M3 hO3 hle3 => ?_
      simp -implicitDefEqProofs (maxSteps := 1000000) (disch := omega) only [↓xsP, ↓vc_seq, xsQ, xsT, xsR, tch, tOf, idsOf, storeE, eqA, fitC, fitL, eqCells, eqL, isNilS, absL, loadA, storeA, fieldAddrA, lenA, sliceA, boundA, buildA, placesOf, overw, buildSliceA, makeSliceA, clearA, unA, convA, extractA, fieldA, indexA, nilChk, capsA, retA, retA1, retL, rowOf, srcRows, gslot, Value.oneCell', ↓reduceIte, reduceCtorEq, eq_self, ne_eq, imp_self, forall_const, Nat.reduceEqDiff, Nat.reduceAdd, Nat.reduceSub, Nat.reduceMul, Nat.reduceLT, Nat.reduceLeDiff, Nat.reduceBEq, Nat.reduceDiv, Nat.reduceMod, Int.reduceToNat, Int.reduceNeg, Int.reduceAdd, Int.reduceSub, Int.reduceMul, Int.reduceEq, Int.reduceNe, Int.reduceLT, Int.reduceLE, Int.reduceGT, Int.reduceGE, g2, g3, g4, g10, g11, g12]
      exact ⟨c.ops.length - (i + 1), M3, by omega, hle3, i + 1, v', by omega, rfl, rfl, rfl, by rw [ht, List.map_append]; exact hO3⟩
    · have hil : i = c.ops.length := by omega
      subst hil
      rw [List.take_length] at hO
      simp -implicitDefEqProofs (maxSteps := 1000000) (disch := omega) only [↓xsP, ↓vc_seq, xsQ, xsT, xsR, tch, tOf, idsOf, storeE, eqA, fitC, fitL, eqCells, eqL, isNilS, absL, loadA, storeA, fieldAddrA, lenA, sliceA, boundA, buildA, placesOf, overw, buildSliceA, makeSliceA, clearA, unA, convA, extractA, fieldA, indexA, nilChk, capsA, retA, retA1, retL, rowOf, srcRows, gslot, Value.oneCell', ↓reduceIte, reduceCtorEq, eq_self, ne_eq, imp_self, forall_const, Nat.reduceEqDiff, Nat.reduceAdd, Nat.reduceSub, Nat.reduceMul, Nat.reduceLT, Nat.reduceLeDiff, Nat.reduceBEq, Nat.reduceDiv, Nat.reduceMod, Int.reduceToNat, Int.reduceNeg, Int.reduceAdd, Int.reduceSub, Int.reduceMul, Int.reduceEq, Int.reduceNe, Int.reduceLT, Int.reduceLE, Int.reduceGT, Int.reduceGE, g2, g3, g4, g10, g11, g12]
      have hM2d := hO.base _ _ hNd
      have hM2b := hO.base _ _ hNb
      rcases hO with ⟨hr0, rfl, hMM⟩ | ⟨idR, hidR, rfl, hMM⟩
      · refine xwrite (fun n0 => [ (7, d), (9, d), (11, d)]) [7, 9, 11] [5] [[7], [7], [7], [7], [7], [7], [5], [5], [], [], [], []] (by kernel_rfl) (by kernel_rfl) (by kernel_rfl) (by kernel_rfl) (fun n0 hn0 => ⟨rfl, ?_, ?_⟩)
        · exact TOk_cons (.inl (lt_of_bnd hn0 hM2d)) (TOk_cons (.inl (lt_of_bnd hn0 hM2d)) (TOk_cons (.inl (lt_of_bnd hn0 hM2d)) (TOk_nil _ _)))
        · have hdn := lt_of_bnd hn0 hM2d
          have hbn := lt_of_bnd hn0 hM2b
          simp -implicitDefEqProofs (maxSteps := 1000000) (disch := omega) only [↓xsP, ↓vc_seq, xsQ, xsT, xsR, tch, tOf, idsOf, storeE, eqA, fitC, fitL, eqCells, eqL, isNilS, absL, loadA, storeA, fieldAddrA, lenA, sliceA, boundA, buildA, placesOf, overw, buildSliceA, makeSliceA, clearA, unA, convA, extractA, fieldA, indexA, nilChk, capsA, retA, retA1, retL, rowOf, srcRows, gslot, Value.oneCell', ↓reduceIte, reduceCtorEq, eq_self, ne_eq, imp_self, forall_const, Nat.reduceEqDiff, Nat.reduceAdd, Nat.reduceSub, Nat.reduceMul, Nat.reduceLT, Nat.reduceLeDiff, Nat.reduceBEq, Nat.reduceDiv, Nat.reduceMod, Int.reduceToNat, Int.reduceNeg, Int.reduceAdd, Int.reduceSub, Int.reduceMul, Int.reduceEq, Int.reduceNe, Int.reduceLT, Int.reduceLE, Int.reduceGT, Int.reduceGE, g2, g3, g4, hM2d, hM2b, Int.cast_ofNat_Int]
          refine ⟨.inl (by decide), ?_⟩
          have hf0 : c.ops.flatten = [] := by simpa using hr0
          rw [hf0]
          refine finI_gs (GStep.wk (out := n0 + 5) (To := 32) (rowso := [[.nils]]) (keepo := 0) (by simp (disch := omega) only [Mem.set_ne, Mem.set_eq])) ?_
          refine finI_of (XFin.frz (n0 + 5) (Mem.set_eq _ _ _) (XFin.wk (XFin.le (M' := M) (fun k bk hk => ?_) ⟨?_, rfl⟩)))
          · obtain ⟨h1, h2⟩ := hNM k bk hk
            rw [← hMM] at h2
            have := lt_of_bnd hn0 h2
            simp (disch := omega) only [Mem.set_ne, h2]
          · simp [frzA, frz1, frzL, wkT, wkA, wkL]
      · have hPP : M2 idR = some (.cells 34 (c.ops.flatten.map Opn.row) 0) := by rw [hMM]; exact Mem.set_eq _ _ _
        have hRd := lt_of_bnd hidR hNd
        have hRb := lt_of_bnd hidR hNb
        refine xwrite (fun n0 => [ (7, d), (9, d), (11, d)]) [7, 9, 11] [5] [[7], [7], [7], [7], [7], [7], [5], [5], [], [], [], []] (by kernel_rfl) (by kernel_rfl) (by kernel_rfl) (by kernel_rfl) (fun n0 hn0 => ⟨rfl, ?_, ?_⟩)
        · exact TOk_cons (.inl (lt_of_bnd hn0 hM2d)) (TOk_cons (.inl (lt_of_bnd hn0 hM2d)) (TOk_cons (.inl (lt_of_bnd hn0 hM2d)) (TOk_nil _ _)))
        · have hdn := lt_of_bnd hn0 hM2d
          have hbn := lt_of_bnd hn0 hM2b
          have hRn := lt_of_bnd hn0 hPP
          simp -implicitDefEqProofs (maxSteps := 1000000) (disch := omega) only [↓xsP, ↓vc_seq, xsQ, xsT, xsR, tch, tOf, idsOf, storeE, eqA, fitC, fitL, eqCells, eqL, isNilS, absL, loadA, storeA, fieldAddrA, lenA, sliceA, boundA, buildA, placesOf, overw, buildSliceA, makeSliceA, clearA, unA, convA, extractA, fieldA, indexA, nilChk, capsA, retA, retA1, retL, rowOf, srcRows, gslot, Value.oneCell', ↓reduceIte, reduceCtorEq, eq_self, ne_eq, imp_self, forall_const, Nat.reduceEqDiff, Nat.reduceAdd, Nat.reduceSub, Nat.reduceMul, Nat.reduceLT, Nat.reduceLeDiff, Nat.reduceBEq, Nat.reduceDiv, Nat.reduceMod, Int.reduceToNat, Int.reduceNeg, Int.reduceAdd, Int.reduceSub, Int.reduceMul, Int.reduceEq, Int.reduceNe, Int.reduceLT, Int.reduceLE, Int.reduceGT, Int.reduceGE, g2, g3, g4, hM2d, hM2b, Int.cast_ofNat_Int]
          rw [min_60]
          have h1 : (min 60 c.ops.flatten.length ≤ c.ops.flatten.length) = True := eq_true (by omega)
          have h3 : (0 ≤ ((min 60 c.ops.flatten.length : Nat) : Int)) = True := eq_true (by omega)
          simp -implicitDefEqProofs (maxSteps := 1000000) (disch := omega) only [↓xsP, ↓vc_seq, xsQ, xsT, xsR, tch, tOf, idsOf, storeE, eqA, fitC, fitL, eqCells, eqL, isNilS, absL, loadA, storeA, fieldAddrA, lenA, sliceA, boundA, buildA, placesOf, overw, buildSliceA, makeSliceA, clearA, unA, convA, extractA, fieldA, indexA, nilChk, capsA, retA, retA1, retL, rowOf, srcRows, gslot, Value.oneCell', ↓reduceIte, reduceCtorEq, eq_self, ne_eq, imp_self, forall_const, Nat.reduceEqDiff, Nat.reduceAdd, Nat.reduceSub, Nat.reduceMul, Nat.reduceLT, Nat.reduceLeDiff, Nat.reduceBEq, Nat.reduceDiv, Nat.reduceMod, Int.reduceToNat, Int.reduceNeg, Int.reduceAdd, Int.reduceSub, Int.reduceMul, Int.reduceEq, Int.reduceNe, Int.reduceLT, Int.reduceLE, Int.reduceGT, Int.reduceGE, g2, g3, g4, hM2d, hM2b, h1, h3]
          refine ⟨.inl (by decide), ?_⟩
          have hg := GStep.frz_in (M := ((M2.set (n0 + 5) (.cells 32 [[.ms idR 0 (min 60 c.ops.flatten.length)]] 0)).set d (.cells 28 [[.int .i64 1, .int .i64 c.cells, .int .i64 c.pol.high, .int .i64 c.pol.low, .int .i64 c.pol.cont, .int .i64 c.pol.unc, .int .i64 c.pol.multi, .sl (c.beg.map Pr.row), .ms (n0 + 5) 0 1, .nils]] 0)).set b (.cells 28 [[.int .i64 1, .int .i64 c.cells, .int .i64 c.pol.high, .int .i64 c.pol.low, .int .i64 c.pol.cont, .int .i64 c.pol.unc, .int .i64 c.pol.multi, .sl (c.beg.map Pr.row), .ms (n0 + 5) 0 1, .nils]] 0))
            (id := idR) (out := n0 + 5) (T := 34) (keep := 0) (To := 32) (keepo := 0) (rows := c.ops.flatten.map Opn.row) (rowso := [[.ms idR 0 (min 60 c.ops.flatten.length)]]) (by simp (disch := omega) only [Mem.set_ne, hPP]) (by simp (disch := omega) only [Mem.set_ne, Mem.set_eq]) (by omega)
          refine finI_gs hg ?_
          refine finI_of (XFin.frz (n0 + 5) (Mem.set_eq _ _ _) (XFin.wk (XFin.le (M' := M) (fun k bk hk => ?_) ⟨?_, rfl⟩)))
          · obtain ⟨h1, h2⟩ := hNM k bk hk
            have h3 : M2 k = some bk := by rw [hMM, Mem.set_ne _ _ _ _ (by omega)]; exact h2
            have := lt_of_bnd hn0 h3
            simp (disch := omega) only [Mem.set_ne, h3]
          · have hml : min 60 c.ops.flatten.length ≤ c.ops.flatten.length := by omega
            generalize c.ops.flatten = F at hml ⊢
            have e1 : List.take (min 60 F.length) (F.map Opn.row) = (F.take 60).map Opn.row := by
              rw [List.map_take, ← List.length_map (f := Opn.row), ← List.take_take, List.take_length]
            simp [frzA, frz1, frzL, wkT, wkA, wkL, hml, e1]
end Go.X

/- Plain laws of scripts. -/

set_option linter.unusedVariables false
set_option maxRecDepth 100000
namespace Go.X

theorem lastV_none {k : Int} : ∀ {l : List Pr} {o : Option Int}, (∀ p ∈ l, p.key ≠ k) → lastV k o l = o
  | [], o, _ => rfl
  | p :: r, o, h => by
    rw [lastV, List.foldl_cons, if_neg (fun e => h p (by simp) e.symm)]
    exact lastV_none (l := r) fun q hq => h q (by simp [hq])
theorem lastV_asc {k : Int} : ∀ {l : List Pr} {o : Option Int}, Asc l → lastV k o l = (match look l k with | some v => some v | none => o)
  | [], o, _ => rfl
  | p :: r, o, h => by
    have h2 := List.pairwise_cons.1 h
    rw [look]
    by_cases e : p.key = k
    · rw [if_pos e, lastV, List.foldl_cons, if_pos e.symm]
      refine lastV_none (l := r) fun q hq => ?_
      have := h2.1 q hq
      omega
    · rw [if_neg e, lastV, List.foldl_cons, if_neg (fun h => e h.symm)]
      exact lastV_asc (l := r) h2.2
theorem putL_id {l : List Pr} (h : Asc l) : putL l = l := look_ext (putL_asc l) h fun k => by
  rw [putL_look, lastV_asc h]
  cases look l k <;> rfl
theorem asc_take {l : List Pr} (h : Asc l) (n : Nat) : Asc (l.take n) := List.Pairwise.sublist (List.take_sublist n l) h
theorem clampP_idem (p : Pol) : clampP (clampP p) = clampP p := by
  obtain ⟨a, b, c, d, e⟩ := p
  simp only [clampP, Pol.mk.injEq]
  omega
theorem cleanRow_ok (l : List Opn) : okRow (cleanRow l) = true := by
  rw [okRow, decide_eq_true (cleanRow_len l), Bool.true_and, List.all_eq_true]
  intro x hx
  have := List.mem_of_mem_take hx
  exact (List.mem_filter.1 this).2
theorem okRow_id {l : List Opn} (h : okRow l = true) : cleanRow l = l := by
  rw [okRow, Bool.and_eq_true] at h
  have h1 := of_decide_eq_true h.1
  have h2 := List.all_eq_true.1 h.2
  rw [cleanRow, List.filter_eq_self.2 h2, List.take_of_length_le h1]
theorem rowsN_ok (s : Scr) (n : Nat) : ∀ l ∈ rowsN s n, okRow l = true := fun l hl => by
  obtain ⟨t, _, rfl⟩ := List.mem_map.1 hl
  exact cleanRow_ok _
theorem rowsN_len (s : Scr) (n : Nat) : (rowsN s n).length = n := by simp [rowsN]
theorem modI_bd (n m : Int) (h : 0 < m) : 0 ≤ modI n m ∧ modI n m < m := by
  rw [modI_if n m h]
  have h1 := Int.tmod_lt_of_pos n h
  have h2 := Int.lt_tmod_of_pos n h
  split <;> omega
theorem modI_id {n m : Int} (h0 : 0 ≤ n) (h : n < m) : modI n m = n := by
  rw [modI_if n m (by omega), Int.tmod_eq_emod_of_nonneg h0, Int.emod_eq_of_lt h0 h, if_neg (by omega)]
theorem clean_ok (s : Scr) : OkS (cleanS s) := by
  have hT := thrN_le s
  refine ⟨?_, ?_, ?_, ?_, clampP_idem _, ?_, (rises_asc _).2 (asc_take (putL_asc _) _), ?_, ?_, rowsN_ok s _, fun p hp => ?_⟩
  · show (1 : Int) ≤ (thrN s : Nat); omega
  · show ((thrN s : Nat) : Int) ≤ 6; omega
  · show (0 : Int) ≤ min (max s.cells 0) 60000; omega
  · show min (max s.cells 0) 60000 ≤ (60000 : Int); omega
  · show ((putL s.beg).take 200).length ≤ 200; rw [List.length_take]; omega
  · show ((rowsN s (thrN s)).length : Int) = (thrN s : Nat); rw [rowsN_len]
  · show (List.map _ (s.picks.take 100000)).length ≤ 100000; rw [List.length_map, List.length_take]; omega
  · obtain ⟨n, _, rfl⟩ := List.mem_map.1 hp
    exact modI_bd _ _ (by omega)
theorem rowsN_id (s : Scr) (h : ∀ l ∈ s.ops, okRow l = true) : rowsN s s.ops.length = s.ops := by
  refine List.ext_getElem (by simp [rowsN]) fun i h1 h2 => ?_
  have : s.ops.getD i [] = s.ops[i] := by rw [List.getD_eq_getElem?_getD, List.getElem?_eq_getElem h2]; rfl
  simp only [rowsN, List.getElem_map, List.getElem_range]
  rw [this]
  exact okRow_id (h _ (List.getElem_mem h2))
theorem clean_id {s : Scr} (h : OkS s) : cleanS s = s := by
  obtain ⟨h1, h2, h3, h4, h5, h6, h7, h8, h9, h10, h11⟩ := h
  have hT : thrN s = s.ops.length := by unfold thrN; omega
  obtain ⟨th, ce, po, be, op, pi⟩ := s
  simp only [cleanS, hT]
  have e1 := rowsN_id ⟨th, ce, po, be, op, pi⟩ h10
  simp only at h1 h2 h3 h4 h5 h6 h7 h8 h9 h10 h11 e1 ⊢
  rw [e1, h5, putL_id ((rises_asc _).1 h7), List.take_of_length_le h6, List.take_of_length_le h9]
  have e2 : pi.map (fun n => modI n op.length) = pi := by
    conv => rhs; rw [← List.map_id pi]
    exact List.map_congr_left fun n hn => by
      have := h11 n hn
      exact modI_id this.1 (by omega)
  rw [e2, h8]
  congr 1
  omega
theorem callsN_rows (s : Scr) (n : Nat) : callsN (rowsN s n) ≤ 60 * n := by
  induction n with
  | zero => simp [rowsN, callsN]
  | succ n ih =>
    rw [rowsN_succ, callsN, List.map_append, List.sum_append]
    have := cleanRow_len (s.ops.getD n [])
    simp only [List.map_cons, List.map_nil, List.sum_cons, List.sum_nil]
    rw [callsN] at ih
    omega
theorem cleanRow_le (l : List Opn) : (cleanRow l).length ≤ l.length := by
  rw [cleanRow, List.length_take]
  have := List.length_filter_le mayOpB l
  omega
theorem callsN_rows_le (s : Scr) (n : Nat) : callsN (rowsN s n) ≤ callsN (s.ops.take n) := by
  induction n with
  | zero => simp [rowsN, callsN]
  | succ n ih =>
    rw [rowsN_succ, callsN, List.map_append, List.sum_append]
    have h1 := cleanRow_le (s.ops.getD n [])
    simp only [List.map_cons, List.map_nil, List.sum_cons, List.sum_nil]
    rw [callsN] at ih
    by_cases hn : n < s.ops.length
    · rw [callsN_take s.ops hn]
      have : s.ops.getD n [] = s.ops.getD n default := rfl
      rw [this] at h1 ⊢
      omega
    · have h0 : s.ops.getD n [] = [] := by
        rw [List.getD_eq_getElem?_getD, List.getElem?_eq_none (by omega)]
        rfl
      rw [h0] at h1 ⊢
      rw [List.take_of_length_le (by omega)] at ih ⊢
      simp only [List.length_nil] at h1
      omega
theorem callsN_clean_le (s : Scr) : callsN (cleanS s).ops ≤ callsN s.ops := by
  have h1 := callsN_rows_le s (thrN s)
  have h2 := callsN_le s.ops (thrN s)
  show callsN (rowsN s (thrN s)) ≤ _
  omega
theorem callsN_flat (L : List (List Opn)) : callsN L = L.flatten.length := by
  induction L with
  | nil => rfl
  | cons l r ih =>
    rw [callsN] at ih
    simp only [callsN, List.map_cons, List.sum_cons, List.flatten_cons, List.length_append]
    omega
theorem callsN_solo (s : Scr) : callsN (soloS s).ops = min (callsN (cleanS s).ops) 60 := by
  show callsN [(cleanS s).ops.flatten.take 60] = _
  rw [callsN_flat (cleanS s).ops, callsN]
  simp only [List.map_cons, List.map_nil, List.sum_cons, List.sum_nil, List.length_take]
  omega
theorem solo_ok (s : Scr) : OkS (soloS s) := by
  obtain ⟨h1, h2, h3, h4, h5, h6, h7, h8, h9, h10, h11⟩ := clean_ok s
  refine ⟨?_, ?_, h3, h4, h5, h6, h7, rfl, ?_, fun l hl => ?_, fun p hp => ?_⟩
  · show (1 : Int) ≤ 1; omega
  · show (1 : Int) ≤ 6; omega
  · show ([] : List Int).length ≤ 100000; simp
  · have : l = (cleanS s).ops.flatten.take 60 := by simpa [soloS] using hl
    subst this
    rw [okRow, decide_eq_true (by rw [List.length_take]; omega), Bool.true_and, List.all_eq_true]
    intro x hx
    obtain ⟨r, hr, hxr⟩ := List.mem_flatten.1 (List.mem_of_mem_take hx)
    have := h10 r hr
    rw [okRow, Bool.and_eq_true] at this
    exact List.all_eq_true.1 this.2 x hxr
  · cases hp
theorem sm_ok {s : Scr} (h : OkS s) : SmS s := by
  obtain ⟨h1, h2, h3, h4, h5, h6, h7, h8, h9, h10, h11⟩ := h
  have hrow : ∀ l ∈ s.ops, l.length ≤ 60 := fun l hl => by
    have := h10 l hl
    rw [okRow, Bool.and_eq_true] at this
    exact of_decide_eq_true this.1
  have hs : ∀ L : List (List Opn), (∀ l ∈ L, l.length ≤ 60) → (L.map List.length).sum ≤ 60 * L.length := by
    intro L
    induction L with
    | nil => intro _; simp
    | cons l r ih =>
      intro h
      have h1 := h l (by simp)
      have h2 := ih fun x hx => h x (by simp [hx])
      simp only [List.map_cons, List.sum_cons, List.length_cons]
      omega
  have hss := hs s.ops hrow
  exact ⟨by omega, by omega, fun l hl => by have := hrow l hl; omega, by omega, by omega⟩
end Go.X

/- The script that every program must know to clean. -/

set_option linter.unusedVariables false
set_option linter.unusedSimpArgs false
set_option maxHeartbeats 20000000
set_option maxRecDepth 100000
namespace Go.X
open Go.Proofs.Try (prog)

def aw22 : Scr := ⟨0, 0, ⟨0, 0, 0, 0, 0⟩, [], [[⟨99, 0, 0, 0⟩, ⟨7, 0, 0, 0⟩]], [-1, 5]⟩
theorem aw22_sm : SmS aw22 := ⟨by decide, by decide, by decide, by decide, by decide⟩
theorem aw22_clean : (cleanS aw22).threads = 1 ∧ (cleanS aw22).ops = [[⟨7, 0, 0, 0⟩]] ∧ (cleanS aw22).picks = [0, 0] ∧ (cleanS aw22).pol.high = 1 := by
  refine ⟨rfl, ?_, ?_, ?_⟩
  · show rowsN aw22 1 = _
    decide
  · show (aw22.picks.take 100000).map (fun n => modI n ((1 : Nat) : Int)) = _
    rfl
  · decide
theorem awake22_spec (M : Mem) : XCalls Go.Proofs.Try.prog 12 [] M fun r M' => r = .l (.bool true) ∧ M' = M := by
  refine xcalls_intro (rs := [.tmp 0]) Go.Proofs.Try.func12 rfl (by kernel_rfl) rfl rfl (by kernel_rfl) (by simp) ?_
  simp -implicitDefEqProofs (maxSteps := 1000000) (disch := omega) only [↓xsP, ↓vc_seq, xsQ, xsT, xsR, tch, tOf, idsOf, storeE, eqA, fitC, fitL, eqCells, eqL, isNilS, absL, loadA, storeA, fieldAddrA, lenA, sliceA, boundA, buildA, placesOf, overw, buildSliceA, makeSliceA, clearA, unA, convA, extractA, fieldA, indexA, nilChk, capsA, retA, retA1, retL, rowOf, srcRows, gslot, Value.oneCell', ↓reduceIte, reduceCtorEq, eq_self, ne_eq, imp_self, forall_const, Nat.reduceEqDiff, Nat.reduceAdd, Nat.reduceSub, Nat.reduceMul, Nat.reduceLT, Nat.reduceLeDiff, Nat.reduceBEq, Nat.reduceDiv, Nat.reduceMod, Int.reduceToNat, Int.reduceNeg, Int.reduceAdd, Int.reduceSub, Int.reduceMul, Int.reduceEq, Int.reduceNe, Int.reduceLT, Int.reduceLE, Int.reduceGT, Int.reduceGE]
  refine newI_intro fun p4 hp4 => ?_
  simp -implicitDefEqProofs (maxSteps := 1000000) (disch := omega) only [↓xsP, ↓vc_seq, xsQ, xsT, xsR, tch, tOf, idsOf, storeE, eqA, fitC, fitL, eqCells, eqL, isNilS, absL, loadA, storeA, fieldAddrA, lenA, sliceA, boundA, buildA, placesOf, overw, buildSliceA, makeSliceA, clearA, unA, convA, extractA, fieldA, indexA, nilChk, capsA, retA, retA1, retL, rowOf, srcRows, gslot, Value.oneCell', ↓reduceIte, reduceCtorEq, eq_self, ne_eq, imp_self, forall_const, Nat.reduceEqDiff, Nat.reduceAdd, Nat.reduceSub, Nat.reduceMul, Nat.reduceLT, Nat.reduceLeDiff, Nat.reduceBEq, Nat.reduceDiv, Nat.reduceMod, Int.reduceToNat, Int.reduceNeg, Int.reduceAdd, Int.reduceSub, Int.reduceMul, Int.reduceEq, Int.reduceNe, Int.reduceLT, Int.reduceLE, Int.reduceGT, Int.reduceGE]
  refine newI_intro fun p5 hp5 => ?_
  obtain ⟨h45, hp5'⟩ := bnd_new hp5
  simp -implicitDefEqProofs (maxSteps := 1000000) (disch := omega) only [↓xsP, ↓vc_seq, xsQ, xsT, xsR, tch, tOf, idsOf, storeE, eqA, fitC, fitL, eqCells, eqL, isNilS, absL, loadA, storeA, fieldAddrA, lenA, sliceA, boundA, buildA, placesOf, overw, buildSliceA, makeSliceA, clearA, unA, convA, extractA, fieldA, indexA, nilChk, capsA, retA, retA1, retL, rowOf, srcRows, gslot, Value.oneCell', ↓reduceIte, reduceCtorEq, eq_self, ne_eq, imp_self, forall_const, Nat.reduceEqDiff, Nat.reduceAdd, Nat.reduceSub, Nat.reduceMul, Nat.reduceLT, Nat.reduceLeDiff, Nat.reduceBEq, Nat.reduceDiv, Nat.reduceMod, Int.reduceToNat, Int.reduceNeg, Int.reduceAdd, Int.reduceSub, Int.reduceMul, Int.reduceEq, Int.reduceNe, Int.reduceLT, Int.reduceLE, Int.reduceGT, Int.reduceGE]
  refine newI_intro fun p6 hp6 => ?_
  obtain ⟨h56, hp6'⟩ := bnd_new hp6
  obtain ⟨h46, hp6''⟩ := bnd_new hp6'
  simp -implicitDefEqProofs (maxSteps := 1000000) (disch := omega) only [↓xsP, ↓vc_seq, xsQ, xsT, xsR, tch, tOf, idsOf, storeE, eqA, fitC, fitL, eqCells, eqL, isNilS, absL, loadA, storeA, fieldAddrA, lenA, sliceA, boundA, buildA, placesOf, overw, buildSliceA, makeSliceA, clearA, unA, convA, extractA, fieldA, indexA, nilChk, capsA, retA, retA1, retL, rowOf, srcRows, gslot, Value.oneCell', ↓reduceIte, reduceCtorEq, eq_self, ne_eq, imp_self, forall_const, Nat.reduceEqDiff, Nat.reduceAdd, Nat.reduceSub, Nat.reduceMul, Nat.reduceLT, Nat.reduceLeDiff, Nat.reduceBEq, Nat.reduceDiv, Nat.reduceMod, Int.reduceToNat, Int.reduceNeg, Int.reduceAdd, Int.reduceSub, Int.reduceMul, Int.reduceEq, Int.reduceNe, Int.reduceLT, Int.reduceLE, Int.reduceGT, Int.reduceGE]
  have hg := GStep.frz_in (M := ((M.set p4 (.cells 34 [[.int .i64 99, .int .i64 0, .int .i64 0, .int .i64 0], [.int .i64 7, .int .i64 0, .int .i64 0, .int .i64 0]] 0)).set p5 (.cells 32 [[.ms p4 0 2]] 0)).set p6 (.cells 3 [[.int .i64 (-1)], [.int .i64 5]] 0))
    (id := p4) (out := p5) (T := 34) (keep := 0) (To := 32) (keepo := 0) (rows := [[.int .i64 99, .int .i64 0, .int .i64 0, .int .i64 0], [.int .i64 7, .int .i64 0, .int .i64 0, .int .i64 0]]) (rowso := [[.ms p4 0 2]]) (by simp (disch := omega) only [Mem.set_ne, Mem.set_eq]) (by simp (disch := omega) only [Mem.set_ne, Mem.set_eq]) (by omega)
  refine callI_gs hg ?_
  refine callI_of (XCalls.frz p5 (Mem.set_eq _ _ _) (XCalls.frz p6 (T := 3) (keep := 0) (rows := [[.int .i64 (-1)], [.int .i64 5]]) (by simp (disch := omega) only [Mem.set_ne, Mem.set_eq]) (XCalls.wk ?_)))
  have harg : (([AV.agg [.int .i64 0, .int .i64 0, .int .i64 0, .int .i64 0, .int .i64 0, .int .i64 0, .int .i64 0, .nils, .ms p5 0 1, .ms p6 0 2]].map (frzA p5 ([[.ms p4 0 2]].map fun r => r.map (frzL p4 [[.int .i64 99, .int .i64 0, .int .i64 0, .int .i64 0], [.int .i64 7, .int .i64 0, .int .i64 0, .int .i64 0]])))).map (frzA p6 [[.int .i64 (-1)], [.int .i64 5]])).map wkA = [.agg aw22.row] := by
    have hne : ¬ p6 = p5 := by omega
    simp [frzA, frz1, frzL, wkT, wkA, wkL, hne, aw22, Scr.row, oprow, irow, Opn.row]
  rw [harg]
  refine (clean_spec aw22 aw22_sm _).mono ?_
  rintro _ _ ⟨rfl, rfl⟩
  obtain ⟨c1, c2, c3, c4⟩ := aw22_clean
  have hok := clean_ok aw22
  have hsm := sm_ok hok
  generalize cleanS aw22 = c at c1 c2 c3 c4 hok hsm ⊢
  have e1 : (c.threads = 1) = True := eq_true c1
  have e4 : (c.pol.high = 1) = True := eq_true c4
  have d1 : c.ops.length = 1 := by rw [c2]; rfl
  have d2 : c.ops.getD 0 default = [⟨7, 0, 0, 0⟩] := by rw [c2]; rfl
  have d3 : c.picks.length = 2 := by rw [c3]; rfl
  have d4 : c.picks.getD 0 default = 0 := by rw [c3]; rfl
  have d5 : callsN c.ops = 1 := by rw [c2]; rfl
  simp -implicitDefEqProofs (maxSteps := 1000000) (disch := omega) only [↓xsP, ↓vc_seq, xsQ, xsT, xsR, tch, tOf, idsOf, storeE, eqA, fitC, fitL, eqCells, eqL, isNilS, absL, loadA, storeA, fieldAddrA, lenA, sliceA, boundA, buildA, placesOf, overw, buildSliceA, makeSliceA, clearA, unA, convA, extractA, fieldA, indexA, nilChk, capsA, retA, retA1, retL, rowOf, srcRows, gslot, Value.oneCell', ↓reduceIte, reduceCtorEq, eq_self, ne_eq, imp_self, forall_const, Nat.reduceEqDiff, Nat.reduceAdd, Nat.reduceSub, Nat.reduceMul, Nat.reduceLT, Nat.reduceLeDiff, Nat.reduceBEq, Nat.reduceDiv, Nat.reduceMod, Int.reduceToNat, Int.reduceNeg, Int.reduceAdd, Int.reduceSub, Int.reduceMul, Int.reduceEq, Int.reduceNe, Int.reduceLT, Int.reduceLE, Int.reduceGT, Int.reduceGE]
  refine newI_intro fun p1 hp1 => ?_
  simp -implicitDefEqProofs (maxSteps := 1000000) (disch := omega) only [↓xsP, ↓vc_seq, xsQ, xsT, xsR, tch, tOf, idsOf, storeE, eqA, fitC, fitL, eqCells, eqL, isNilS, absL, loadA, storeA, fieldAddrA, lenA, sliceA, boundA, buildA, placesOf, overw, buildSliceA, makeSliceA, clearA, unA, convA, extractA, fieldA, indexA, nilChk, capsA, retA, retA1, retL, rowOf, srcRows, gslot, Value.oneCell', ↓reduceIte, reduceCtorEq, eq_self, ne_eq, imp_self, forall_const, Nat.reduceEqDiff, Nat.reduceAdd, Nat.reduceSub, Nat.reduceMul, Nat.reduceLT, Nat.reduceLeDiff, Nat.reduceBEq, Nat.reduceDiv, Nat.reduceMod, Int.reduceToNat, Int.reduceNeg, Int.reduceAdd, Int.reduceSub, Int.reduceMul, Int.reduceEq, Int.reduceNe, Int.reduceLT, Int.reduceLE, Int.reduceGT, Int.reduceGE, e1, e4, d1, d2, d3, d4, Int.cast_ofNat_Int, Int.ofNat_one]
  refine call_of (scrMay_spec c hsm _) ?_
  rw [bof_true hok]
  simp -implicitDefEqProofs (maxSteps := 1000000) (disch := omega) only [↓xsP, ↓vc_seq, xsQ, xsT, xsR, tch, tOf, idsOf, storeE, eqA, fitC, fitL, eqCells, eqL, isNilS, absL, loadA, storeA, fieldAddrA, lenA, sliceA, boundA, buildA, placesOf, overw, buildSliceA, makeSliceA, clearA, unA, convA, extractA, fieldA, indexA, nilChk, capsA, retA, retA1, retL, rowOf, srcRows, gslot, Value.oneCell', ↓reduceIte, reduceCtorEq, eq_self, ne_eq, imp_self, forall_const, Nat.reduceEqDiff, Nat.reduceAdd, Nat.reduceSub, Nat.reduceMul, Nat.reduceLT, Nat.reduceLeDiff, Nat.reduceBEq, Nat.reduceDiv, Nat.reduceMod, Int.reduceToNat, Int.reduceNeg, Int.reduceAdd, Int.reduceSub, Int.reduceMul, Int.reduceEq, Int.reduceNe, Int.reduceLT, Int.reduceLE, Int.reduceGT, Int.reduceGE, e1, e4, d1, d2, d3, d4, Int.cast_ofNat_Int]
  refine call_of (calls_spec c hsm _) ?_
  rw [d5]
  simp -implicitDefEqProofs (maxSteps := 1000000) (disch := omega) only [↓xsP, ↓vc_seq, xsQ, xsT, xsR, tch, tOf, idsOf, storeE, eqA, fitC, fitL, eqCells, eqL, isNilS, absL, loadA, storeA, fieldAddrA, lenA, sliceA, boundA, buildA, placesOf, overw, buildSliceA, makeSliceA, clearA, unA, convA, extractA, fieldA, indexA, nilChk, capsA, retA, retA1, retL, rowOf, srcRows, gslot, Value.oneCell', ↓reduceIte, reduceCtorEq, eq_self, ne_eq, imp_self, forall_const, Nat.reduceEqDiff, Nat.reduceAdd, Nat.reduceSub, Nat.reduceMul, Nat.reduceLT, Nat.reduceLeDiff, Nat.reduceBEq, Nat.reduceDiv, Nat.reduceMod, Int.reduceToNat, Int.reduceNeg, Int.reduceAdd, Int.reduceSub, Int.reduceMul, Int.reduceEq, Int.reduceNe, Int.reduceLT, Int.reduceLE, Int.reduceGT, Int.reduceGE, Int.cast_ofNat_Int]
  refine fin_ok (fun k bk hk => ?_) ⟨rfl, rfl⟩
  have h1 := lt_of_bnd hp4 hk
  have h6 := lt_of_bnd hp1 (Mem.set_eq _ p6 _)
  simp (disch := omega) only [Mem.set_ne, hk]
end Go.X
