/- What layer 13's awake does: it says yes. -/
import Derived.Test.YthgppaccdlcaiaaVe
set_option linter.unusedVariables false
set_option linter.unusedSimpArgs false
set_option maxHeartbeats 20000000
set_option maxRecDepth 100000
namespace Go.X
open Go.Proofs.Try (prog)

theorem XCalls.kept2 {P : Program} {f : FuncId} {M : Mem} {K : AV → Mem → Prop} (id n : Nat) {T keep : Nat} {rows : List (List Lf)} {cs : List Lf} (hM : M id = some (.cells T rows keep)) (hn : n = rows.length) (hk : rows.length ≤ keep) (hc : cs.map (frzL id rows) = cs)
    (h : XCalls P f [.l (.sl rows), .agg cs] M K) : XCalls P f [.l (.ms id 0 n), .agg cs] M K := by
  subst hn
  refine XCalls.frz0 id hM hk ?_
  simpa [frzA, frz1, frzL, List.take_of_length_le, hc] using h
theorem opn_frz (id : Nat) (rows : List (List Lf)) (o : Opn) : o.row.map (frzL id rows) = o.row := by simp [Opn.row, frzL]
theorem prs_wk (l : List Pr) : (l.map Pr.row).map (fun r => r.map wkL) = l.map Pr.row := by
  simp only [List.map_map]
  exact List.map_congr_left fun p _ => by simp [Pr.row, wkL]

def aw0 : List Pr := [⟨1, 5⟩]
def awp : Opn := ⟨1, 3, 0, 7⟩
def awr : Opn := ⟨5, 2, 9, 0⟩
theorem rises2 {a b : Pr} (h : a.key < b.key) : Rises [a, b] := fun j h1 h2 => by
  have : j = 1 := by simp at h2; omega
  subst this
  simpa using h
theorem rises1 (a : Pr) : Rises [a] := fun j h1 h2 => by simp at h2; omega
theorem aw_ok0 : okOp aw0 awp = true := by
  rw [okOp, bof_true (show Rises aw0 from rises1 _)]
  rfl
theorem aw_l : doL aw0 awp = [⟨1, 5⟩, ⟨3, 7⟩] := by
  rw [doL, if_neg (by rw [aw_ok0]; simp), if_pos (.inl rfl)]
  decide
theorem aw_a : (doA aw0 awp).ok = false := by
  rw [doA, if_neg (by rw [aw_ok0]; simp), if_neg (by decide), if_neg (by decide), if_neg (by decide), if_neg (by decide)]
  decide
theorem aw_ok1 : okOp [⟨1, 5⟩, ⟨3, 7⟩] awr = true := by
  rw [okOp, bof_true (rises2 (by decide))]
  rfl
theorem aw_b : doA [⟨1, 5⟩, ⟨3, 7⟩] awr = ⟨0, false, ⟨0, 0⟩, 1, [⟨3, 7⟩]⟩ := by
  rw [doA, if_neg (by rw [aw_ok1]; simp), if_pos (show awr.kind = 5 from rfl)]
  decide
theorem awake13_spec (M : Mem) : XCalls Go.Proofs.Try.prog 29 [] M fun r M' => r = .l (.bool true) ∧ M' = M := by
  refine xcalls_intro (rs := [.tmp 0]) Go.Proofs.Try.func29 rfl (by kernel_rfl) rfl rfl (by kernel_rfl) (by simp) ?_
  simp -implicitDefEqProofs (maxSteps := 1000000) (disch := omega) only [↓xsP, ↓vc_seq, xsQ, xsT, xsR, tch, tOf, idsOf, storeE, eqA, fitC, fitL, eqCells, eqL, isNilS, absL, loadA, storeA, fieldAddrA, lenA, sliceA, boundA, buildA, placesOf, overw, buildSliceA, makeSliceA, clearA, unA, convA, extractA, fieldA, indexA, nilChk, capsA, retA, retA1, retL, rowOf, srcRows, gslot, Value.oneCell', ↓reduceIte, reduceCtorEq, eq_self, ne_eq, imp_self, forall_const, Nat.reduceEqDiff, Nat.reduceAdd, Nat.reduceSub, Nat.reduceMul, Nat.reduceLT, Nat.reduceLeDiff, Nat.reduceBEq, Nat.reduceDiv, Nat.reduceMod, Int.reduceToNat, Int.reduceNeg, Int.reduceAdd, Int.reduceSub, Int.reduceMul, Int.reduceEq, Int.reduceNe, Int.reduceLT, Int.reduceLE, Int.reduceGT, Int.reduceGE]
  refine newI_intro fun id hid => ?_
  simp -implicitDefEqProofs (maxSteps := 1000000) (disch := omega) only [↓xsP, ↓vc_seq, xsQ, xsT, xsR, tch, tOf, idsOf, storeE, eqA, fitC, fitL, eqCells, eqL, isNilS, absL, loadA, storeA, fieldAddrA, lenA, sliceA, boundA, buildA, placesOf, overw, buildSliceA, makeSliceA, clearA, unA, convA, extractA, fieldA, indexA, nilChk, capsA, retA, retA1, retL, rowOf, srcRows, gslot, Value.oneCell', ↓reduceIte, reduceCtorEq, eq_self, ne_eq, imp_self, forall_const, Nat.reduceEqDiff, Nat.reduceAdd, Nat.reduceSub, Nat.reduceMul, Nat.reduceLT, Nat.reduceLeDiff, Nat.reduceBEq, Nat.reduceDiv, Nat.reduceMod, Int.reduceToNat, Int.reduceNeg, Int.reduceAdd, Int.reduceSub, Int.reduceMul, Int.reduceEq, Int.reduceNe, Int.reduceLT, Int.reduceLE, Int.reduceGT, Int.reduceGE]
  refine callI_gs (GStep.keep (rows' := aw0.map Pr.row) rfl) ?_
  have hM := Mem.set_eq M id (.cells 33 (aw0.map Pr.row) (aw0.map Pr.row).length)
  have hMN : M.le (M.set id (.cells 33 (aw0.map Pr.row) (aw0.map Pr.row).length)) := le_new (Mem.le_refl _) hid
  generalize M.set id (.cells 33 (aw0.map Pr.row) (aw0.map Pr.row).length) = N at hM hMN ⊢
  refine call_of (XCalls.kept2 id 1 hM rfl (Nat.le_refl _) (opn_frz _ _ awp) (do_spec aw0 (by decide) awp N)) ?_
  have hnn : ∀ {n0 : Nat}, (∀ j, n0 ≤ j → N j = none) → ∀ b, M.le (N.set n0 b) := fun hn b j x hx => by
    have := hMN _ _ hx
    rw [Mem.set_ne _ _ _ _ (by have := lt_of_bnd hn this; omega)]
    exact this
  have hl1 : (doL aw0 awp).length = 2 := by rw [aw_l]; rfl
  simp -implicitDefEqProofs (maxSteps := 1000000) (disch := omega) only [↓xsP, ↓vc_seq, xsQ, xsT, xsR, tch, tOf, idsOf, storeE, eqA, fitC, fitL, eqCells, eqL, isNilS, absL, loadA, storeA, fieldAddrA, lenA, sliceA, boundA, buildA, placesOf, overw, buildSliceA, makeSliceA, clearA, unA, convA, extractA, fieldA, indexA, nilChk, capsA, retA, retA1, retL, rowOf, srcRows, gslot, Value.oneCell', ↓reduceIte, reduceCtorEq, eq_self, ne_eq, imp_self, forall_const, Nat.reduceEqDiff, Nat.reduceAdd, Nat.reduceSub, Nat.reduceMul, Nat.reduceLT, Nat.reduceLeDiff, Nat.reduceBEq, Nat.reduceDiv, Nat.reduceMod, Int.reduceToNat, Int.reduceNeg, Int.reduceAdd, Int.reduceSub, Int.reduceMul, Int.reduceEq, Int.reduceNe, Int.reduceLT, Int.reduceLE, Int.reduceGT, Int.reduceGE, aw_a]
  refine newI_intro fun id2 hid2 => ?_
  simp -implicitDefEqProofs (maxSteps := 1000000) (disch := omega) only [↓xsP, ↓vc_seq, xsQ, xsT, xsR, tch, tOf, idsOf, storeE, eqA, fitC, fitL, eqCells, eqL, isNilS, absL, loadA, storeA, fieldAddrA, lenA, sliceA, boundA, buildA, placesOf, overw, buildSliceA, makeSliceA, clearA, unA, convA, extractA, fieldA, indexA, nilChk, capsA, retA, retA1, retL, rowOf, srcRows, gslot, Value.oneCell', ↓reduceIte, reduceCtorEq, eq_self, ne_eq, imp_self, forall_const, Nat.reduceEqDiff, Nat.reduceAdd, Nat.reduceSub, Nat.reduceMul, Nat.reduceLT, Nat.reduceLeDiff, Nat.reduceBEq, Nat.reduceDiv, Nat.reduceMod, Int.reduceToNat, Int.reduceNeg, Int.reduceAdd, Int.reduceSub, Int.reduceMul, Int.reduceEq, Int.reduceNe, Int.reduceLT, Int.reduceLE, Int.reduceGT, Int.reduceGE, aw_a]
  refine call_of (do_spec (doL aw0 awp) (by omega) awr _) ?_
  simp -implicitDefEqProofs (maxSteps := 1000000) (disch := omega) only [↓xsP, ↓vc_seq, xsQ, xsT, xsR, tch, tOf, idsOf, storeE, eqA, fitC, fitL, eqCells, eqL, isNilS, absL, loadA, storeA, fieldAddrA, lenA, sliceA, boundA, buildA, placesOf, overw, buildSliceA, makeSliceA, clearA, unA, convA, extractA, fieldA, indexA, nilChk, capsA, retA, retA1, retL, rowOf, srcRows, gslot, Value.oneCell', ↓reduceIte, reduceCtorEq, eq_self, ne_eq, imp_self, forall_const, Nat.reduceEqDiff, Nat.reduceAdd, Nat.reduceSub, Nat.reduceMul, Nat.reduceLT, Nat.reduceLeDiff, Nat.reduceBEq, Nat.reduceDiv, Nat.reduceMod, Int.reduceToNat, Int.reduceNeg, Int.reduceAdd, Int.reduceSub, Int.reduceMul, Int.reduceEq, Int.reduceNe, Int.reduceLT, Int.reduceLE, Int.reduceGT, Int.reduceGE, aw_a]
  refine newI_intro fun id4 hid4 => ?_
  obtain ⟨h24, hid4⟩ := bnd_new hid4
  have hb := aw_b
  rw [← aw_l] at hb
  have hbn : (doA (doL aw0 awp) awr).n = 1 := by rw [hb]
  have hbl : (doA (doL aw0 awp) awr).pairs.length = 1 := by rw [hb]; rfl
  have hbg : (doA (doL aw0 awp) awr).pairs.getD 0 default = ⟨3, 7⟩ := by rw [hb]; rfl
  have hM4 : ∀ b c, M.le ((N.set id2 b).set id4 c) := fun b c j x hx => by
    have := hMN _ _ hx
    have h2 := lt_of_bnd hid2 this
    rw [Mem.set_ne _ _ _ _ (by omega), Mem.set_ne _ _ _ _ (by omega)]
    exact this
  simp -implicitDefEqProofs (maxSteps := 1000000) (disch := omega) only [↓xsP, ↓vc_seq, xsQ, xsT, xsR, tch, tOf, idsOf, storeE, eqA, fitC, fitL, eqCells, eqL, isNilS, absL, loadA, storeA, fieldAddrA, lenA, sliceA, boundA, buildA, placesOf, overw, buildSliceA, makeSliceA, clearA, unA, convA, extractA, fieldA, indexA, nilChk, capsA, retA, retA1, retL, rowOf, srcRows, gslot, Value.oneCell', ↓reduceIte, reduceCtorEq, eq_self, ne_eq, imp_self, forall_const, Nat.reduceEqDiff, Nat.reduceAdd, Nat.reduceSub, Nat.reduceMul, Nat.reduceLT, Nat.reduceLeDiff, Nat.reduceBEq, Nat.reduceDiv, Nat.reduceMod, Int.reduceToNat, Int.reduceNeg, Int.reduceAdd, Int.reduceSub, Int.reduceMul, Int.reduceEq, Int.reduceNe, Int.reduceLT, Int.reduceLE, Int.reduceGT, Int.reduceGE, aw_a, hl1, hbn, hbl, hbg, Int.cast_ofNat_Int]
  refine call_of (find_spec (doL aw0 awp) (by omega) 3 _) ?_
  have hp : pidx (fun p => decide (p.key = 3)) (doL aw0 awp) 0 = 1 := by rw [aw_l]; rfl
  rw [hp]
  simp -implicitDefEqProofs (maxSteps := 1000000) (disch := omega) only [↓xsP, ↓vc_seq, xsQ, xsT, xsR, tch, tOf, idsOf, storeE, eqA, fitC, fitL, eqCells, eqL, isNilS, absL, loadA, storeA, fieldAddrA, lenA, sliceA, boundA, buildA, placesOf, overw, buildSliceA, makeSliceA, clearA, unA, convA, extractA, fieldA, indexA, nilChk, capsA, retA, retA1, retL, rowOf, srcRows, gslot, Value.oneCell', ↓reduceIte, reduceCtorEq, eq_self, ne_eq, imp_self, forall_const, Nat.reduceEqDiff, Nat.reduceAdd, Nat.reduceSub, Nat.reduceMul, Nat.reduceLT, Nat.reduceLeDiff, Nat.reduceBEq, Nat.reduceDiv, Nat.reduceMod, Int.reduceToNat, Int.reduceNeg, Int.reduceAdd, Int.reduceSub, Int.reduceMul, Int.reduceEq, Int.reduceNe, Int.reduceLT, Int.reduceLE, Int.reduceGT, Int.reduceGE, aw_a, hl1, hbn, hbl, hbg, Int.cast_ofNat_Int]
  refine call_of (may_spec (doL aw0 awp) (by omega) _) ?_
  have hr : bof (Rises (doL aw0 awp)) = true := by rw [aw_l]; exact bof_true (rises2 (by decide))
  rw [hr]
  simp -implicitDefEqProofs (maxSteps := 1000000) (disch := omega) only [↓xsP, ↓vc_seq, xsQ, xsT, xsR, tch, tOf, idsOf, storeE, eqA, fitC, fitL, eqCells, eqL, isNilS, absL, loadA, storeA, fieldAddrA, lenA, sliceA, boundA, buildA, placesOf, overw, buildSliceA, makeSliceA, clearA, unA, convA, extractA, fieldA, indexA, nilChk, capsA, retA, retA1, retL, rowOf, srcRows, gslot, Value.oneCell', ↓reduceIte, reduceCtorEq, eq_self, ne_eq, imp_self, forall_const, Nat.reduceEqDiff, Nat.reduceAdd, Nat.reduceSub, Nat.reduceMul, Nat.reduceLT, Nat.reduceLeDiff, Nat.reduceBEq, Nat.reduceDiv, Nat.reduceMod, Int.reduceToNat, Int.reduceNeg, Int.reduceAdd, Int.reduceSub, Int.reduceMul, Int.reduceEq, Int.reduceNe, Int.reduceLT, Int.reduceLE, Int.reduceGT, Int.reduceGE]
  exact fin_ok (hM4 _ _) ⟨rfl, rfl⟩
end Go.X
