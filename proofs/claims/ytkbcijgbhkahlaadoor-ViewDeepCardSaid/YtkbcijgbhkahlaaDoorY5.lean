/- Texts joined: Ar As An Ao Ap At Ax Ay. -/
import Derived.Test.YtkbcijgbhkahlaaDoorY4
set_option linter.unusedVariables false
set_option linter.unusedSimpArgs false
set_option maxHeartbeats 20000000
set_option maxRecDepth 100000
namespace Go.X
open Go.Proofs.Tryd (prog)

theorem snodeR_spec (x y : Nd) (hx : x.pairs.length ≤ 8796093022200) (M : Mem) : XCalls Go.Proofs.Tryd.prog 30 [.agg x.row, .agg y.row] M fun r M' => r = .l (.bool (bof (x = y))) ∧ M' = M := by
  refine xcalls_intro (rs := [.tmp 4]) Go.Proofs.Tryd.func30 rfl (by kernel_rfl) rfl rfl (by kernel_rfl) (by simp) ?_
  simp -implicitDefEqProofs (maxSteps := 1000000) (disch := omega) only [↓xsP, ↓vc_seq, xsQ, xsT, xsR, xsD, ↓reduceIte, reduceCtorEq, eq_self, ne_eq, imp_self, forall_const, Nat.reduceEqDiff, Nat.reduceAdd, Nat.reduceSub, Nat.reduceMul, Nat.reduceLT, Nat.reduceLeDiff, Nat.reduceBEq, Nat.reduceDiv, Nat.reduceMod, Int.reduceToNat, Int.reduceNeg, Int.reduceAdd, Int.reduceSub, Int.reduceMul, Int.reduceEq, Int.reduceNe, Int.reduceLT, Int.reduceLE, Int.reduceGT, Int.reduceGE, row_nd]
  refine newI_intro fun id hid => ?_
  simp -implicitDefEqProofs (maxSteps := 1000000) (disch := omega) only [↓xsP, ↓vc_seq, xsQ, xsT, xsR, xsD, ↓reduceIte, reduceCtorEq, eq_self, ne_eq, imp_self, forall_const, Nat.reduceEqDiff, Nat.reduceAdd, Nat.reduceSub, Nat.reduceMul, Nat.reduceLT, Nat.reduceLeDiff, Nat.reduceBEq, Nat.reduceDiv, Nat.reduceMod, Int.reduceToNat, Int.reduceNeg, Int.reduceAdd, Int.reduceSub, Int.reduceMul, Int.reduceEq, Int.reduceNe, Int.reduceLT, Int.reduceLE, Int.reduceGT, Int.reduceGE, row_nd]
  refine newI_intro fun id2 hid2 => ?_
  obtain ⟨h12, hid2⟩ := bnd_new hid2
  have hno : x ≠ y → @finI prog (.l (.bool false)) ((M.set id (.cells 46 [[.bool x.route, .int .i64 x.key, .int .i64 x.left, .int .i64 x.right, .sl (x.pairs.map Pr.row), .int .i64 x.stat]] 0)).set id2 (.cells 46 [[.bool y.route, .int .i64 y.key, .int .i64 y.left, .int .i64 y.right, .sl (y.pairs.map Pr.row), .int .i64 y.stat]] 0)) ⟨fun r M' => r = .l (.bool (bof (x = y))) ∧ M' = M⟩ := fun hne => fin_ok (le_new (le_new (Mem.le_refl _) hid) hid2) ⟨by rw [bof_false hne], rfl⟩
  by_cases c1 : x.route = y.route
  rotate_left
  · have q1 : (x.route == y.route) = false := by simpa using c1
    have q1' : decide (x.route = y.route) = false := decide_eq_false c1
    simp -implicitDefEqProofs (maxSteps := 1000000) (disch := omega) only [↓xsP, ↓vc_seq, xsQ, xsT, xsR, xsD, ↓reduceIte, reduceCtorEq, eq_self, ne_eq, imp_self, forall_const, Nat.reduceEqDiff, Nat.reduceAdd, Nat.reduceSub, Nat.reduceMul, Nat.reduceLT, Nat.reduceLeDiff, Nat.reduceBEq, Nat.reduceDiv, Nat.reduceMod, Int.reduceToNat, Int.reduceNeg, Int.reduceAdd, Int.reduceSub, Int.reduceMul, Int.reduceEq, Int.reduceNe, Int.reduceLT, Int.reduceLE, Int.reduceGT, Int.reduceGE, q1, q1']
    exact hno fun e => c1 (by rw [e])
  have q1 : (x.route == y.route) = true := by simpa using c1
  have q1' : decide (x.route = y.route) = true := decide_eq_true c1
  by_cases c2 : x.key = y.key
  rotate_left
  · have q2 : decide (x.key = y.key) = false := decide_eq_false c2
    simp -implicitDefEqProofs (maxSteps := 1000000) (disch := omega) only [↓xsP, ↓vc_seq, xsQ, xsT, xsR, xsD, ↓reduceIte, reduceCtorEq, eq_self, ne_eq, imp_self, forall_const, Nat.reduceEqDiff, Nat.reduceAdd, Nat.reduceSub, Nat.reduceMul, Nat.reduceLT, Nat.reduceLeDiff, Nat.reduceBEq, Nat.reduceDiv, Nat.reduceMod, Int.reduceToNat, Int.reduceNeg, Int.reduceAdd, Int.reduceSub, Int.reduceMul, Int.reduceEq, Int.reduceNe, Int.reduceLT, Int.reduceLE, Int.reduceGT, Int.reduceGE, q1, q1', q2]
    exact hno fun e => c2 (by rw [e])
  have q2 : decide (x.key = y.key) = true := decide_eq_true c2
  by_cases c3 : x.left = y.left
  rotate_left
  · have q3 : decide (x.left = y.left) = false := decide_eq_false c3
    simp -implicitDefEqProofs (maxSteps := 1000000) (disch := omega) only [↓xsP, ↓vc_seq, xsQ, xsT, xsR, xsD, ↓reduceIte, reduceCtorEq, eq_self, ne_eq, imp_self, forall_const, Nat.reduceEqDiff, Nat.reduceAdd, Nat.reduceSub, Nat.reduceMul, Nat.reduceLT, Nat.reduceLeDiff, Nat.reduceBEq, Nat.reduceDiv, Nat.reduceMod, Int.reduceToNat, Int.reduceNeg, Int.reduceAdd, Int.reduceSub, Int.reduceMul, Int.reduceEq, Int.reduceNe, Int.reduceLT, Int.reduceLE, Int.reduceGT, Int.reduceGE, q1, q1', q2, q3]
    exact hno fun e => c3 (by rw [e])
  have q3 : decide (x.left = y.left) = true := decide_eq_true c3
  by_cases c4 : x.right = y.right
  rotate_left
  · have q4 : decide (x.right = y.right) = false := decide_eq_false c4
    simp -implicitDefEqProofs (maxSteps := 1000000) (disch := omega) only [↓xsP, ↓vc_seq, xsQ, xsT, xsR, xsD, ↓reduceIte, reduceCtorEq, eq_self, ne_eq, imp_self, forall_const, Nat.reduceEqDiff, Nat.reduceAdd, Nat.reduceSub, Nat.reduceMul, Nat.reduceLT, Nat.reduceLeDiff, Nat.reduceBEq, Nat.reduceDiv, Nat.reduceMod, Int.reduceToNat, Int.reduceNeg, Int.reduceAdd, Int.reduceSub, Int.reduceMul, Int.reduceEq, Int.reduceNe, Int.reduceLT, Int.reduceLE, Int.reduceGT, Int.reduceGE, q1, q1', q2, q3, q4]
    exact hno fun e => c4 (by rw [e])
  have q4 : decide (x.right = y.right) = true := decide_eq_true c4
  by_cases c5 : x.stat = y.stat
  rotate_left
  · have q5 : decide (x.stat = y.stat) = false := decide_eq_false c5
    simp -implicitDefEqProofs (maxSteps := 1000000) (disch := omega) only [↓xsP, ↓vc_seq, xsQ, xsT, xsR, xsD, ↓reduceIte, reduceCtorEq, eq_self, ne_eq, imp_self, forall_const, Nat.reduceEqDiff, Nat.reduceAdd, Nat.reduceSub, Nat.reduceMul, Nat.reduceLT, Nat.reduceLeDiff, Nat.reduceBEq, Nat.reduceDiv, Nat.reduceMod, Int.reduceToNat, Int.reduceNeg, Int.reduceAdd, Int.reduceSub, Int.reduceMul, Int.reduceEq, Int.reduceNe, Int.reduceLT, Int.reduceLE, Int.reduceGT, Int.reduceGE, q1, q1', q2, q3, q4, q5]
    exact hno fun e => c5 (by rw [e])
  have q5 : decide (x.stat = y.stat) = true := decide_eq_true c5
  simp -implicitDefEqProofs (maxSteps := 1000000) (disch := omega) only [↓xsP, ↓vc_seq, xsQ, xsT, xsR, xsD, ↓reduceIte, reduceCtorEq, eq_self, ne_eq, imp_self, forall_const, Nat.reduceEqDiff, Nat.reduceAdd, Nat.reduceSub, Nat.reduceMul, Nat.reduceLT, Nat.reduceLeDiff, Nat.reduceBEq, Nat.reduceDiv, Nat.reduceMod, Int.reduceToNat, Int.reduceNeg, Int.reduceAdd, Int.reduceSub, Int.reduceMul, Int.reduceEq, Int.reduceNe, Int.reduceLT, Int.reduceLE, Int.reduceGT, Int.reduceGE, q1, q1', q2, q3, q4, q5]
  refine callI_of ((samePairs_spec x.pairs y.pairs (by omega) _).mono ?_)
  rintro _ _ ⟨rfl, rfl⟩
  simp -implicitDefEqProofs (maxSteps := 1000000) (disch := omega) only [↓xsP, ↓vc_seq, xsQ, xsT, xsR, xsD, ↓reduceIte, reduceCtorEq, eq_self, ne_eq, imp_self, forall_const, Nat.reduceEqDiff, Nat.reduceAdd, Nat.reduceSub, Nat.reduceMul, Nat.reduceLT, Nat.reduceLeDiff, Nat.reduceBEq, Nat.reduceDiv, Nat.reduceMod, Int.reduceToNat, Int.reduceNeg, Int.reduceAdd, Int.reduceSub, Int.reduceMul, Int.reduceEq, Int.reduceNe, Int.reduceLT, Int.reduceLE, Int.reduceGT, Int.reduceGE, q1, q1', q2, q3, q4, q5]
  refine fin_ok (le_new (le_new (Mem.le_refl _) hid) hid2) ⟨?_, rfl⟩
  refine congrArg (fun b => AV.l (.bool b)) (bof_congr ?_)
  obtain ⟨a1, a2, a3, a4, a5, a6⟩ := x
  obtain ⟨b1, b2, b3, b4, b5, b6⟩ := y
  simp only at c1 c2 c3 c4 c5
  simp [c1, c2, c3, c4, c5]
theorem sraw_spec (r1 r2 : Int) (l m : List Nd) (hl : l.length ≤ 140737488355328) (hp : Pok l) (M : Mem) : XCalls Go.Proofs.Tryd.prog 14 [trA r1 l, trA r2 m] M fun r M' => r = .l (.bool (bof (r1 = r2 ∧ l = m))) ∧ M' = M := by
  refine xcalls_intro (rs := [.tmp 4]) Go.Proofs.Tryd.func14 rfl (by kernel_rfl) rfl rfl (by kernel_rfl) (by simp) ?_
  simp -implicitDefEqProofs (maxSteps := 1000000) (disch := omega) only [↓xsP, ↓vc_seq, xsQ, xsT, xsR, xsD, ↓reduceIte, reduceCtorEq, eq_self, ne_eq, imp_self, forall_const, Nat.reduceEqDiff, Nat.reduceAdd, Nat.reduceSub, Nat.reduceMul, Nat.reduceLT, Nat.reduceLeDiff, Nat.reduceBEq, Nat.reduceDiv, Nat.reduceMod, Int.reduceToNat, Int.reduceNeg, Int.reduceAdd, Int.reduceSub, Int.reduceMul, Int.reduceEq, Int.reduceNe, Int.reduceLT, Int.reduceLE, Int.reduceGT, Int.reduceGE, trA]
  refine newI_intro fun id hid => ?_
  simp -implicitDefEqProofs (maxSteps := 1000000) (disch := omega) only [↓xsP, ↓vc_seq, xsQ, xsT, xsR, xsD, ↓reduceIte, reduceCtorEq, eq_self, ne_eq, imp_self, forall_const, Nat.reduceEqDiff, Nat.reduceAdd, Nat.reduceSub, Nat.reduceMul, Nat.reduceLT, Nat.reduceLeDiff, Nat.reduceBEq, Nat.reduceDiv, Nat.reduceMod, Int.reduceToNat, Int.reduceNeg, Int.reduceAdd, Int.reduceSub, Int.reduceMul, Int.reduceEq, Int.reduceNe, Int.reduceLT, Int.reduceLE, Int.reduceGT, Int.reduceGE, trA]
  refine newI_intro fun id2 hid2 => ?_
  obtain ⟨h12, hid2⟩ := bnd_new hid2
  have hfi : ∀ b : Bool, b = bof (r1 = r2 ∧ l = m) → @finI prog (.l (.bool b)) ((M.set id (.cells 24 [[.int .i64 r1, .sl (l.map Nd.row)]] 0)).set id2 (.cells 24 [[.int .i64 r2, .sl (m.map Nd.row)]] 0)) ⟨fun r M' => r = .l (.bool (bof (r1 = r2 ∧ l = m))) ∧ M' = M⟩ := fun b hb => fin_ok (le_new (le_new (Mem.le_refl _) hid) hid2) ⟨by rw [hb], rfl⟩
  by_cases c1 : r1 = r2
  rotate_left
  · have q1 : decide (¬ r1 = r2) = true := decide_eq_true c1
    simp -implicitDefEqProofs (maxSteps := 1000000) (disch := omega) only [↓xsP, ↓vc_seq, xsQ, xsT, xsR, xsD, ↓reduceIte, reduceCtorEq, eq_self, ne_eq, imp_self, forall_const, Nat.reduceEqDiff, Nat.reduceAdd, Nat.reduceSub, Nat.reduceMul, Nat.reduceLT, Nat.reduceLeDiff, Nat.reduceBEq, Nat.reduceDiv, Nat.reduceMod, Int.reduceToNat, Int.reduceNeg, Int.reduceAdd, Int.reduceSub, Int.reduceMul, Int.reduceEq, Int.reduceNe, Int.reduceLT, Int.reduceLE, Int.reduceGT, Int.reduceGE, q1]
    exact hfi _ (by rw [bof_false fun h => c1 h.1])
  have q1 : decide (¬ r1 = r2) = false := decide_eq_false fun h => h c1
  by_cases c2 : l.length = m.length
  rotate_left
  · have q2 : decide (¬ (l.length : Int) = (m.length : Int)) = true := decide_eq_true (by omega)
    simp -implicitDefEqProofs (maxSteps := 1000000) (disch := omega) only [↓xsP, ↓vc_seq, xsQ, xsT, xsR, xsD, ↓reduceIte, reduceCtorEq, eq_self, ne_eq, imp_self, forall_const, Nat.reduceEqDiff, Nat.reduceAdd, Nat.reduceSub, Nat.reduceMul, Nat.reduceLT, Nat.reduceLeDiff, Nat.reduceBEq, Nat.reduceDiv, Nat.reduceMod, Int.reduceToNat, Int.reduceNeg, Int.reduceAdd, Int.reduceSub, Int.reduceMul, Int.reduceEq, Int.reduceNe, Int.reduceLT, Int.reduceLE, Int.reduceGT, Int.reduceGE, q1, q2]
    exact hfi _ (by rw [bof_false fun h => c2 (by rw [h.2])])
  have q2 : decide (¬ (l.length : Int) = (m.length : Int)) = false := decide_eq_false (by omega)
  simp -implicitDefEqProofs (maxSteps := 1000000) (disch := omega) only [↓xsP, ↓vc_seq, xsQ, xsT, xsR, xsD, ↓reduceIte, reduceCtorEq, eq_self, ne_eq, imp_self, forall_const, Nat.reduceEqDiff, Nat.reduceAdd, Nat.reduceSub, Nat.reduceMul, Nat.reduceLT, Nat.reduceLeDiff, Nat.reduceBEq, Nat.reduceDiv, Nat.reduceMod, Int.reduceToNat, Int.reduceNeg, Int.reduceAdd, Int.reduceSub, Int.reduceMul, Int.reduceEq, Int.reduceNe, Int.reduceLT, Int.reduceLE, Int.reduceGT, Int.reduceGE, q1, q2]
  obtain ⟨N, hN⟩ : ∃ N, N = ((M.set id (.cells 24 [[.int .i64 r1, .sl (l.map Nd.row)]] 0)).set id2 (.cells 24 [[.int .i64 r2, .sl (m.map Nd.row)]] 0)) := ⟨_, rfl⟩
  have hN1 : N id = some (.cells 24 [[.int .i64 r1, .sl (l.map Nd.row)]] 0) := by rw [hN, Mem.set_ne _ _ _ _ (by omega), Mem.set_eq]
  have hN2 : N id2 = some (.cells 24 [[.int .i64 r2, .sl (m.map Nd.row)]] 0) := by rw [hN, Mem.set_eq]
  rw [← hN] at hfi ⊢
  clear hN
  refine loopI_of (xloop (by kernel_rfl) (fun k fr M' => ∃ i : Nat, i ≤ l.length ∧ k = l.length - i ∧ fr 2 = .l (.ptr id 0 0) ∧ fr 3 = .l (.ptr id2 0 0) ∧ fr 22 = .l (.int .i64 l.length) ∧ fr 23 = .l (.int .i64 i) ∧ M' = N ∧ ∀ j : Nat, j < i → l.getD j default = m.getD j default) l.length ?_ ?_)
  · refine ⟨0, Nat.zero_le _, rfl, by simp -implicitDefEqProofs (maxSteps := 1000000) (disch := omega) only [↓xsP, ↓vc_seq, xsQ, xsT, xsR, xsD, ↓reduceIte, reduceCtorEq, eq_self, ne_eq, imp_self, forall_const, Nat.reduceEqDiff, Nat.reduceAdd, Nat.reduceSub, Nat.reduceMul, Nat.reduceLT, Nat.reduceLeDiff, Nat.reduceBEq, Nat.reduceDiv, Nat.reduceMod, Int.reduceToNat, Int.reduceNeg, Int.reduceAdd, Int.reduceSub, Int.reduceMul, Int.reduceEq, Int.reduceNe, Int.reduceLT, Int.reduceLE, Int.reduceGT, Int.reduceGE], by simp -implicitDefEqProofs (maxSteps := 1000000) (disch := omega) only [↓xsP, ↓vc_seq, xsQ, xsT, xsR, xsD, ↓reduceIte, reduceCtorEq, eq_self, ne_eq, imp_self, forall_const, Nat.reduceEqDiff, Nat.reduceAdd, Nat.reduceSub, Nat.reduceMul, Nat.reduceLT, Nat.reduceLeDiff, Nat.reduceBEq, Nat.reduceDiv, Nat.reduceMod, Int.reduceToNat, Int.reduceNeg, Int.reduceAdd, Int.reduceSub, Int.reduceMul, Int.reduceEq, Int.reduceNe, Int.reduceLT, Int.reduceLE, Int.reduceGT, Int.reduceGE], by simp -implicitDefEqProofs (maxSteps := 1000000) (disch := omega) only [↓xsP, ↓vc_seq, xsQ, xsT, xsR, xsD, ↓reduceIte, reduceCtorEq, eq_self, ne_eq, imp_self, forall_const, Nat.reduceEqDiff, Nat.reduceAdd, Nat.reduceSub, Nat.reduceMul, Nat.reduceLT, Nat.reduceLeDiff, Nat.reduceBEq, Nat.reduceDiv, Nat.reduceMod, Int.reduceToNat, Int.reduceNeg, Int.reduceAdd, Int.reduceSub, Int.reduceMul, Int.reduceEq, Int.reduceNe, Int.reduceLT, Int.reduceLE, Int.reduceGT, Int.reduceGE], by simp -implicitDefEqProofs (maxSteps := 1000000) (disch := omega) only [↓xsP, ↓vc_seq, xsQ, xsT, xsR, xsD, ↓reduceIte, reduceCtorEq, eq_self, ne_eq, imp_self, forall_const, Nat.reduceEqDiff, Nat.reduceAdd, Nat.reduceSub, Nat.reduceMul, Nat.reduceLT, Nat.reduceLeDiff, Nat.reduceBEq, Nat.reduceDiv, Nat.reduceMod, Int.reduceToNat, Int.reduceNeg, Int.reduceAdd, Int.reduceSub, Int.reduceMul, Int.reduceEq, Int.reduceNe, Int.reduceLT, Int.reduceLE, Int.reduceGT, Int.reduceGE, Int.cast_ofNat_Int], rfl, fun j h1 => by omega⟩
  · rintro k fr M' ⟨i, hi, rfl, h2, h3, h22, h23, rfl, hr⟩
    simp -implicitDefEqProofs (maxSteps := 1000000) (disch := omega) only [↓xsP, ↓vc_seq, xsQ, xsT, xsR, xsD, ↓reduceIte, reduceCtorEq, eq_self, ne_eq, imp_self, forall_const, Nat.reduceEqDiff, Nat.reduceAdd, Nat.reduceSub, Nat.reduceMul, Nat.reduceLT, Nat.reduceLeDiff, Nat.reduceBEq, Nat.reduceDiv, Nat.reduceMod, Int.reduceToNat, Int.reduceNeg, Int.reduceAdd, Int.reduceSub, Int.reduceMul, Int.reduceEq, Int.reduceNe, Int.reduceLT, Int.reduceLE, Int.reduceGT, Int.reduceGE, h2, h3, h22, h23]
    refine condI_prop (fun hlt => ?_) (fun hlt => ?_)
    · have hil : i < l.length := by omega
      have him : i < m.length := by omega
      obtain ⟨x, hx⟩ : ∃ x, l.getD i default = x := ⟨_, rfl⟩
      obtain ⟨y, hy⟩ : ∃ y, m.getD i default = y := ⟨_, rfl⟩
      have hpx : x.pairs.length ≤ 8796093022200 := by rw [← hx]; exact hp _ (getD_mem' l default hil)
      simp -implicitDefEqProofs (maxSteps := 1000000) (disch := omega) only [↓xsP, ↓vc_seq, xsQ, xsT, xsR, xsD, ↓reduceIte, reduceCtorEq, eq_self, ne_eq, imp_self, forall_const, Nat.reduceEqDiff, Nat.reduceAdd, Nat.reduceSub, Nat.reduceMul, Nat.reduceLT, Nat.reduceLeDiff, Nat.reduceBEq, Nat.reduceDiv, Nat.reduceMod, Int.reduceToNat, Int.reduceNeg, Int.reduceAdd, Int.reduceSub, Int.reduceMul, Int.reduceEq, Int.reduceNe, Int.reduceLT, Int.reduceLE, Int.reduceGT, Int.reduceGE, h2, h3, h22, h23, hN1, hN2]
      refine xquiet (by kernel_rfl) (by kernel_rfl) (by kernel_rfl) ?_
      simp -implicitDefEqProofs (maxSteps := 1000000) (disch := omega) only [↓xsP, ↓vc_seq, xsQ, xsT, xsR, xsD, ↓reduceIte, reduceCtorEq, eq_self, ne_eq, imp_self, forall_const, Nat.reduceEqDiff, Nat.reduceAdd, Nat.reduceSub, Nat.reduceMul, Nat.reduceLT, Nat.reduceLeDiff, Nat.reduceBEq, Nat.reduceDiv, Nat.reduceMod, Int.reduceToNat, Int.reduceNeg, Int.reduceAdd, Int.reduceSub, Int.reduceMul, Int.reduceEq, Int.reduceNe, Int.reduceLT, Int.reduceLE, Int.reduceGT, Int.reduceGE, h2, h3, h22, h23, hN1, hN2, hx, hy]
      rw [← row_nd, ← row_nd]
      refine dcallI_of (snodeR_spec x y (by omega) _) ?_
      by_cases hxy : x = y
      · rw [bof_true hxy]
        simp -implicitDefEqProofs (maxSteps := 1000000) (disch := omega) only [↓xsP, ↓vc_seq, xsQ, xsT, xsR, xsD, ↓reduceIte, reduceCtorEq, eq_self, ne_eq, imp_self, forall_const, Nat.reduceEqDiff, Nat.reduceAdd, Nat.reduceSub, Nat.reduceMul, Nat.reduceLT, Nat.reduceLeDiff, Nat.reduceBEq, Nat.reduceDiv, Nat.reduceMod, Int.reduceToNat, Int.reduceNeg, Int.reduceAdd, Int.reduceSub, Int.reduceMul, Int.reduceEq, Int.reduceNe, Int.reduceLT, Int.reduceLE, Int.reduceGT, Int.reduceGE, h2, h3, h22, h23]
        refine ⟨l.length - (i + 1), M', by omega, Mem.le_refl _, i + 1, by omega, rfl, rfl, rfl, fun j hj => ?_⟩
        by_cases hji : j < i
        · exact hr j hji
        · have : j = i := by omega
          rw [this, hx, hy, hxy]
      · rw [bof_false hxy]
        simp -implicitDefEqProofs (maxSteps := 1000000) (disch := omega) only [↓xsP, ↓vc_seq, xsQ, xsT, xsR, xsD, ↓reduceIte, reduceCtorEq, eq_self, ne_eq, imp_self, forall_const, Nat.reduceEqDiff, Nat.reduceAdd, Nat.reduceSub, Nat.reduceMul, Nat.reduceLT, Nat.reduceLeDiff, Nat.reduceBEq, Nat.reduceDiv, Nat.reduceMod, Int.reduceToNat, Int.reduceNeg, Int.reduceAdd, Int.reduceSub, Int.reduceMul, Int.reduceEq, Int.reduceNe, Int.reduceLT, Int.reduceLE, Int.reduceGT, Int.reduceGE, h2, h3, h22, h23]
        exact hfi _ (by rw [bof_false fun h => hxy (by rw [← hx, ← hy, h.2])])
    · simp -implicitDefEqProofs (maxSteps := 1000000) (disch := omega) only [↓xsP, ↓vc_seq, xsQ, xsT, xsR, xsD, ↓reduceIte, reduceCtorEq, eq_self, ne_eq, imp_self, forall_const, Nat.reduceEqDiff, Nat.reduceAdd, Nat.reduceSub, Nat.reduceMul, Nat.reduceLT, Nat.reduceLeDiff, Nat.reduceBEq, Nat.reduceDiv, Nat.reduceMod, Int.reduceToNat, Int.reduceNeg, Int.reduceAdd, Int.reduceSub, Int.reduceMul, Int.reduceEq, Int.reduceNe, Int.reduceLT, Int.reduceLE, Int.reduceGT, Int.reduceGE, h2, h3, h22, h23]
      refine hfi _ ?_
      rw [bof_true]
      exact ⟨c1, ext_getD (by omega) fun j hj => hr j (by omega)⟩
theorem rplain_spec (root : Int) (ns : List Nd) (hl : ns.length ≤ 140737488355328) (hp : Pok ns) (M : Mem) :
    XCalls Go.Proofs.Tryd.prog 27 [trA root ns] M fun r M' => M' = M ∧ ((mayT root ns = false ∧ r = .tup [trA 0 [], .l (.bool false)]) ∨ ∃ T, Good root ns T ∧ r = .tup [trA 0 (preN 0 T), .l (.bool true)]) := by
  refine xcalls_intro (rs := [.cell 2 24, .tmp 3]) Go.Proofs.Tryd.func27 rfl (by kernel_rfl) rfl rfl (by kernel_rfl) (by simp) ?_
  simp -implicitDefEqProofs (maxSteps := 1000000) (disch := omega) only [↓xsP, ↓vc_seq, xsQ, xsT, xsR, xsD, ↓reduceIte, reduceCtorEq, eq_self, ne_eq, imp_self, forall_const, Nat.reduceEqDiff, Nat.reduceAdd, Nat.reduceSub, Nat.reduceMul, Nat.reduceLT, Nat.reduceLeDiff, Nat.reduceBEq, Nat.reduceDiv, Nat.reduceMod, Int.reduceToNat, Int.reduceNeg, Int.reduceAdd, Int.reduceSub, Int.reduceMul, Int.reduceEq, Int.reduceNe, Int.reduceLT, Int.reduceLE, Int.reduceGT, Int.reduceGE, trA]
  refine newI_intro fun id1 hid1 => ?_
  simp -implicitDefEqProofs (maxSteps := 1000000) (disch := omega) only [↓xsP, ↓vc_seq, xsQ, xsT, xsR, xsD, ↓reduceIte, reduceCtorEq, eq_self, ne_eq, imp_self, forall_const, Nat.reduceEqDiff, Nat.reduceAdd, Nat.reduceSub, Nat.reduceMul, Nat.reduceLT, Nat.reduceLeDiff, Nat.reduceBEq, Nat.reduceDiv, Nat.reduceMod, Int.reduceToNat, Int.reduceNeg, Int.reduceAdd, Int.reduceSub, Int.reduceMul, Int.reduceEq, Int.reduceNe, Int.reduceLT, Int.reduceLE, Int.reduceGT, Int.reduceGE]
  refine newI_intro fun id2 hid2 => ?_
  obtain ⟨k12, hid2'⟩ := bnd_new hid2
  simp -implicitDefEqProofs (maxSteps := 1000000) (disch := omega) only [↓xsP, ↓vc_seq, xsQ, xsT, xsR, xsD, ↓reduceIte, reduceCtorEq, eq_self, ne_eq, imp_self, forall_const, Nat.reduceEqDiff, Nat.reduceAdd, Nat.reduceSub, Nat.reduceMul, Nat.reduceLT, Nat.reduceLeDiff, Nat.reduceBEq, Nat.reduceDiv, Nat.reduceMod, Int.reduceToNat, Int.reduceNeg, Int.reduceAdd, Int.reduceSub, Int.reduceMul, Int.reduceEq, Int.reduceNe, Int.reduceLT, Int.reduceLE, Int.reduceGT, Int.reduceGE]
  by_cases h1 : ns.length ≤ 2000
  rotate_left
  · have q1 : decide ((ns.length : Int) > 2000) = true := decide_eq_true (by omega)
    simp -implicitDefEqProofs (maxSteps := 1000000) (disch := omega) only [↓xsP, ↓vc_seq, xsQ, xsT, xsR, xsD, ↓reduceIte, reduceCtorEq, eq_self, ne_eq, imp_self, forall_const, Nat.reduceEqDiff, Nat.reduceAdd, Nat.reduceSub, Nat.reduceMul, Nat.reduceLT, Nat.reduceLeDiff, Nat.reduceBEq, Nat.reduceDiv, Nat.reduceMod, Int.reduceToNat, Int.reduceNeg, Int.reduceAdd, Int.reduceSub, Int.reduceMul, Int.reduceEq, Int.reduceNe, Int.reduceLT, Int.reduceLE, Int.reduceGT, Int.reduceGE, q1]
    refine finI_of (XFin.wk (XFin.le (M' := M) (fun k bk hk => ?_) ⟨rfl, .inl ⟨?_, rfl⟩⟩))
    · have := lt_of_bnd hid1 hk
      simp (disch := omega) only [Mem.set_ne, hk]
    · rw [mayT, decide_eq_false h1]; rfl
  have q1 : decide ((ns.length : Int) > 2000) = false := decide_eq_false (by omega)
  simp -implicitDefEqProofs (maxSteps := 1000000) (disch := omega) only [↓xsP, ↓vc_seq, xsQ, xsT, xsR, xsD, ↓reduceIte, reduceCtorEq, eq_self, ne_eq, imp_self, forall_const, Nat.reduceEqDiff, Nat.reduceAdd, Nat.reduceSub, Nat.reduceMul, Nat.reduceLT, Nat.reduceLeDiff, Nat.reduceBEq, Nat.reduceDiv, Nat.reduceMod, Int.reduceToNat, Int.reduceNeg, Int.reduceAdd, Int.reduceSub, Int.reduceMul, Int.reduceEq, Int.reduceNe, Int.reduceLT, Int.reduceLE, Int.reduceGT, Int.reduceGE, q1]
  obtain ⟨A, eA, hA1, hA2, hMA⟩ : ∃ A, A = (M.set id1 (.cells 24 [[.int .i64 root, .sl (ns.map Nd.row)]] 0)).set id2 (.cells 24 [[.int .i64 0, .nils]] 0) ∧ A id1 = some (.cells 24 [[.int .i64 root, .sl (ns.map Nd.row)]] 0) ∧ A id2 = some (.cells 24 [[.int .i64 0, .nils]] 0) ∧ ∀ k bk, M k = some bk → k ≠ id2 ∧ A k = some bk := ⟨_, rfl, by rw [Mem.set_ne _ _ _ _ (by omega), Mem.set_eq], Mem.set_eq _ _ _, fun k bk hk => by
    have := lt_of_bnd hid1 hk
    refine ⟨by omega, ?_⟩
    rw [Mem.set_ne _ _ _ _ (by omega), Mem.set_ne _ _ _ _ (by omega)]; exact hk⟩
  rw [← eA]
  refine xwrite (fun n0 => [ ]) [] [4, 6] [[], [], [], [], [], [], [], []] (by kernel_rfl) (by kernel_rfl) (by kernel_rfl) (by kernel_rfl) (fun n0 hn0 => ⟨rfl, ?_, ?_⟩)
  · exact TOk_nil _ _
  have e1 := lt_of_bnd hn0 hA1
  have e2 := lt_of_bnd hn0 hA2
  simp -implicitDefEqProofs (maxSteps := 1000000) (disch := omega) only [↓xsP, ↓vc_seq, xsQ, xsT, xsR, xsD, ↓reduceIte, reduceCtorEq, eq_self, ne_eq, imp_self, forall_const, Nat.reduceEqDiff, Nat.reduceAdd, Nat.reduceSub, Nat.reduceMul, Nat.reduceLT, Nat.reduceLeDiff, Nat.reduceBEq, Nat.reduceDiv, Nat.reduceMod, Int.reduceToNat, Int.reduceNeg, Int.reduceAdd, Int.reduceSub, Int.reduceMul, Int.reduceEq, Int.reduceNe, Int.reduceLT, Int.reduceLE, Int.reduceGT, Int.reduceGE, hA1]
  rw [if_pos ⟨by omega, by omega, by omega⟩]
  simp -implicitDefEqProofs (maxSteps := 1000000) (disch := omega) only [↓xsP, ↓vc_seq, xsQ, xsT, xsR, xsD, ↓reduceIte, reduceCtorEq, eq_self, ne_eq, imp_self, forall_const, Nat.reduceEqDiff, Nat.reduceAdd, Nat.reduceSub, Nat.reduceMul, Nat.reduceLT, Nat.reduceLeDiff, Nat.reduceBEq, Nat.reduceDiv, Nat.reduceMod, Int.reduceToNat, Int.reduceNeg, Int.reduceAdd, Int.reduceSub, Int.reduceMul, Int.reduceEq, Int.reduceNe, Int.reduceLT, Int.reduceLE, Int.reduceGT, Int.reduceGE, hA1, List.length_replicate]
  refine ⟨.inl (by decide), .inl (by decide), ?_⟩
  obtain ⟨idm, eidm⟩ : ∃ x, x = n0 + 4 := ⟨_, rfl⟩
  obtain ⟨idc, eidc⟩ : ∃ x, x = n0 + 6 := ⟨_, rfl⟩
  rw [← eidm, ← eidc]
  have hcm : idc ≠ idm := by omega
  have hrep : List.replicate ns.length [Lf.bool false] = (List.replicate ns.length false).map brow := by rw [List.map_replicate]; rfl
  rw [hrep]
  have hP : PSt A ((A.set idm (.cells 4 ((List.replicate ns.length false).map brow) 0)).set idc (.cells 82 [[.int .i64 root, .sl (ns.map Nd.row), .nils, .ms idm 0 ns.length, .bool false]] 0)) root ns idc idm (List.replicate ns.length false) [] .nils false := by
    have hm : ∀ j, n0 ≤ j → A j = none := hn0
    refine ⟨Mem.set_eq _ _ _, by rw [Mem.set_ne _ _ _ _ hcm, Mem.set_eq, mtB], hm _ (by omega), hm _ (by omega), fun k bk hk => ?_, .inl ⟨rfl, rfl⟩⟩
    have := lt_of_bnd hn0 hk
    rw [Mem.set_ne _ _ _ _ (by omega), Mem.set_ne _ _ _ _ (by omega)]
    exact hk
  have hu := unmet_rep ns.length
  have sp := plan_spec root ns (by omega) hp idc idm (ns.length + 1) A (List.replicate ns.length false) 0 root ks0 [] .nils _ List.length_replicate (by omega) (by rw [hu]; simp only [List.length_nil]; omega) (fun r hr => by cases hr) hP
  refine callI_of ((XCalls.rd (.cons (.inl ⟨rfl, Fast.ptr _ _ _⟩) (.cons (.inl ⟨rfl, Fast.int _ _⟩) (.cons (.inr ⟨_, _, rfl, rfl, Rd.nils _⟩) (.cons (.inr ⟨_, _, rfl, rfl, Rd.nils _⟩) .nil)))) sp).mono ?_)
  have hml := mayS_len ns (ns.length + 1) (List.replicate ns.length false, 0) root ks0
  rintro r N (⟨hR, T, pl, x', hH, hmk, hsz, rfl, hP2⟩ | ⟨hR, v, m', R, x', rfl, hP2, hl1, hl2, hR6⟩)
  · obtain ⟨T', pl', g1, g2, g3, g4, g5⟩ := mayS_sound ns _ _ _ _ _ List.length_replicate hR
    obtain ⟨rfl, rfl⟩ := hH.uniq g1
    have hown := hP2.own
    rw [plB] at hown
    have hN1 := hP2.le _ _ hA1
    have hN2 := hP2.le _ _ hA2
    have hsp := T.size_pos
    obtain ⟨idn, rfl, hn, hBn, hnc, hnm⟩ := hP2.ms (fun e => by
      have := congrArg List.length e
      rw [List.nil_append, preR_len] at this
      simp at this
      omega)
    have hlen : ([] ++ preR ([] : List (List Lf)).length T).length = T.size := by rw [List.nil_append, preR_len]
    rw [hlen] at hown hP2
    rw [List.nil_append, List.length_nil] at hn hP2
    have hmt : mayT root ns = decide (T.size = ns.length) := by
      rw [mayT, decide_eq_true h1, Bool.true_and, mayR, g5, Bool.true_and]
      rw [decide_eq_decide]
      simp only
      omega
    simp -implicitDefEqProofs (maxSteps := 1000000) (disch := omega) only [↓xsP, ↓vc_seq, xsQ, xsT, xsR, xsD, ↓reduceIte, reduceCtorEq, eq_self, ne_eq, imp_self, forall_const, Nat.reduceEqDiff, Nat.reduceAdd, Nat.reduceSub, Nat.reduceMul, Nat.reduceLT, Nat.reduceLeDiff, Nat.reduceBEq, Nat.reduceDiv, Nat.reduceMod, Int.reduceToNat, Int.reduceNeg, Int.reduceAdd, Int.reduceSub, Int.reduceMul, Int.reduceEq, Int.reduceNe, Int.reduceLT, Int.reduceLE, Int.reduceGT, Int.reduceGE, hown, hN1]
    refine xquiet (by kernel_rfl) (by kernel_rfl) (by kernel_rfl) ?_
    by_cases c1 : T.size = ns.length
    rotate_left
    · have q2 : decide (¬ (T.size : Int) = (ns.length : Int)) = true := decide_eq_true (by omega)
      simp -implicitDefEqProofs (maxSteps := 1000000) (disch := omega) only [↓xsP, ↓vc_seq, xsQ, xsT, xsR, xsD, ↓reduceIte, reduceCtorEq, eq_self, ne_eq, imp_self, forall_const, Nat.reduceEqDiff, Nat.reduceAdd, Nat.reduceSub, Nat.reduceMul, Nat.reduceLT, Nat.reduceLeDiff, Nat.reduceBEq, Nat.reduceDiv, Nat.reduceMod, Int.reduceToNat, Int.reduceNeg, Int.reduceAdd, Int.reduceSub, Int.reduceMul, Int.reduceEq, Int.reduceNe, Int.reduceLT, Int.reduceLE, Int.reduceGT, Int.reduceGE, hown, hN1, q2, hN2]
      refine finI_of (XFin.wk (XFin.le (M' := M) (fun k bk hk => ?_) ⟨rfl, .inl ⟨by rw [hmt, decide_eq_false c1], rfl⟩⟩))
      obtain ⟨k2, hk2⟩ := hMA _ _ hk
      rw [Mem.set_ne _ _ _ _ (Ne.symm k2)]
      exact hP2.le _ _ hk2
    have q2 : decide (¬ (T.size : Int) = (ns.length : Int)) = false := decide_eq_false (by omega)
    simp -implicitDefEqProofs (maxSteps := 1000000) (disch := omega) only [↓xsP, ↓vc_seq, xsQ, xsT, xsR, xsD, ↓reduceIte, reduceCtorEq, eq_self, ne_eq, imp_self, forall_const, Nat.reduceEqDiff, Nat.reduceAdd, Nat.reduceSub, Nat.reduceMul, Nat.reduceLT, Nat.reduceLeDiff, Nat.reduceBEq, Nat.reduceDiv, Nat.reduceMod, Int.reduceToNat, Int.reduceNeg, Int.reduceAdd, Int.reduceSub, Int.reduceMul, Int.reduceEq, Int.reduceNe, Int.reduceLT, Int.reduceLE, Int.reduceGT, Int.reduceGE, hown, hN1, q2, hN2]
    have hn2 : idn ≠ id2 := fun e => by rw [e, hA2] at hBn; cases hBn
    have hpl := preN_len T 0
    refine finI_gs (GStep.keep' (id := idn) (by rw [Mem.set_ne _ _ _ _ (Ne.symm hn2)]; exact hn) (preR_wk T 0)) ?_
    refine finI_of (XFin.frz idn (Mem.set_eq _ _ _) (XFin.le (M' := M) (fun k bk hk => ?_) ⟨rfl, .inr ⟨T, ⟨h1, ⟨pl, hH, g3⟩, g2, c1⟩, ?_⟩⟩))
    · obtain ⟨k2, hk2⟩ := hMA _ _ hk
      have k3 : k ≠ idn := fun e => by rw [e, hBn] at hk2; cases hk2
      rw [Mem.set_ne _ _ _ _ (Ne.symm k3), Mem.set_ne _ _ _ _ (Ne.symm k3), Mem.set_ne _ _ _ _ (Ne.symm k2)]
      exact hP2.le _ _ hk2
    · simp only [frzA, frz1, frzL, List.map_cons, List.map_nil, List.length_map, hpl, Nat.zero_add, Nat.le_refl, and_self, if_true, List.drop_zero]
      rw [List.take_of_length_le (by rw [List.length_map, hpl]; exact Nat.le_refl _)]
      rfl
  · have hown := hP2.own
    rw [plB] at hown
    have hN2 := hP2.le _ _ hA2
    have hmt : mayT root ns = false := by
      rw [mayT, mayR, hR]
      simp
    simp -implicitDefEqProofs (maxSteps := 1000000) (disch := omega) only [↓xsP, ↓vc_seq, xsQ, xsT, xsR, xsD, ↓reduceIte, reduceCtorEq, eq_self, ne_eq, imp_self, forall_const, Nat.reduceEqDiff, Nat.reduceAdd, Nat.reduceSub, Nat.reduceMul, Nat.reduceLT, Nat.reduceLeDiff, Nat.reduceBEq, Nat.reduceDiv, Nat.reduceMod, Int.reduceToNat, Int.reduceNeg, Int.reduceAdd, Int.reduceSub, Int.reduceMul, Int.reduceEq, Int.reduceNe, Int.reduceLT, Int.reduceLE, Int.reduceGT, Int.reduceGE, hown]
    refine xquiet (by kernel_rfl) (by kernel_rfl) (by kernel_rfl) ?_
    simp -implicitDefEqProofs (maxSteps := 1000000) (disch := omega) only [↓xsP, ↓vc_seq, xsQ, xsT, xsR, xsD, ↓reduceIte, reduceCtorEq, eq_self, ne_eq, imp_self, forall_const, Nat.reduceEqDiff, Nat.reduceAdd, Nat.reduceSub, Nat.reduceMul, Nat.reduceLT, Nat.reduceLeDiff, Nat.reduceBEq, Nat.reduceDiv, Nat.reduceMod, Int.reduceToNat, Int.reduceNeg, Int.reduceAdd, Int.reduceSub, Int.reduceMul, Int.reduceEq, Int.reduceNe, Int.reduceLT, Int.reduceLE, Int.reduceGT, Int.reduceGE, hown, hN2]
    refine finI_of (XFin.wk (XFin.le (M' := M) (fun k bk hk => ?_) ⟨rfl, .inl ⟨hmt, rfl⟩⟩))
    obtain ⟨k2, hk2⟩ := hMA _ _ hk
    rw [Mem.set_ne _ _ _ _ (Ne.symm k2)]
    exact hP2.le _ _ hk2
theorem hang_pok {ns : List Nd} (hp : Pok ns) {a : Int} {T : Tr} {pl : List Nat} (h : Hang ns a T pl) : ∀ h, Pok (preN h T) := by
  induction h with
  | @leaf i ps st hi hn =>
    intro h x hx
    rw [preN, List.mem_singleton] at hx
    rw [hx, ← hn]
    exact hp _ (getD_mem' ns default hi)
  | @fork i k l r L R pl pr hi hn hl hr ihl ihr =>
    intro h x hx
    rw [preN, List.mem_cons, List.mem_append] at hx
    rcases hx with rfl | hx | hx
    · simp [forkN]
    · exact ihl _ x hx
    · exact ihr _ x hx
theorem preN_inj {T U : Tr} (hT : Wf T ks0) (hs : T.size ≤ 2000) (hU : Wf U ks0) (hs' : U.size ≤ 2000) (h : preN 0 T = preN 0 U) : T = U := by
  have h1 := good_pre hT hs
  rw [h] at h1
  exact h1.uniq (good_pre hU hs')
theorem Good.sz {root : Int} {ns : List Nd} {T : Tr} (h : Good root ns T) : T.size ≤ 2000 := by have := h.few; have := h.all; omega
/-- Two trees are alike, but for places. -/
def Like (r1 : Int) (l : List Nd) (r2 : Int) (m : List Nd) : Prop := ∃ T, Good r1 l T ∧ Good r2 m T
theorem stree_spec (r1 : Int) (l : List Nd) (r2 : Int) (m : List Nd) (hl : l.length ≤ 140737488355328) (hp : Pok l) (hm : m.length ≤ 140737488355328) (hq : Pok m) (M : Mem) :
    XCalls Go.Proofs.Tryd.prog 20 [trA r1 l, trA r2 m] M fun r M' => r = .l (.bool (bof (Like r1 l r2 m))) ∧ M' = M := by
  refine xcalls_intro (rs := [.tmp 4]) Go.Proofs.Tryd.func20 rfl (by kernel_rfl) rfl rfl (by kernel_rfl) (by simp) ?_
  simp -implicitDefEqProofs (maxSteps := 1000000) (disch := omega) only [↓xsP, ↓vc_seq, xsQ, xsT, xsR, xsD, ↓reduceIte, reduceCtorEq, eq_self, ne_eq, imp_self, forall_const, Nat.reduceEqDiff, Nat.reduceAdd, Nat.reduceSub, Nat.reduceMul, Nat.reduceLT, Nat.reduceLeDiff, Nat.reduceBEq, Nat.reduceDiv, Nat.reduceMod, Int.reduceToNat, Int.reduceNeg, Int.reduceAdd, Int.reduceSub, Int.reduceMul, Int.reduceEq, Int.reduceNe, Int.reduceLT, Int.reduceLE, Int.reduceGT, Int.reduceGE, trA]
  refine newI_intro fun id hid => ?_
  simp -implicitDefEqProofs (maxSteps := 1000000) (disch := omega) only [↓xsP, ↓vc_seq, xsQ, xsT, xsR, xsD, ↓reduceIte, reduceCtorEq, eq_self, ne_eq, imp_self, forall_const, Nat.reduceEqDiff, Nat.reduceAdd, Nat.reduceSub, Nat.reduceMul, Nat.reduceLT, Nat.reduceLeDiff, Nat.reduceBEq, Nat.reduceDiv, Nat.reduceMod, Int.reduceToNat, Int.reduceNeg, Int.reduceAdd, Int.reduceSub, Int.reduceMul, Int.reduceEq, Int.reduceNe, Int.reduceLT, Int.reduceLE, Int.reduceGT, Int.reduceGE, trA]
  refine newI_intro fun id2 hid2 => ?_
  obtain ⟨h12, hid2'⟩ := bnd_new hid2
  simp -implicitDefEqProofs (maxSteps := 1000000) (disch := omega) only [↓xsP, ↓vc_seq, xsQ, xsT, xsR, xsD, ↓reduceIte, reduceCtorEq, eq_self, ne_eq, imp_self, forall_const, Nat.reduceEqDiff, Nat.reduceAdd, Nat.reduceSub, Nat.reduceMul, Nat.reduceLT, Nat.reduceLeDiff, Nat.reduceBEq, Nat.reduceDiv, Nat.reduceMod, Int.reduceToNat, Int.reduceNeg, Int.reduceAdd, Int.reduceSub, Int.reduceMul, Int.reduceEq, Int.reduceNe, Int.reduceLT, Int.reduceLE, Int.reduceGT, Int.reduceGE]
  refine callI_of ((rplain_spec r1 l hl hp _).mono ?_)
  have hno1 : mayT r1 l = false → bof (Like r1 l r2 m) = false := fun h => bof_false fun ⟨T, h1, _⟩ => by rw [h1.may] at h; cases h
  have hno2 : mayT r2 m = false → bof (Like r1 l r2 m) = false := fun h => bof_false fun ⟨T, _, h1⟩ => by rw [h1.may] at h; cases h
  rintro _ _ ⟨rfl, (⟨hT, rfl⟩ | ⟨T, hT, rfl⟩)⟩
  · simp -implicitDefEqProofs (maxSteps := 1000000) (disch := omega) only [↓xsP, ↓vc_seq, xsQ, xsT, xsR, xsD, ↓reduceIte, reduceCtorEq, eq_self, ne_eq, imp_self, forall_const, Nat.reduceEqDiff, Nat.reduceAdd, Nat.reduceSub, Nat.reduceMul, Nat.reduceLT, Nat.reduceLeDiff, Nat.reduceBEq, Nat.reduceDiv, Nat.reduceMod, Int.reduceToNat, Int.reduceNeg, Int.reduceAdd, Int.reduceSub, Int.reduceMul, Int.reduceEq, Int.reduceNe, Int.reduceLT, Int.reduceLE, Int.reduceGT, Int.reduceGE, trA]
    refine newI_intro fun id3 hid3 => ?_
    obtain ⟨h23, hid3'⟩ := bnd_new hid3
    simp -implicitDefEqProofs (maxSteps := 1000000) (disch := omega) only [↓xsP, ↓vc_seq, xsQ, xsT, xsR, xsD, ↓reduceIte, reduceCtorEq, eq_self, ne_eq, imp_self, forall_const, Nat.reduceEqDiff, Nat.reduceAdd, Nat.reduceSub, Nat.reduceMul, Nat.reduceLT, Nat.reduceLeDiff, Nat.reduceBEq, Nat.reduceDiv, Nat.reduceMod, Int.reduceToNat, Int.reduceNeg, Int.reduceAdd, Int.reduceSub, Int.reduceMul, Int.reduceEq, Int.reduceNe, Int.reduceLT, Int.reduceLE, Int.reduceGT, Int.reduceGE, trA]
    refine callI_of ((rplain_spec r2 m hm hq _).mono ?_)
    rintro _ _ ⟨rfl, (⟨hU, rfl⟩ | ⟨U, hU, rfl⟩)⟩
    · simp -implicitDefEqProofs (maxSteps := 1000000) (disch := omega) only [↓xsP, ↓vc_seq, xsQ, xsT, xsR, xsD, ↓reduceIte, reduceCtorEq, eq_self, ne_eq, imp_self, forall_const, Nat.reduceEqDiff, Nat.reduceAdd, Nat.reduceSub, Nat.reduceMul, Nat.reduceLT, Nat.reduceLeDiff, Nat.reduceBEq, Nat.reduceDiv, Nat.reduceMod, Int.reduceToNat, Int.reduceNeg, Int.reduceAdd, Int.reduceSub, Int.reduceMul, Int.reduceEq, Int.reduceNe, Int.reduceLT, Int.reduceLE, Int.reduceGT, Int.reduceGE, trA]
      refine newI_intro fun id4 hid4 => ?_
      obtain ⟨h34, hid4'⟩ := bnd_new hid4
      simp -implicitDefEqProofs (maxSteps := 1000000) (disch := omega) only [↓xsP, ↓vc_seq, xsQ, xsT, xsR, xsD, ↓reduceIte, reduceCtorEq, eq_self, ne_eq, imp_self, forall_const, Nat.reduceEqDiff, Nat.reduceAdd, Nat.reduceSub, Nat.reduceMul, Nat.reduceLT, Nat.reduceLeDiff, Nat.reduceBEq, Nat.reduceDiv, Nat.reduceMod, Int.reduceToNat, Int.reduceNeg, Int.reduceAdd, Int.reduceSub, Int.reduceMul, Int.reduceEq, Int.reduceNe, Int.reduceLT, Int.reduceLE, Int.reduceGT, Int.reduceGE, trA]
      refine fin_ok (fun k bk hk => ?_) ⟨by rw [hno1 hT], rfl⟩
      have := lt_of_bnd hid hk
      simp (disch := omega) only [Mem.set_ne, hk]
    · simp -implicitDefEqProofs (maxSteps := 1000000) (disch := omega) only [↓xsP, ↓vc_seq, xsQ, xsT, xsR, xsD, ↓reduceIte, reduceCtorEq, eq_self, ne_eq, imp_self, forall_const, Nat.reduceEqDiff, Nat.reduceAdd, Nat.reduceSub, Nat.reduceMul, Nat.reduceLT, Nat.reduceLeDiff, Nat.reduceBEq, Nat.reduceDiv, Nat.reduceMod, Int.reduceToNat, Int.reduceNeg, Int.reduceAdd, Int.reduceSub, Int.reduceMul, Int.reduceEq, Int.reduceNe, Int.reduceLT, Int.reduceLE, Int.reduceGT, Int.reduceGE, trA]
      refine newI_intro fun id4 hid4 => ?_
      obtain ⟨h34, hid4'⟩ := bnd_new hid4
      simp -implicitDefEqProofs (maxSteps := 1000000) (disch := omega) only [↓xsP, ↓vc_seq, xsQ, xsT, xsR, xsD, ↓reduceIte, reduceCtorEq, eq_self, ne_eq, imp_self, forall_const, Nat.reduceEqDiff, Nat.reduceAdd, Nat.reduceSub, Nat.reduceMul, Nat.reduceLT, Nat.reduceLeDiff, Nat.reduceBEq, Nat.reduceDiv, Nat.reduceMod, Int.reduceToNat, Int.reduceNeg, Int.reduceAdd, Int.reduceSub, Int.reduceMul, Int.reduceEq, Int.reduceNe, Int.reduceLT, Int.reduceLE, Int.reduceGT, Int.reduceGE, trA]
      refine fin_ok (fun k bk hk => ?_) ⟨by rw [hno1 hT], rfl⟩
      have := lt_of_bnd hid hk
      simp (disch := omega) only [Mem.set_ne, hk]
  · simp -implicitDefEqProofs (maxSteps := 1000000) (disch := omega) only [↓xsP, ↓vc_seq, xsQ, xsT, xsR, xsD, ↓reduceIte, reduceCtorEq, eq_self, ne_eq, imp_self, forall_const, Nat.reduceEqDiff, Nat.reduceAdd, Nat.reduceSub, Nat.reduceMul, Nat.reduceLT, Nat.reduceLeDiff, Nat.reduceBEq, Nat.reduceDiv, Nat.reduceMod, Int.reduceToNat, Int.reduceNeg, Int.reduceAdd, Int.reduceSub, Int.reduceMul, Int.reduceEq, Int.reduceNe, Int.reduceLT, Int.reduceLE, Int.reduceGT, Int.reduceGE, trA]
    refine newI_intro fun id3 hid3 => ?_
    obtain ⟨h23, hid3'⟩ := bnd_new hid3
    simp -implicitDefEqProofs (maxSteps := 1000000) (disch := omega) only [↓xsP, ↓vc_seq, xsQ, xsT, xsR, xsD, ↓reduceIte, reduceCtorEq, eq_self, ne_eq, imp_self, forall_const, Nat.reduceEqDiff, Nat.reduceAdd, Nat.reduceSub, Nat.reduceMul, Nat.reduceLT, Nat.reduceLeDiff, Nat.reduceBEq, Nat.reduceDiv, Nat.reduceMod, Int.reduceToNat, Int.reduceNeg, Int.reduceAdd, Int.reduceSub, Int.reduceMul, Int.reduceEq, Int.reduceNe, Int.reduceLT, Int.reduceLE, Int.reduceGT, Int.reduceGE, trA]
    refine callI_of ((rplain_spec r2 m hm hq _).mono ?_)
    rintro _ _ ⟨rfl, (⟨hU, rfl⟩ | ⟨U, hU, rfl⟩)⟩
    · simp -implicitDefEqProofs (maxSteps := 1000000) (disch := omega) only [↓xsP, ↓vc_seq, xsQ, xsT, xsR, xsD, ↓reduceIte, reduceCtorEq, eq_self, ne_eq, imp_self, forall_const, Nat.reduceEqDiff, Nat.reduceAdd, Nat.reduceSub, Nat.reduceMul, Nat.reduceLT, Nat.reduceLeDiff, Nat.reduceBEq, Nat.reduceDiv, Nat.reduceMod, Int.reduceToNat, Int.reduceNeg, Int.reduceAdd, Int.reduceSub, Int.reduceMul, Int.reduceEq, Int.reduceNe, Int.reduceLT, Int.reduceLE, Int.reduceGT, Int.reduceGE, trA]
      refine newI_intro fun id4 hid4 => ?_
      obtain ⟨h34, hid4'⟩ := bnd_new hid4
      simp -implicitDefEqProofs (maxSteps := 1000000) (disch := omega) only [↓xsP, ↓vc_seq, xsQ, xsT, xsR, xsD, ↓reduceIte, reduceCtorEq, eq_self, ne_eq, imp_self, forall_const, Nat.reduceEqDiff, Nat.reduceAdd, Nat.reduceSub, Nat.reduceMul, Nat.reduceLT, Nat.reduceLeDiff, Nat.reduceBEq, Nat.reduceDiv, Nat.reduceMod, Int.reduceToNat, Int.reduceNeg, Int.reduceAdd, Int.reduceSub, Int.reduceMul, Int.reduceEq, Int.reduceNe, Int.reduceLT, Int.reduceLE, Int.reduceGT, Int.reduceGE, trA]
      refine fin_ok (fun k bk hk => ?_) ⟨by rw [hno2 hU], rfl⟩
      have := lt_of_bnd hid hk
      simp (disch := omega) only [Mem.set_ne, hk]
    · simp -implicitDefEqProofs (maxSteps := 1000000) (disch := omega) only [↓xsP, ↓vc_seq, xsQ, xsT, xsR, xsD, ↓reduceIte, reduceCtorEq, eq_self, ne_eq, imp_self, forall_const, Nat.reduceEqDiff, Nat.reduceAdd, Nat.reduceSub, Nat.reduceMul, Nat.reduceLT, Nat.reduceLeDiff, Nat.reduceBEq, Nat.reduceDiv, Nat.reduceMod, Int.reduceToNat, Int.reduceNeg, Int.reduceAdd, Int.reduceSub, Int.reduceMul, Int.reduceEq, Int.reduceNe, Int.reduceLT, Int.reduceLE, Int.reduceGT, Int.reduceGE, trA]
      refine newI_intro fun id4 hid4 => ?_
      obtain ⟨h34, hid4'⟩ := bnd_new hid4
      simp -implicitDefEqProofs (maxSteps := 1000000) (disch := omega) only [↓xsP, ↓vc_seq, xsQ, xsT, xsR, xsD, ↓reduceIte, reduceCtorEq, eq_self, ne_eq, imp_self, forall_const, Nat.reduceEqDiff, Nat.reduceAdd, Nat.reduceSub, Nat.reduceMul, Nat.reduceLT, Nat.reduceLeDiff, Nat.reduceBEq, Nat.reduceDiv, Nat.reduceMod, Int.reduceToNat, Int.reduceNeg, Int.reduceAdd, Int.reduceSub, Int.reduceMul, Int.reduceEq, Int.reduceNe, Int.reduceLT, Int.reduceLE, Int.reduceGT, Int.reduceGE, trA]
      refine callI_of ((sraw_spec 0 0 (preN 0 T) (preN 0 U) (by rw [preN_len]; have := hT.sz; omega) (by obtain ⟨pl, hH, _⟩ := hT.hang; exact hang_pok hp hH 0) _).mono ?_)
      rintro _ _ ⟨rfl, rfl⟩
      simp -implicitDefEqProofs (maxSteps := 1000000) (disch := omega) only [↓xsP, ↓vc_seq, xsQ, xsT, xsR, xsD, ↓reduceIte, reduceCtorEq, eq_self, ne_eq, imp_self, forall_const, Nat.reduceEqDiff, Nat.reduceAdd, Nat.reduceSub, Nat.reduceMul, Nat.reduceLT, Nat.reduceLeDiff, Nat.reduceBEq, Nat.reduceDiv, Nat.reduceMod, Int.reduceToNat, Int.reduceNeg, Int.reduceAdd, Int.reduceSub, Int.reduceMul, Int.reduceEq, Int.reduceNe, Int.reduceLT, Int.reduceLE, Int.reduceGT, Int.reduceGE, trA]
      refine fin_ok (fun k bk hk => ?_) ⟨?_, rfl⟩
      · have := lt_of_bnd hid hk
        simp (disch := omega) only [Mem.set_ne, hk]
      · refine congrArg (fun b => AV.l (.bool b)) (bof_congr ⟨fun h => ?_, fun ⟨V, h1, h2⟩ => ?_⟩)
        · obtain rfl := preN_inj hT.wf hT.sz hU.wf hU.sz h
          exact ⟨T, hT, hU⟩
        · rw [hT.uniq h1, hU.uniq h2]
end Go.X
set_option linter.unusedVariables false
set_option linter.unusedSimpArgs false
set_option maxHeartbeats 20000000
set_option maxRecDepth 100000
namespace Go.X
open Go.Proofs.Tryd (prog)

theorem bnd_le {M N : Mem} (h : M.le N) {id : Nat} (hid : ∀ j, id ≤ j → N j = none) : ∀ j, id ≤ j → M j = none := fun j hj => by
  cases hm : M j with
  | none => rfl
  | some bk => have := h _ _ hm; rw [hid j hj] at this; cases this
def psum (l : List Nd) : Nat := (l.map fun x => x.pairs.length).sum
theorem psum_take {l : List Nd} {i : Nat} (h : i < l.length) : psum (l.take (i + 1)) = psum (l.take i) + (l.getD i default).pairs.length := by
  rw [take_sc l default h, psum, List.map_append, List.sum_append]
  simp [psum]
theorem psum_le {l : List Nd} (hp : Pok l) (i : Nat) : psum (l.take i) ≤ 8796093022200 * i := by
  induction i with
  | zero => exact Nat.zero_le _
  | succ i ih =>
    by_cases h : i < l.length
    · rw [psum_take h]
      have := hp _ (getD_mem' l default h)
      omega
    · rw [List.take_of_length_le (by omega)]
      rw [List.take_of_length_le (by omega)] at ih
      omega
def lgt (l : List Nd) : Int := if l.length ≤ 450 ∧ psum l ≤ 2000 then 0 else 1
theorem light14_spec (root : Int) (ns : List Nd) (hl : ns.length ≤ 140737488355328) (hp : Pok ns) (M : Mem) : XCalls Go.Proofs.Tryd.prog 8 [trA root ns] M fun r M' => r = .l (.int .i64 (lgt ns)) ∧ M' = M := by
  refine xcalls_intro (rs := [.tmp 2]) Go.Proofs.Tryd.func8 rfl (by kernel_rfl) rfl rfl (by kernel_rfl) (by simp) ?_
  simp -implicitDefEqProofs (maxSteps := 1000000) (disch := omega) only [↓xsP, ↓vc_seq, xsQ, xsT, xsR, xsD, ↓reduceIte, reduceCtorEq, eq_self, ne_eq, imp_self, forall_const, Nat.reduceEqDiff, Nat.reduceAdd, Nat.reduceSub, Nat.reduceMul, Nat.reduceLT, Nat.reduceLeDiff, Nat.reduceBEq, Nat.reduceDiv, Nat.reduceMod, Int.reduceToNat, Int.reduceNeg, Int.reduceAdd, Int.reduceSub, Int.reduceMul, Int.reduceEq, Int.reduceNe, Int.reduceLT, Int.reduceLE, Int.reduceGT, Int.reduceGE, trA]
  refine newI_intro fun id hid => ?_
  have hN := Mem.set_eq M id (.cells 24 [[.int .i64 root, .sl (ns.map Nd.row)]] 0)
  simp -implicitDefEqProofs (maxSteps := 1000000) (disch := omega) only [↓xsP, ↓vc_seq, xsQ, xsT, xsR, xsD, ↓reduceIte, reduceCtorEq, eq_self, ne_eq, imp_self, forall_const, Nat.reduceEqDiff, Nat.reduceAdd, Nat.reduceSub, Nat.reduceMul, Nat.reduceLT, Nat.reduceLeDiff, Nat.reduceBEq, Nat.reduceDiv, Nat.reduceMod, Int.reduceToNat, Int.reduceNeg, Int.reduceAdd, Int.reduceSub, Int.reduceMul, Int.reduceEq, Int.reduceNe, Int.reduceLT, Int.reduceLE, Int.reduceGT, Int.reduceGE, trA]
  refine loopI_of (xloop (by kernel_rfl) (fun k fr M' => ∃ i : Nat, ∃ v : Int, i ≤ ns.length ∧ k = ns.length - i ∧ fr 1 = .l (.ptr id 0 0) ∧ fr 7 = .l (.sl (ns.map Nd.row)) ∧ fr 8 = .l (.int .i64 ns.length) ∧ fr 9 = .l (.int .i64 i) ∧ fr 3 = .l (.int .i64 v) ∧ M' id = some (.cells 24 [[.int .i64 root, .sl (ns.map Nd.row)]] 0) ∧ M.le M' ∧ (ns.length ≤ 450 → v = (psum (ns.take i) : Nat))) ns.length ?_ ?_)
  · refine ⟨0, 0, Nat.zero_le _, rfl, by simp -implicitDefEqProofs (maxSteps := 1000000) (disch := omega) only [↓xsP, ↓vc_seq, xsQ, xsT, xsR, xsD, ↓reduceIte, reduceCtorEq, eq_self, ne_eq, imp_self, forall_const, Nat.reduceEqDiff, Nat.reduceAdd, Nat.reduceSub, Nat.reduceMul, Nat.reduceLT, Nat.reduceLeDiff, Nat.reduceBEq, Nat.reduceDiv, Nat.reduceMod, Int.reduceToNat, Int.reduceNeg, Int.reduceAdd, Int.reduceSub, Int.reduceMul, Int.reduceEq, Int.reduceNe, Int.reduceLT, Int.reduceLE, Int.reduceGT, Int.reduceGE], by simp -implicitDefEqProofs (maxSteps := 1000000) (disch := omega) only [↓xsP, ↓vc_seq, xsQ, xsT, xsR, xsD, ↓reduceIte, reduceCtorEq, eq_self, ne_eq, imp_self, forall_const, Nat.reduceEqDiff, Nat.reduceAdd, Nat.reduceSub, Nat.reduceMul, Nat.reduceLT, Nat.reduceLeDiff, Nat.reduceBEq, Nat.reduceDiv, Nat.reduceMod, Int.reduceToNat, Int.reduceNeg, Int.reduceAdd, Int.reduceSub, Int.reduceMul, Int.reduceEq, Int.reduceNe, Int.reduceLT, Int.reduceLE, Int.reduceGT, Int.reduceGE], by simp -implicitDefEqProofs (maxSteps := 1000000) (disch := omega) only [↓xsP, ↓vc_seq, xsQ, xsT, xsR, xsD, ↓reduceIte, reduceCtorEq, eq_self, ne_eq, imp_self, forall_const, Nat.reduceEqDiff, Nat.reduceAdd, Nat.reduceSub, Nat.reduceMul, Nat.reduceLT, Nat.reduceLeDiff, Nat.reduceBEq, Nat.reduceDiv, Nat.reduceMod, Int.reduceToNat, Int.reduceNeg, Int.reduceAdd, Int.reduceSub, Int.reduceMul, Int.reduceEq, Int.reduceNe, Int.reduceLT, Int.reduceLE, Int.reduceGT, Int.reduceGE], by simp -implicitDefEqProofs (maxSteps := 1000000) (disch := omega) only [↓xsP, ↓vc_seq, xsQ, xsT, xsR, xsD, ↓reduceIte, reduceCtorEq, eq_self, ne_eq, imp_self, forall_const, Nat.reduceEqDiff, Nat.reduceAdd, Nat.reduceSub, Nat.reduceMul, Nat.reduceLT, Nat.reduceLeDiff, Nat.reduceBEq, Nat.reduceDiv, Nat.reduceMod, Int.reduceToNat, Int.reduceNeg, Int.reduceAdd, Int.reduceSub, Int.reduceMul, Int.reduceEq, Int.reduceNe, Int.reduceLT, Int.reduceLE, Int.reduceGT, Int.reduceGE, Int.cast_ofNat_Int], by simp -implicitDefEqProofs (maxSteps := 1000000) (disch := omega) only [↓xsP, ↓vc_seq, xsQ, xsT, xsR, xsD, ↓reduceIte, reduceCtorEq, eq_self, ne_eq, imp_self, forall_const, Nat.reduceEqDiff, Nat.reduceAdd, Nat.reduceSub, Nat.reduceMul, Nat.reduceLT, Nat.reduceLeDiff, Nat.reduceBEq, Nat.reduceDiv, Nat.reduceMod, Int.reduceToNat, Int.reduceNeg, Int.reduceAdd, Int.reduceSub, Int.reduceMul, Int.reduceEq, Int.reduceNe, Int.reduceLT, Int.reduceLE, Int.reduceGT, Int.reduceGE], hN, le_new (Mem.le_refl _) hid, fun _ => by simp [psum]⟩
  · rintro k fr M' ⟨i, v, hi, rfl, f1, f7, f8, f9, f3, hM, hle, hv⟩
    simp -implicitDefEqProofs (maxSteps := 1000000) (disch := omega) only [↓xsP, ↓vc_seq, xsQ, xsT, xsR, xsD, ↓reduceIte, reduceCtorEq, eq_self, ne_eq, imp_self, forall_const, Nat.reduceEqDiff, Nat.reduceAdd, Nat.reduceSub, Nat.reduceMul, Nat.reduceLT, Nat.reduceLeDiff, Nat.reduceBEq, Nat.reduceDiv, Nat.reduceMod, Int.reduceToNat, Int.reduceNeg, Int.reduceAdd, Int.reduceSub, Int.reduceMul, Int.reduceEq, Int.reduceNe, Int.reduceLT, Int.reduceLE, Int.reduceGT, Int.reduceGE, f1, f7, f8, f9, f3]
    refine condI_prop (fun hlt => ?_) (fun hlt => ?_)
    · have hil : i < ns.length := by omega
      obtain ⟨x, hx⟩ : ∃ x, ns.getD i default = x := ⟨_, rfl⟩
      have hpx : x.pairs.length ≤ 8796093022200 := by rw [← hx]; exact hp _ (getD_mem' ns default hil)
      simp -implicitDefEqProofs (maxSteps := 1000000) (disch := omega) only [↓xsP, ↓vc_seq, xsQ, xsT, xsR, xsD, ↓reduceIte, reduceCtorEq, eq_self, ne_eq, imp_self, forall_const, Nat.reduceEqDiff, Nat.reduceAdd, Nat.reduceSub, Nat.reduceMul, Nat.reduceLT, Nat.reduceLeDiff, Nat.reduceBEq, Nat.reduceDiv, Nat.reduceMod, Int.reduceToNat, Int.reduceNeg, Int.reduceAdd, Int.reduceSub, Int.reduceMul, Int.reduceEq, Int.reduceNe, Int.reduceLT, Int.reduceLE, Int.reduceGT, Int.reduceGE, f1, f7, f8, f9, f3, hx, row_nd]
      refine newI_intro fun id5 hid5 => ?_
      have h5 := Mem.set_eq M' id5 (.cells 46 [[.bool x.route, .int .i64 x.key, .int .i64 x.left, .int .i64 x.right, .sl (x.pairs.map Pr.row), .int .i64 x.stat]] 0)
      simp -implicitDefEqProofs (maxSteps := 1000000) (disch := omega) only [↓xsP, ↓vc_seq, xsQ, xsT, xsR, xsD, ↓reduceIte, reduceCtorEq, eq_self, ne_eq, imp_self, forall_const, Nat.reduceEqDiff, Nat.reduceAdd, Nat.reduceSub, Nat.reduceMul, Nat.reduceLT, Nat.reduceLeDiff, Nat.reduceBEq, Nat.reduceDiv, Nat.reduceMod, Int.reduceToNat, Int.reduceNeg, Int.reduceAdd, Int.reduceSub, Int.reduceMul, Int.reduceEq, Int.reduceNe, Int.reduceLT, Int.reduceLE, Int.reduceGT, Int.reduceGE, f1, f7, f8, f9, f3, hx, row_nd]
      refine ⟨ns.length - (i + 1), _, by omega, Mem.le_refl _, i + 1, _, by omega, rfl, by simp, rfl, ?_, ?_, fun h => ?_⟩
      · have := lt_of_bnd hid5 hM
        rw [Mem.set_ne _ _ _ _ (by omega)]; exact hM
      · exact le_new hle (bnd_le hle hid5)
      · have h1 := psum_le hp i
        rw [hv h, psum_take hil, hx, IntKind.wrap_i64]
        omega
    · have hil : i = ns.length := by omega
      subst hil
      rw [List.take_of_length_le (Nat.le_refl _)] at hv
      by_cases c1 : ns.length ≤ 450
      rotate_left
      · have q1 : decide ((ns.length : Int) > 450) = true := decide_eq_true (by omega)
        simp -implicitDefEqProofs (maxSteps := 1000000) (disch := omega) only [↓xsP, ↓vc_seq, xsQ, xsT, xsR, xsD, ↓reduceIte, reduceCtorEq, eq_self, ne_eq, imp_self, forall_const, Nat.reduceEqDiff, Nat.reduceAdd, Nat.reduceSub, Nat.reduceMul, Nat.reduceLT, Nat.reduceLeDiff, Nat.reduceBEq, Nat.reduceDiv, Nat.reduceMod, Int.reduceToNat, Int.reduceNeg, Int.reduceAdd, Int.reduceSub, Int.reduceMul, Int.reduceEq, Int.reduceNe, Int.reduceLT, Int.reduceLE, Int.reduceGT, Int.reduceGE, f1, f7, f8, f9, f3, hM, q1]
        exact fin_ok hle ⟨by rw [lgt, if_neg (fun h => c1 h.1)], rfl⟩
      have q1 : decide ((ns.length : Int) > 450) = false := decide_eq_false (by omega)
      by_cases c2 : psum ns ≤ 2000
      rotate_left
      · have q2 : decide (v > 2000) = true := decide_eq_true (by rw [hv c1]; omega)
        simp -implicitDefEqProofs (maxSteps := 1000000) (disch := omega) only [↓xsP, ↓vc_seq, xsQ, xsT, xsR, xsD, ↓reduceIte, reduceCtorEq, eq_self, ne_eq, imp_self, forall_const, Nat.reduceEqDiff, Nat.reduceAdd, Nat.reduceSub, Nat.reduceMul, Nat.reduceLT, Nat.reduceLeDiff, Nat.reduceBEq, Nat.reduceDiv, Nat.reduceMod, Int.reduceToNat, Int.reduceNeg, Int.reduceAdd, Int.reduceSub, Int.reduceMul, Int.reduceEq, Int.reduceNe, Int.reduceLT, Int.reduceLE, Int.reduceGT, Int.reduceGE, f1, f7, f8, f9, f3, hM, q1, q2]
        exact fin_ok hle ⟨by rw [lgt, if_neg (fun h => c2 h.2)], rfl⟩
      have q2 : decide (v > 2000) = false := decide_eq_false (by rw [hv c1]; omega)
      simp -implicitDefEqProofs (maxSteps := 1000000) (disch := omega) only [↓xsP, ↓vc_seq, xsQ, xsT, xsR, xsD, ↓reduceIte, reduceCtorEq, eq_self, ne_eq, imp_self, forall_const, Nat.reduceEqDiff, Nat.reduceAdd, Nat.reduceSub, Nat.reduceMul, Nat.reduceLT, Nat.reduceLeDiff, Nat.reduceBEq, Nat.reduceDiv, Nat.reduceMod, Int.reduceToNat, Int.reduceNeg, Int.reduceAdd, Int.reduceSub, Int.reduceMul, Int.reduceEq, Int.reduceNe, Int.reduceLT, Int.reduceLE, Int.reduceGT, Int.reduceGE, f1, f7, f8, f9, f3, hM, q1, q2]
      exact fin_ok hle ⟨by rw [lgt, if_pos ⟨c1, c2⟩], rfl⟩
end Go.X
set_option linter.unusedVariables false
set_option linter.unusedSimpArgs false
set_option maxHeartbeats 20000000
set_option maxRecDepth 100000
namespace Go.X
open Go.Proofs.Tryd (prog)

theorem route_spec (B : Mem) (id f : Nat) (ih : ∀ g, g ≤ f → NodeP B id g) (s : List UInt8) (rows : List (List Lf)) (ph : List Lf) (xn : Lf) (N : Mem) (hs : s.length ≤ 1000000) (hf : rows.length + 1 + f ≤ 100000) (h6 : R6 (rows ++ [ph])) (hR : RSt B N id s f (rows ++ [ph]) xn) :
    XCalls Go.Proofs.Tryd.prog 40 [.l (.ptr id 0 0), .l (.int .i64 rows.length)] N (RouteK B id s f rows) := by
  refine xcalls_intro (rs := [.tmp 4]) Go.Proofs.Tryd.func40 rfl (by kernel_rfl) rfl rfl (by kernel_rfl) (by simp) ?_
  simp -implicitDefEqProofs (maxSteps := 1000000) (disch := omega) only [↓xsP, ↓vc_seq, xsQ, xsT, xsR, xsD, ↓reduceIte, reduceCtorEq, eq_self, ne_eq, imp_self, forall_const, Nat.reduceEqDiff, Nat.reduceAdd, Nat.reduceSub, Nat.reduceMul, Nat.reduceLT, Nat.reduceLeDiff, Nat.reduceBEq, Nat.reduceDiv, Nat.reduceMod, Int.reduceToNat, Int.reduceNeg, Int.reduceAdd, Int.reduceSub, Int.reduceMul, Int.reduceEq, Int.reduceNe, Int.reduceLT, Int.reduceLE, Int.reduceGT, Int.reduceGE]
  refine callI_of ((ih f (Nat.le_refl _) s (rows ++ [ph]) xn N hs (by simp; omega) h6 hR).mono ?_)
  rintro r' N1 (⟨T, t, f1, xn1, hT, hsz, rfl, hR1⟩ | ⟨hno, n, s1, left1, rows1, xn1, rfl, hR1, hl1, hl2, h61⟩)
  rotate_left
  · simp -implicitDefEqProofs (maxSteps := 1000000) (disch := omega) only [↓xsP, ↓vc_seq, xsQ, xsT, xsR, xsD, ↓reduceIte, reduceCtorEq, eq_self, ne_eq, imp_self, forall_const, Nat.reduceEqDiff, Nat.reduceAdd, Nat.reduceSub, Nat.reduceMul, Nat.reduceLT, Nat.reduceLeDiff, Nat.reduceBEq, Nat.reduceDiv, Nat.reduceMod, Int.reduceToNat, Int.reduceNeg, Int.reduceAdd, Int.reduceSub, Int.reduceMul, Int.reduceEq, Int.reduceNe, Int.reduceLT, Int.reduceLE, Int.reduceGT, Int.reduceGE]
    refine fin_ok (Mem.le_refl _) (.inr ⟨fun k L R t ⟨b, c, g1, g2, g3⟩ => ?_, s1, left1, rows1, xn1, rfl, hR1, by simp at hl1; omega, by simp at hl2; omega, h61⟩)
    have := hno _ _ g1
    omega
  have htl := treeAt_len hT
  simp -implicitDefEqProofs (maxSteps := 1000000) (disch := omega) only [↓xsP, ↓vc_seq, xsQ, xsT, xsR, xsD, ↓reduceIte, reduceCtorEq, eq_self, ne_eq, imp_self, forall_const, Nat.reduceEqDiff, Nat.reduceAdd, Nat.reduceSub, Nat.reduceMul, Nat.reduceLT, Nat.reduceLeDiff, Nat.reduceBEq, Nat.reduceDiv, Nat.reduceMod, Int.reduceToNat, Int.reduceNeg, Int.reduceAdd, Int.reduceSub, Int.reduceMul, Int.reduceEq, Int.reduceNe, Int.reduceLT, Int.reduceLE, Int.reduceGT, Int.reduceGE]
  refine callI_of ((sign_spec t f1 xn1 32 id N1 hR1.own).mono ?_)
  rintro _ _ ⟨rfl, rfl⟩
  have hcl := cutc_len 32 t
  have hR2 := hR1.set (cutc 32 t) f1
  generalize N1.set id (rdB (cutc 32 t) f1 xn1) = N2 at hR2 ⊢
  have hrl : ((rows ++ [ph]) ++ preR (rows ++ [ph]).length T).length = rows.length + 1 + T.size := by simp [preR_len]; omega
  have h6a : R6 ((rows ++ [ph]) ++ preR (rows ++ [ph]).length T) := fun r hr => by
    rcases List.mem_append.1 hr with hr | hr
    · exact h6 r hr
    · exact preR_6 _ _ r hr
  by_cases h32 : t.head? = some 32
  rotate_left
  · rw [decide_eq_false h32]
    simp -implicitDefEqProofs (maxSteps := 1000000) (disch := omega) only [↓xsP, ↓vc_seq, xsQ, xsT, xsR, xsD, ↓reduceIte, reduceCtorEq, eq_self, ne_eq, imp_self, forall_const, Nat.reduceEqDiff, Nat.reduceAdd, Nat.reduceSub, Nat.reduceMul, Nat.reduceLT, Nat.reduceLeDiff, Nat.reduceBEq, Nat.reduceDiv, Nat.reduceMod, Int.reduceToNat, Int.reduceNeg, Int.reduceAdd, Int.reduceSub, Int.reduceMul, Int.reduceEq, Int.reduceNe, Int.reduceLT, Int.reduceLE, Int.reduceGT, Int.reduceGE]
    refine fin_ok (Mem.le_refl _) (.inr ⟨fun k L R t' ⟨b, c, g1, g2, g3⟩ => ?_, _, _, _, _, rfl, hR2, by rw [hrl]; omega, by rw [hrl]; omega, h6a⟩)
    obtain ⟨rfl, e⟩ := treeAt_uniq g1 hT
    rw [← e] at h32
    exact absurd rfl h32
  rw [decide_eq_true h32]
  have ht32 := cutc_eq h32
  obtain ⟨s2, hs2⟩ : ∃ s2, cutc 32 t = s2 := ⟨_, rfl⟩
  rw [hs2] at hR2 ht32 hcl
  simp -implicitDefEqProofs (maxSteps := 1000000) (disch := omega) only [↓xsP, ↓vc_seq, xsQ, xsT, xsR, xsD, ↓reduceIte, reduceCtorEq, eq_self, ne_eq, imp_self, forall_const, Nat.reduceEqDiff, Nat.reduceAdd, Nat.reduceSub, Nat.reduceMul, Nat.reduceLT, Nat.reduceLeDiff, Nat.reduceBEq, Nat.reduceDiv, Nat.reduceMod, Int.reduceToNat, Int.reduceNeg, Int.reduceAdd, Int.reduceSub, Int.reduceMul, Int.reduceEq, Int.reduceNe, Int.reduceLT, Int.reduceLE, Int.reduceGT, Int.reduceGE]
  refine callI_of ((number_spec s2 (by omega) f1 xn1 id N2 hR2.own).mono ?_)
  have hd1 : (s2.drop (tok s2).length).length ≤ s2.length := by rw [List.length_drop]; omega
  obtain ⟨s3, hs3⟩ : ∃ s3, s2.drop (tok s2).length = s3 := ⟨_, rfl⟩
  rw [hs3] at hd1 ⊢
  rintro _ _ ⟨rfl, h⟩
  have hR3 := hR2.set s3 f1
  generalize N2.set id (rdB s3 f1 xn1) = N3 at hR3 ⊢
  rcases h with ⟨v, hv, rfl⟩ | ⟨hno, n, rfl⟩
  rotate_left
  · simp -implicitDefEqProofs (maxSteps := 1000000) (disch := omega) only [↓xsP, ↓vc_seq, xsQ, xsT, xsR, xsD, ↓reduceIte, reduceCtorEq, eq_self, ne_eq, imp_self, forall_const, Nat.reduceEqDiff, Nat.reduceAdd, Nat.reduceSub, Nat.reduceMul, Nat.reduceLT, Nat.reduceLeDiff, Nat.reduceBEq, Nat.reduceDiv, Nat.reduceMod, Int.reduceToNat, Int.reduceNeg, Int.reduceAdd, Int.reduceSub, Int.reduceMul, Int.reduceEq, Int.reduceNe, Int.reduceLT, Int.reduceLE, Int.reduceGT, Int.reduceGE]
    refine fin_ok (Mem.le_refl _) (.inr ⟨fun k L R t' ⟨b, c, g1, g2, g3⟩ => ?_, _, _, _, _, rfl, hR3, by rw [hrl]; omega, by rw [hrl]; omega, h6a⟩)
    obtain ⟨rfl, e⟩ := treeAt_uniq g1 hT
    rw [ht32] at e
    injection e with _ e
    rw [e] at g2
    exact absurd g2 (hno _ _)
  simp -implicitDefEqProofs (maxSteps := 1000000) (disch := omega) only [↓xsP, ↓vc_seq, xsQ, xsT, xsR, xsD, ↓reduceIte, reduceCtorEq, eq_self, ne_eq, imp_self, forall_const, Nat.reduceEqDiff, Nat.reduceAdd, Nat.reduceSub, Nat.reduceMul, Nat.reduceLT, Nat.reduceLeDiff, Nat.reduceBEq, Nat.reduceDiv, Nat.reduceMod, Int.reduceToNat, Int.reduceNeg, Int.reduceAdd, Int.reduceSub, Int.reduceMul, Int.reduceEq, Int.reduceNe, Int.reduceLT, Int.reduceLE, Int.reduceGT, Int.reduceGE]
  refine callI_of ((sign_spec s3 f1 xn1 32 id N3 hR3.own).mono ?_)
  rintro _ _ ⟨rfl, rfl⟩
  have hcl3 := cutc_len 32 s3
  have hR4 := hR3.set (cutc 32 s3) f1
  generalize N3.set id (rdB (cutc 32 s3) f1 xn1) = N4 at hR4 ⊢
  by_cases h32b : s3.head? = some 32
  rotate_left
  · rw [decide_eq_false h32b]
    simp -implicitDefEqProofs (maxSteps := 1000000) (disch := omega) only [↓xsP, ↓vc_seq, xsQ, xsT, xsR, xsD, ↓reduceIte, reduceCtorEq, eq_self, ne_eq, imp_self, forall_const, Nat.reduceEqDiff, Nat.reduceAdd, Nat.reduceSub, Nat.reduceMul, Nat.reduceLT, Nat.reduceLeDiff, Nat.reduceBEq, Nat.reduceDiv, Nat.reduceMod, Int.reduceToNat, Int.reduceNeg, Int.reduceAdd, Int.reduceSub, Int.reduceMul, Int.reduceEq, Int.reduceNe, Int.reduceLT, Int.reduceLE, Int.reduceGT, Int.reduceGE]
    refine fin_ok (Mem.le_refl _) (.inr ⟨fun k L R t' ⟨b, c, g1, g2, g3⟩ => ?_, _, _, _, _, rfl, hR4, by rw [hrl]; omega, by rw [hrl]; omega, h6a⟩)
    obtain ⟨rfl, e⟩ := treeAt_uniq g1 hT
    rw [ht32] at e
    injection e with _ e
    rw [e] at g2
    have := (numAt_uniq g2 hv).2
    rw [← this] at h32b
    exact absurd rfl h32b
  rw [decide_eq_true h32b]
  have hs32 := cutc_eq h32b
  obtain ⟨s4, hs4⟩ : ∃ s4, cutc 32 s3 = s4 := ⟨_, rfl⟩
  rw [hs4] at hR4 hs32 hcl3
  simp -implicitDefEqProofs (maxSteps := 1000000) (disch := omega) only [↓xsP, ↓vc_seq, xsQ, xsT, xsR, xsD, ↓reduceIte, reduceCtorEq, eq_self, ne_eq, imp_self, forall_const, Nat.reduceEqDiff, Nat.reduceAdd, Nat.reduceSub, Nat.reduceMul, Nat.reduceLT, Nat.reduceLeDiff, Nat.reduceBEq, Nat.reduceDiv, Nat.reduceMod, Int.reduceToNat, Int.reduceNeg, Int.reduceAdd, Int.reduceSub, Int.reduceMul, Int.reduceEq, Int.reduceNe, Int.reduceLT, Int.reduceLE, Int.reduceGT, Int.reduceGE]
  have hTs := T.size_pos
  refine callI_of ((ih f1 (by omega) s4 _ xn1 N4 (by omega) (by rw [hrl]; omega) h6a hR4).mono ?_)
  rintro r' N5 h
  obtain ⟨nr, ok, s5, left5, rows5, xn5, rfl, hR5, hlen5, hlen5b, h65, hrest⟩ : ∃ nr ok s5 left5 rows5 xn5, r' = .tup [.l (.int .i64 nr), .l (.bool ok)] ∧ RSt B N5 id s5 left5 rows5 xn5 ∧ rows.length + 1 ≤ rows5.length ∧ rows5.length ≤ rows.length + 1 + f ∧ R6 rows5 ∧
      ((ok = true ∧ ∃ U, ∃ f2 : Nat, TreeAt s4 U s5 ∧ U.size + f2 = f1 ∧ left5 = f2 ∧ nr = ((rows.length + 1 + T.size : Nat) : Int) ∧ rows5 = ((rows ++ [ph]) ++ preR (rows ++ [ph]).length T) ++ preR (rows.length + 1 + T.size) U) ∨ (ok = false ∧ ∀ U u, TreeAt s4 U u → f1 < U.size)) := by
    rcases h with ⟨U, u, f2, xn2, hU, hsz2, rfl, hR5⟩ | ⟨hno, n, s5, left5, rows5, xn5, rfl, hR5, hl1, hl2, h65⟩
    · rw [hrl] at hR5 ⊢
      refine ⟨_, _, u, f2, _, xn2, rfl, hR5, ?_, ?_, ?_, .inl ⟨rfl, U, f2, hU, hsz2, rfl, rfl, rfl⟩⟩
      · rw [List.length_append, hrl]; omega
      · rw [List.length_append, hrl, preR_len]; omega
      · intro r hr
        rcases List.mem_append.1 hr with hr | hr
        · exact h6a r hr
        · exact preR_6 _ _ r hr
    · rw [hrl] at hl1 hl2
      exact ⟨n, false, s5, left5, rows5, xn5, rfl, hR5, by omega, by omega, h65, .inr ⟨rfl, hno⟩⟩
  simp -implicitDefEqProofs (maxSteps := 1000000) (disch := omega) only [↓xsP, ↓vc_seq, xsQ, xsT, xsR, xsD, ↓reduceIte, reduceCtorEq, eq_self, ne_eq, imp_self, forall_const, Nat.reduceEqDiff, Nat.reduceAdd, Nat.reduceSub, Nat.reduceMul, Nat.reduceLT, Nat.reduceLeDiff, Nat.reduceBEq, Nat.reduceDiv, Nat.reduceMod, Int.reduceToNat, Int.reduceNeg, Int.reduceAdd, Int.reduceSub, Int.reduceMul, Int.reduceEq, Int.reduceNe, Int.reduceLT, Int.reduceLE, Int.reduceGT, Int.reduceGE]
  obtain ⟨idn, rfl, hn, hBn, hni⟩ := hR5.ms (fun e => by rw [e] at hlen5; simp at hlen5)
  have hown := hR5.own
  rw [rdB] at hown
  obtain ⟨row, hrow⟩ : ∃ row, rows5[rows.length]? = some row := ⟨_, List.getElem?_eq_getElem (by omega)⟩
  have hr6 : row.length = 6 := h65 row (List.mem_of_getElem? hrow)
  have hdr : row.drop 6 = [] := List.drop_of_length_le (by omega)
  simp -implicitDefEqProofs (maxSteps := 1000000) (disch := omega) only [↓xsP, ↓vc_seq, xsQ, xsT, xsR, xsD, ↓reduceIte, reduceCtorEq, eq_self, ne_eq, imp_self, forall_const, Nat.reduceEqDiff, Nat.reduceAdd, Nat.reduceSub, Nat.reduceMul, Nat.reduceLT, Nat.reduceLeDiff, Nat.reduceBEq, Nat.reduceDiv, Nat.reduceMod, Int.reduceToNat, Int.reduceNeg, Int.reduceAdd, Int.reduceSub, Int.reduceMul, Int.reduceEq, Int.reduceNe, Int.reduceLT, Int.reduceLE, Int.reduceGT, Int.reduceGE, hown, hn, hrow, hr6, hdr]
  have hR6 : RSt B (N5.set idn (.cells 46 (rows5.set rows.length [.bool true, .int .i64 v, .int .i64 ((rows ++ [ph]).length : Nat), .int .i64 nr, .nils, .int .i64 0]) 0)) id s5 left5 (rows5.set rows.length [.bool true, .int .i64 v, .int .i64 ((rows ++ [ph]).length : Nat), .int .i64 nr, .nils, .int .i64 0]) (.ms idn 0 rows5.length) := by
    refine ⟨by rw [Mem.set_ne _ _ _ _ hni]; exact hR5.own, hR5.bid, fun k bk hk => ?_, .inr ⟨idn, by rw [List.length_set], Mem.set_eq _ _ _, hBn⟩⟩
    rw [Mem.set_ne _ _ _ _ (fun e => by rw [← e, hBn] at hk; cases hk)]
    exact hR5.le _ _ hk
  have h6s : ∀ nw : List Lf, nw.length = 6 → Go.X.R6 (rows5.set rows.length nw) := fun nw hnw r hr => by
    rcases List.mem_or_eq_of_mem_set hr with hr | rfl
    · exact h65 r hr
    · exact hnw
  rcases hrest with ⟨rfl, U, f2, hU, hsz2, rfl, rfl, hr5⟩ | ⟨rfl, hno⟩
  rotate_left
  · simp -implicitDefEqProofs (maxSteps := 1000000) (disch := omega) only [↓xsP, ↓vc_seq, xsQ, xsT, xsR, xsD, ↓reduceIte, reduceCtorEq, eq_self, ne_eq, imp_self, forall_const, Nat.reduceEqDiff, Nat.reduceAdd, Nat.reduceSub, Nat.reduceMul, Nat.reduceLT, Nat.reduceLeDiff, Nat.reduceBEq, Nat.reduceDiv, Nat.reduceMod, Int.reduceToNat, Int.reduceNeg, Int.reduceAdd, Int.reduceSub, Int.reduceMul, Int.reduceEq, Int.reduceNe, Int.reduceLT, Int.reduceLE, Int.reduceGT, Int.reduceGE]
    refine fin_ok (Mem.le_refl _) (.inr ⟨fun k L R t' ⟨b, c, g1, g2, g3⟩ => ?_, s5, left5, _, _, rfl, hR6, by rw [List.length_set]; omega, by rw [List.length_set]; omega, h6s _ rfl⟩)
    obtain ⟨rfl, e⟩ := treeAt_uniq g1 hT
    rw [ht32] at e
    injection e with _ e
    rw [e] at g2
    obtain ⟨rfl, e2⟩ := numAt_uniq g2 hv
    rw [hs32] at e2
    injection e2 with _ e2
    rw [e2] at g3
    have := hno _ _ g3
    omega
  simp -implicitDefEqProofs (maxSteps := 1000000) (disch := omega) only [↓xsP, ↓vc_seq, xsQ, xsT, xsR, xsD, ↓reduceIte, reduceCtorEq, eq_self, ne_eq, imp_self, forall_const, Nat.reduceEqDiff, Nat.reduceAdd, Nat.reduceSub, Nat.reduceMul, Nat.reduceLT, Nat.reduceLeDiff, Nat.reduceBEq, Nat.reduceDiv, Nat.reduceMod, Int.reduceToNat, Int.reduceNeg, Int.reduceAdd, Int.reduceSub, Int.reduceMul, Int.reduceEq, Int.reduceNe, Int.reduceLT, Int.reduceLE, Int.reduceGT, Int.reduceGE]
  refine callI_of ((sign_spec s5 f2 _ 41 id _ hR6.own).mono ?_)
  rintro _ _ ⟨rfl, rfl⟩
  have hR7 := hR6.set (cutc 41 s5) f2
  simp -implicitDefEqProofs (maxSteps := 1000000) (disch := omega) only [↓xsP, ↓vc_seq, xsQ, xsT, xsR, xsD, ↓reduceIte, reduceCtorEq, eq_self, ne_eq, imp_self, forall_const, Nat.reduceEqDiff, Nat.reduceAdd, Nat.reduceSub, Nat.reduceMul, Nat.reduceLT, Nat.reduceLeDiff, Nat.reduceBEq, Nat.reduceDiv, Nat.reduceMod, Int.reduceToNat, Int.reduceNeg, Int.reduceAdd, Int.reduceSub, Int.reduceMul, Int.reduceEq, Int.reduceNe, Int.reduceLT, Int.reduceLE, Int.reduceGT, Int.reduceGE]
  by_cases h41 : s5.head? = some 41
  rotate_left
  · rw [decide_eq_false h41]
    refine fin_ok (Mem.le_refl _) (.inr ⟨fun k L R t' ⟨b, c, g1, g2, g3⟩ => ?_, _, _, _, _, rfl, hR7, by rw [List.length_set]; omega, by rw [List.length_set]; omega, h6s _ rfl⟩)
    obtain ⟨rfl, e⟩ := treeAt_uniq g1 hT
    rw [ht32] at e
    injection e with _ e
    rw [e] at g2
    obtain ⟨rfl, e2⟩ := numAt_uniq g2 hv
    rw [hs32] at e2
    injection e2 with _ e2
    rw [e2] at g3
    obtain ⟨rfl, e3⟩ := treeAt_uniq g3 hU
    rw [← e3] at h41
    exact absurd rfl h41
  rw [decide_eq_true h41]
  refine fin_ok (Mem.le_refl _) (.inl ⟨v, T, U, cutc 41 s5, f2, .ms idn 0 rows5.length, ⟨s2, s4, ?_, ?_, ?_⟩, by omega, rfl, ?_⟩)
  · rw [← ht32]; exact hT
  · rw [← hs32]; exact hv
  · rw [← cutc_eq h41]; exact hU
  · have e : rows5.set rows.length [.bool true, .int .i64 v, .int .i64 ((rows ++ [ph]).length : Nat), .int .i64 ((rows.length + 1 + T.size : Nat) : Int), .nils, .int .i64 0] = rows ++ preR rows.length (.fork v T U) := by
      rw [hr5, List.append_assoc, List.append_assoc, List.singleton_append, set_mid]
      simp [preR]
    generalize Mem.set (Mem.set N5 _ _) _ _ = Q at hR7 ⊢
    rw [e] at hR7
    exact hR7
theorem RSt.sb {B N : Mem} {id : Nat} {s : List UInt8} {left : Int} {rows : List (List Lf)} {xn : Lf} (h : RSt B N id s left rows xn) : ∃ N0, SB 46 N xn rows N0 ∧ B.le N0 ∧ N0 id = some (rdB s left xn) := by
  by_cases hr : rows = []
  · rcases h.nds with ⟨rfl, rfl⟩ | ⟨idn, h1, h2, h3⟩
    · exact ⟨N, .nil, h.le, h.own⟩
    · rw [h1]
      refine ⟨_, .ms h2, fun k bk hk => ?_, ?_⟩
      · rw [Mem.del_ne _ _ _ (fun e => by rw [← e, h3] at hk; cases hk)]
        exact h.le _ _ hk
      · rw [Mem.del_ne _ _ _ (fun e => ?_), h.own, h1]
        have := h.own
        rw [← e, h2] at this
        injection this with this
        injection this with this
        exact absurd this (by decide)
  · obtain ⟨idn, h1, h2, h3, h4⟩ := h.ms hr
    rw [h1]
    refine ⟨_, .ms h2, fun k bk hk => ?_, ?_⟩
    · rw [Mem.del_ne _ _ _ (fun e => by rw [← e, h3] at hk; cases hk)]
      exact h.le _ _ hk
    · rw [Mem.del_ne _ _ _ h4, h.own, h1]
theorem node_spec (B : Mem) (id : Nat) : ∀ f : Nat, NodeP B id f := by
  intro f
  induction f using Nat.strongRecOn with
  | ind f ihf =>
  intro s rows xn N hs hf h6 hR
  refine xcalls_intro (rs := [.tmp 2, .tmp 3]) Go.Proofs.Tryd.func24 rfl (by kernel_rfl) rfl rfl (by kernel_rfl) (by simp) ?_
  have hown := hR.own
  rw [rdB] at hown
  have hln : ∀ X : Mem, lenA Go.Proofs.Tryd.prog X 22 (.l xn) = some (.l (.int .i64 rows.length)) := fun X => by
    rcases hR.nds with ⟨rfl, rfl⟩ | ⟨idn, rfl, _, _⟩ <;> simp only [lenA, ti_22] <;> rfl
  simp only [lenA, ti_22] at hln
  simp -implicitDefEqProofs (maxSteps := 1000000) (disch := omega) only [↓xsP, ↓vc_seq, xsQ, xsT, xsR, xsD, ↓reduceIte, reduceCtorEq, eq_self, ne_eq, imp_self, forall_const, Nat.reduceEqDiff, Nat.reduceAdd, Nat.reduceSub, Nat.reduceMul, Nat.reduceLT, Nat.reduceLeDiff, Nat.reduceBEq, Nat.reduceDiv, Nat.reduceMod, Int.reduceToNat, Int.reduceNeg, Int.reduceAdd, Int.reduceSub, Int.reduceMul, Int.reduceEq, Int.reduceNe, Int.reduceLT, Int.reduceLE, Int.reduceGT, Int.reduceGE, hown, hln]
  have hR0 := hR.set s ((f : Int) - 1)
  rw [rdB] at hR0
  by_cases hf0 : f = 0
  · have w0 : decide ((f : Int) - 1 < 0) = true := decide_eq_true (by omega)
    simp -implicitDefEqProofs (maxSteps := 1000000) (disch := omega) only [↓xsP, ↓vc_seq, xsQ, xsT, xsR, xsD, ↓reduceIte, reduceCtorEq, eq_self, ne_eq, imp_self, forall_const, Nat.reduceEqDiff, Nat.reduceAdd, Nat.reduceSub, Nat.reduceMul, Nat.reduceLT, Nat.reduceLeDiff, Nat.reduceBEq, Nat.reduceDiv, Nat.reduceMod, Int.reduceToNat, Int.reduceNeg, Int.reduceAdd, Int.reduceSub, Int.reduceMul, Int.reduceEq, Int.reduceNe, Int.reduceLT, Int.reduceLE, Int.reduceGT, Int.reduceGE, hown, hln, w0]
    refine fin_ok (Mem.le_refl _) (.inr ⟨fun T t hT => ?_, 0, s, _, rows, xn, rfl, hR0, Nat.le_refl _, by omega, h6⟩)
    have := T.size_pos
    omega
  have w0 : decide ((f : Int) - 1 < 0) = false := decide_eq_false (by omega)
  obtain ⟨g, rfl⟩ : ∃ g, f = g + 1 := ⟨f - 1, by omega⟩
  have hg : ((g + 1 : Nat) : Int) - 1 = g := by omega
  rw [hg] at hR0 w0
  simp -implicitDefEqProofs (maxSteps := 1000000) (disch := omega) only [↓xsP, ↓vc_seq, xsQ, xsT, xsR, xsD, ↓reduceIte, reduceCtorEq, eq_self, ne_eq, imp_self, forall_const, Nat.reduceEqDiff, Nat.reduceAdd, Nat.reduceSub, Nat.reduceMul, Nat.reduceLT, Nat.reduceLeDiff, Nat.reduceBEq, Nat.reduceDiv, Nat.reduceMod, Int.reduceToNat, Int.reduceNeg, Int.reduceAdd, Int.reduceSub, Int.reduceMul, Int.reduceEq, Int.reduceNe, Int.reduceLT, Int.reduceLE, Int.reduceGT, Int.reduceGE, hown, hln, hg, w0]
  refine newI_intro fun idp hidp => ?_
  have hown1 := hR0.own
  have kip := lt_of_bnd hidp hown1
  have hRp := hR0.new hidp (.cells 46 [[.bool false, .int .i64 0, .int .i64 0, .int .i64 0, .nils, .int .i64 0]] 0)
  rw [rdB] at hown1
  simp -implicitDefEqProofs (maxSteps := 1000000) (disch := omega) only [↓xsP, ↓vc_seq, xsQ, xsT, xsR, xsD, ↓reduceIte, reduceCtorEq, eq_self, ne_eq, imp_self, forall_const, Nat.reduceEqDiff, Nat.reduceAdd, Nat.reduceSub, Nat.reduceMul, Nat.reduceLT, Nat.reduceLeDiff, Nat.reduceBEq, Nat.reduceDiv, Nat.reduceMod, Int.reduceToNat, Int.reduceNeg, Int.reduceAdd, Int.reduceSub, Int.reduceMul, Int.reduceEq, Int.reduceNe, Int.reduceLT, Int.reduceLE, Int.reduceGT, Int.reduceGE, hown1, hln, hg, w0]
  obtain ⟨N0, hsb, hle0, hown0⟩ := hRp.sb
  refine app_sb ti_22 rfl ti_46 (by kernel_rfl) (by decide) (by decide) hsb (bs := [[.bool false, .int .i64 0, .int .i64 0, .int .i64 0, .nils, .int .i64 0]]) (by unfold srcRows; rw [if_pos rfl]; simp only [Mem.set_eq]; rfl) (by simp) (by simp only [List.length_cons, List.length_nil]; omega) (fun id1 hid1 => ?_)
  have ki1 := lt_of_bnd hid1 hRp.own
  rw [rdB] at hown0
  simp -implicitDefEqProofs (maxSteps := 1000000) (disch := omega) only [↓xsP, ↓vc_seq, xsQ, xsT, xsR, xsD, ↓reduceIte, reduceCtorEq, eq_self, ne_eq, imp_self, forall_const, Nat.reduceEqDiff, Nat.reduceAdd, Nat.reduceSub, Nat.reduceMul, Nat.reduceLT, Nat.reduceLeDiff, Nat.reduceBEq, Nat.reduceDiv, Nat.reduceMod, Int.reduceToNat, Int.reduceNeg, Int.reduceAdd, Int.reduceSub, Int.reduceMul, Int.reduceEq, Int.reduceNe, Int.reduceLT, Int.reduceLE, Int.reduceGT, Int.reduceGE, hown1, hown0, hln, hg, w0]
  obtain ⟨ph, hph⟩ : ∃ ph : List Lf, [.bool false, .int .i64 0, .int .i64 0, .int .i64 0, .nils, .int .i64 0] = ph := ⟨_, rfl⟩
  have hph6 : ph.length = 6 := by rw [← hph]; rfl
  rw [hph]
  have hB1 : B id1 = none := by
    cases hb : B id1 with
    | none => rfl
    | some bk =>
      have := hsb.le _ _ (hle0 _ _ hb)
      rw [hid1 id1 (Nat.le_refl _)] at this
      cases this
  have hR2 : RSt B ((N0.set id1 (.cells 46 (rows ++ [ph]) 0)).set id (.cells 49 [[txt s, .int .i64 g, .int .i64 0, .ms id1 0 (rows.length + 1)]] 0)) id s g (rows ++ [ph]) (.ms id1 0 (rows.length + 1)) := by
    refine ⟨Mem.set_eq _ _ _, hR.bid, fun k bk hk => ?_, .inr ⟨id1, by simp, ?_, hB1⟩⟩
    · rw [Mem.set_ne _ _ _ _ (fun e => by rw [← e, hR.bid] at hk; cases hk), Mem.set_ne _ _ _ _ (fun e => by rw [← e, hB1] at hk; cases hk)]
      exact hle0 _ _ hk
    · rw [Mem.set_ne _ _ _ _ (by omega), Mem.set_eq]
  generalize (N0.set id1 (.cells 46 (rows ++ [ph]) 0)).set id (.cells 49 [[txt s, .int .i64 g, .int .i64 0, .ms id1 0 (rows.length + 1)]] 0) = N2 at hR2 ⊢
  have h6a : R6 (rows ++ [ph]) := fun r hr => by
    rcases List.mem_append.1 hr with hr | hr
    · exact h6 r hr
    · rw [List.mem_singleton.1 hr]; exact hph6
  clear hln hown hown1 hown0 hsb hle0 hRp hR0 hid1 hidp
  refine callI_of ((sign_spec s g _ 40 id N2 hR2.own).mono ?_)
  rintro _ _ ⟨rfl, rfl⟩
  by_cases h40 : s.head? = some 40
  · rw [decide_eq_true h40]
    have hs40 := cutc_eq h40
    have hcl := cutc_len 40 s
    have hR3 := hR2.set (cutc 40 s) g
    generalize N2.set id (rdB (cutc 40 s) g (.ms id1 0 (rows.length + 1))) = N3 at hR3 ⊢
    simp -implicitDefEqProofs (maxSteps := 1000000) (disch := omega) only [↓xsP, ↓vc_seq, xsQ, xsT, xsR, xsD, ↓reduceIte, reduceCtorEq, eq_self, ne_eq, imp_self, forall_const, Nat.reduceEqDiff, Nat.reduceAdd, Nat.reduceSub, Nat.reduceMul, Nat.reduceLT, Nat.reduceLeDiff, Nat.reduceBEq, Nat.reduceDiv, Nat.reduceMod, Int.reduceToNat, Int.reduceNeg, Int.reduceAdd, Int.reduceSub, Int.reduceMul, Int.reduceEq, Int.reduceNe, Int.reduceLT, Int.reduceLE, Int.reduceGT, Int.reduceGE]
    refine callI_of ((route_spec B id g (fun h hh => ihf h (by omega)) (cutc 40 s) rows ph _ N3 (by omega) (by omega) h6a hR3).mono ?_)
    rintro _ N4 (⟨k, L, R, t, f1, xn1, ⟨b, c, g1, g2, g3⟩, hsz, rfl, hR4⟩ | ⟨hno, s1, left1, rows1, xn1, rfl, hR4, hl1, hl2, h61⟩)
    · simp -implicitDefEqProofs (maxSteps := 1000000) (disch := omega) only [↓xsP, ↓vc_seq, xsQ, xsT, xsR, xsD, ↓reduceIte, reduceCtorEq, eq_self, ne_eq, imp_self, forall_const, Nat.reduceEqDiff, Nat.reduceAdd, Nat.reduceSub, Nat.reduceMul, Nat.reduceLT, Nat.reduceLeDiff, Nat.reduceBEq, Nat.reduceDiv, Nat.reduceMod, Int.reduceToNat, Int.reduceNeg, Int.reduceAdd, Int.reduceSub, Int.reduceMul, Int.reduceEq, Int.reduceNe, Int.reduceLT, Int.reduceLE, Int.reduceGT, Int.reduceGE]
      refine fin_ok (Mem.le_refl _) (.inl ⟨.fork k L R, t, f1, xn1, ⟨cutc 40 s, b, c, hs40, g1, g2, g3⟩, by simp only [Tr.size]; omega, rfl, hR4⟩)
    · simp -implicitDefEqProofs (maxSteps := 1000000) (disch := omega) only [↓xsP, ↓vc_seq, xsQ, xsT, xsR, xsD, ↓reduceIte, reduceCtorEq, eq_self, ne_eq, imp_self, forall_const, Nat.reduceEqDiff, Nat.reduceAdd, Nat.reduceSub, Nat.reduceMul, Nat.reduceLT, Nat.reduceLeDiff, Nat.reduceBEq, Nat.reduceDiv, Nat.reduceMod, Int.reduceToNat, Int.reduceNeg, Int.reduceAdd, Int.reduceSub, Int.reduceMul, Int.reduceEq, Int.reduceNe, Int.reduceLT, Int.reduceLE, Int.reduceGT, Int.reduceGE]
      refine fin_ok (Mem.le_refl _) (.inr ⟨fun T t hT => ?_, _, s1, left1, rows1, xn1, rfl, hR4, hl1, by omega, h61⟩)
      cases T with
      | leaf ps st =>
        obtain ⟨a, u, e, _⟩ := hT
        rw [e] at h40
        exact absurd h40 (by simp)
      | fork k l r =>
        obtain ⟨a, b, c, e, q1, q2, q3⟩ := hT
        have e2 := e.symm.trans hs40
        injection e2 with _ e2
        rw [e2] at q1
        have := hno k l r t ⟨b, c, q1, q2, q3⟩
        simp only [Tr.size]
        omega
  rw [decide_eq_false h40, cutc_no h40]
  have hR3 := hR2.set s g
  generalize N2.set id (rdB s g (.ms id1 0 (rows.length + 1))) = N3 at hR3 ⊢
  simp -implicitDefEqProofs (maxSteps := 1000000) (disch := omega) only [↓xsP, ↓vc_seq, xsQ, xsT, xsR, xsD, ↓reduceIte, reduceCtorEq, eq_self, ne_eq, imp_self, forall_const, Nat.reduceEqDiff, Nat.reduceAdd, Nat.reduceSub, Nat.reduceMul, Nat.reduceLT, Nat.reduceLeDiff, Nat.reduceBEq, Nat.reduceDiv, Nat.reduceMod, Int.reduceToNat, Int.reduceNeg, Int.reduceAdd, Int.reduceSub, Int.reduceMul, Int.reduceEq, Int.reduceNe, Int.reduceLT, Int.reduceLE, Int.reduceGT, Int.reduceGE]
  refine callI_of ((sign_spec s g _ 91 id N3 hR3.own).mono ?_)
  rintro _ _ ⟨rfl, rfl⟩
  have hR4 := hR3.set (cutc 91 s) g
  have hcl := cutc_len 91 s
  generalize N3.set id (rdB (cutc 91 s) g (.ms id1 0 (rows.length + 1))) = N4 at hR4 ⊢
  by_cases h91 : s.head? = some 91
  rotate_left
  · rw [decide_eq_false h91]
    simp -implicitDefEqProofs (maxSteps := 1000000) (disch := omega) only [↓xsP, ↓vc_seq, xsQ, xsT, xsR, xsD, ↓reduceIte, reduceCtorEq, eq_self, ne_eq, imp_self, forall_const, Nat.reduceEqDiff, Nat.reduceAdd, Nat.reduceSub, Nat.reduceMul, Nat.reduceLT, Nat.reduceLeDiff, Nat.reduceBEq, Nat.reduceDiv, Nat.reduceMod, Int.reduceToNat, Int.reduceNeg, Int.reduceAdd, Int.reduceSub, Int.reduceMul, Int.reduceEq, Int.reduceNe, Int.reduceLT, Int.reduceLE, Int.reduceGT, Int.reduceGE]
    refine fin_ok (Mem.le_refl _) (.inr ⟨fun T t hT => ?_, _, _, _, _, _, rfl, hR4, by simp, by simp, h6a⟩)
    cases T with
    | leaf ps st =>
      obtain ⟨a, u, e, _⟩ := hT
      rw [e] at h91
      exact absurd rfl h91
    | fork k l r =>
      obtain ⟨a, b, c, e, _⟩ := hT
      rw [e] at h40
      exact absurd rfl h40
  rw [decide_eq_true h91]
  have hs91 := cutc_eq h91
  obtain ⟨s1, hs1⟩ : ∃ s1, cutc 91 s = s1 := ⟨_, rfl⟩
  rw [hs1] at hR4 hs91 hcl
  simp -implicitDefEqProofs (maxSteps := 1000000) (disch := omega) only [↓xsP, ↓vc_seq, xsQ, xsT, xsR, xsD, ↓reduceIte, reduceCtorEq, eq_self, ne_eq, imp_self, forall_const, Nat.reduceEqDiff, Nat.reduceAdd, Nat.reduceSub, Nat.reduceMul, Nat.reduceLT, Nat.reduceLeDiff, Nat.reduceBEq, Nat.reduceDiv, Nat.reduceMod, Int.reduceToNat, Int.reduceNeg, Int.reduceAdd, Int.reduceSub, Int.reduceMul, Int.reduceEq, Int.reduceNe, Int.reduceLT, Int.reduceLE, Int.reduceGT, Int.reduceGE]
  refine callI_of ((leaf_spec s1 (by omega) g _ id N4 hR4.own).mono ?_)
  rintro _ _ ⟨s2, hs2, rfl, h⟩
  have hR5 := hR4.set s2 g
  generalize N4.set id (rdB s2 g (.ms id1 0 (rows.length + 1))) = N5 at hR5 ⊢
  obtain ⟨ln, ok, rfl, hrest⟩ : ∃ (ln : Nd) (ok : Bool), _ = AV.tup [.agg ln.row, .l (.bool ok)] ∧ ((ok = true ∧ ∃ ps st, LeafAt s1 ps st s2 ∧ ln = leafN ps st) ∨ (ok = false ∧ ∀ ps st t, ¬ LeafAt s1 ps st t)) := by
    rcases h with ⟨ps, st, h1, h2⟩ | ⟨h1, n, h2⟩
    · exact ⟨_, true, h2, .inl ⟨rfl, ps, st, h1, rfl⟩⟩
    · exact ⟨n, false, h2, .inr ⟨rfl, h1⟩⟩
  simp -implicitDefEqProofs (maxSteps := 1000000) (disch := omega) only [↓xsP, ↓vc_seq, xsQ, xsT, xsR, xsD, ↓reduceIte, reduceCtorEq, eq_self, ne_eq, imp_self, forall_const, Nat.reduceEqDiff, Nat.reduceAdd, Nat.reduceSub, Nat.reduceMul, Nat.reduceLT, Nat.reduceLeDiff, Nat.reduceBEq, Nat.reduceDiv, Nat.reduceMod, Int.reduceToNat, Int.reduceNeg, Int.reduceAdd, Int.reduceSub, Int.reduceMul, Int.reduceEq, Int.reduceNe, Int.reduceLT, Int.reduceLE, Int.reduceGT, Int.reduceGE]
  refine newI_intro fun id5 hid5 => ?_
  have hR6 := hR5.new hid5 (.cells 46 [ln.row] 0)
  have h55 := Mem.set_eq N5 id5 (.cells 46 [ln.row] 0)
  have k5i := lt_of_bnd hid5 hR5.own
  obtain ⟨idn, hxe, hn, hBn, hni⟩ := hR6.ms (by simp)
  have hid1n : idn = id1 := by injection hxe with h1 _ _; exact h1.symm
  rw [hid1n] at hn
  clear hxe hBn hni hid1n
  have k51 : id1 ≠ id5 := fun e => by
    rcases hR5.nds with ⟨h1, _⟩ | ⟨q, h1, h2, _⟩
    · simp at h1
    · injection h1 with h1 _ _
      rw [← h1, e] at h2
      rw [hid5 id5 (Nat.le_refl _)] at h2
      cases h2
  have hown6 := hR6.own
  rw [rdB] at hown6
  rw [row_nd] at hR6 h55 hown6 hn
  simp -implicitDefEqProofs (maxSteps := 1000000) (disch := omega) only [↓xsP, ↓vc_seq, xsQ, xsT, xsR, xsD, ↓reduceIte, reduceCtorEq, eq_self, ne_eq, imp_self, forall_const, Nat.reduceEqDiff, Nat.reduceAdd, Nat.reduceSub, Nat.reduceMul, Nat.reduceLT, Nat.reduceLeDiff, Nat.reduceBEq, Nat.reduceDiv, Nat.reduceMod, Int.reduceToNat, Int.reduceNeg, Int.reduceAdd, Int.reduceSub, Int.reduceMul, Int.reduceEq, Int.reduceNe, Int.reduceLT, Int.reduceLE, Int.reduceGT, Int.reduceGE]
  generalize N5.set id5 (.cells 46 [[.bool ln.route, .int .i64 ln.key, .int .i64 ln.left, .int .i64 ln.right, .sl (ln.pairs.map Pr.row), .int .i64 ln.stat]] 0) = N6 at hR6 h55 hown6 hn ⊢
  have hB1' := hB1
  refine xwrite (fun n0 => [ (8, id1)]) [8] [] [[], [], [], [], [], [], [], [], []] (by kernel_rfl) (by kernel_rfl) (by kernel_rfl) (by kernel_rfl) (fun n0 hn0 => ⟨rfl, ?_, ?_⟩)
  · exact TOk_cons (.inl (lt_of_bnd hn0 hn)) (TOk_nil _ _)
  have y1 := lt_of_bnd hn0 hn
  have y5 := lt_of_bnd hn0 h55
  have yi := lt_of_bnd hn0 hR6.own
  have ki1' : id1 ≠ id := by omega
  have hget : (rows ++ [ph])[rows.length]? = some ph := get_mid rows [] ph
  have hset : ∀ y : List Lf, (rows ++ [ph]).set rows.length y = rows ++ [y] := fun y => set_mid rows [] ph y
  have hdr : ph.drop 6 = [] := List.drop_of_length_le (by omega)
  have hle6 : 6 ≤ ph.length := by omega
  simp -implicitDefEqProofs (maxSteps := 1000000) (disch := omega) only [↓xsP, ↓vc_seq, xsQ, xsT, xsR, xsD, ↓reduceIte, reduceCtorEq, eq_self, ne_eq, imp_self, forall_const, Nat.reduceEqDiff, Nat.reduceAdd, Nat.reduceSub, Nat.reduceMul, Nat.reduceLT, Nat.reduceLeDiff, Nat.reduceBEq, Nat.reduceDiv, Nat.reduceMod, Int.reduceToNat, Int.reduceNeg, Int.reduceAdd, Int.reduceSub, Int.reduceMul, Int.reduceEq, Int.reduceNe, Int.reduceLT, Int.reduceLE, Int.reduceGT, Int.reduceGE, hown6, h55, hn, hget, hset, hdr, hph6]
  have hR7 : ∀ y : List Lf, RSt B (N6.set id1 (.cells 46 (rows ++ [y]) 0)) id s2 g (rows ++ [y]) (.ms id1 0 (rows.length + 1)) := fun y => by
    refine ⟨by rw [Mem.set_ne _ _ _ _ ki1']; exact hR6.own, hR.bid, fun k bk hk => ?_, .inr ⟨id1, by simp, Mem.set_eq _ _ _, hB1⟩⟩
    rw [Mem.set_ne _ _ _ _ (fun e => by rw [← e, hB1] at hk; cases hk)]
    exact hR6.le _ _ hk
  refine fin_ok (Mem.le_refl _) ?_
  rcases hrest with ⟨rfl, ps, st, h1, h2⟩ | ⟨rfl, h1⟩
  · refine .inl ⟨.leaf ps st, s2, g, .ms id1 0 (rows.length + 1), ?_, by simp only [Tr.size]; omega, rfl, ?_⟩
    · obtain ⟨u, g1, g2⟩ := h1
      exact ⟨s1, u, hs91, g1, g2⟩
    · have := hR7 (leafN ps st).row
      rw [← h2] at this
      rw [preR, ← h2]
      exact this
  · refine .inr ⟨fun T t hT => ?_, _, s2, _, _, _, rfl, hR7 _, by simp, by simp, fun r hr => ?_⟩
    · cases T with
      | leaf ps st =>
        obtain ⟨a, u, e, g1, g2⟩ := hT
        have e2 := e.symm.trans hs91
        injection e2 with _ e2
        rw [e2] at g1
        exact absurd ⟨u, g1, g2⟩ (h1 ps st t)
      | fork k l r =>
        obtain ⟨a, b, c, e, _⟩ := hT
        rw [e] at h40
        exact absurd rfl h40
    · rcases List.mem_append.1 hr with hr | hr
      · exact h6 r hr
      · rw [List.mem_singleton.1 hr]; rfl
end Go.X
set_option linter.unusedVariables false
set_option linter.unusedSimpArgs false
set_option maxHeartbeats 20000000
set_option maxRecDepth 100000
namespace Go.X
open Go.Proofs.Tryd (prog)

theorem tree_rd {f : FuncId} {M : Mem} {K : AV → Mem → Prop} {root : Int} {ns : List Nd} {id keep : Nat} (hM : M id = some (.cells 46 (ns.map Nd.row) keep)) (hk : ns.length ≤ keep) (hx : XCalls Go.Proofs.Tryd.prog f [trA root ns] M K) : XCalls Go.Proofs.Tryd.prog f [.agg [.int .i64 root, .ms id 0 ns.length]] M K := by
  refine XCalls.frz0 id hM (by rw [List.length_map]; exact hk) ?_
  have e : [AV.agg [Lf.int IntKind.i64 root, Lf.ms id 0 ns.length]].map (frzA id (ns.map Nd.row)) = [trA root ns] := by
    simp only [List.map_cons, List.map_nil, frzA, frz1, frzL, trA, Nat.zero_add, List.length_map, Nat.le_refl, and_self, if_true, List.drop_zero]
    rw [List.take_of_length_le (by rw [List.length_map]; exact Nat.le_refl _)]
  rw [e]
  exact hx
/-- What is parsed: a tree whose text it is. -/
def ParsOk (s : List UInt8) (T : Tr) : Prop := s.length ≤ 100000 ∧ TreeAt s T [] ∧ T.size ≤ 2000 ∧ Wf T ks0
theorem parsOk_uniq {s : List UInt8} {T U : Tr} (h : ParsOk s T) (h' : ParsOk s U) : T = U := (treeAt_uniq h.2.1 h'.2.1).1
theorem prsAt_pok : ∀ (ps : List Pr) (b : Bool) (a t : List UInt8), PrsAt b a ps t → ps.length ≤ a.length := by
  intro ps
  induction ps with
  | nil => intro b a t h; exact Nat.zero_le _
  | cons p r ih =>
    intro b a t h
    cases b with
    | true =>
      obtain ⟨u, g1, g2⟩ := h
      have := pairAt_len g1
      have := ih _ _ _ g2
      rw [List.length_cons]
      omega
    | false =>
      obtain ⟨w, u, g0, g1, g2⟩ := h
      have := pairAt_len g1
      have := ih _ _ _ g2
      rw [g0, List.length_cons, List.length_cons]
      omega
theorem treeAt_pok {T : Tr} : ∀ {s t : List UInt8}, TreeAt s T t → ∀ h, ∀ x ∈ preN h T, x.pairs.length ≤ s.length := by
  induction T with
  | leaf ps st =>
    rintro s t ⟨a, u, h1, h2, h3⟩ h x hx
    rw [preN] at hx
    rw [List.mem_singleton.1 hx, h1, List.length_cons]
    have := prsAt_pok _ _ _ _ h2
    show ps.length ≤ _
    omega
  | fork k l r ihl ihr =>
    rintro s t ⟨a, b, c, e, g1, g2, g3⟩ h x hx
    have t1 := treeAt_len g1
    have t2 := numAt_len g2
    rw [preN] at hx
    rw [e, List.length_cons]
    simp only [List.length_cons] at t1 t2
    rcases List.mem_cons.1 hx with rfl | hx
    · exact Nat.zero_le _
    · rcases List.mem_append.1 hx with hx | hx
      · have := ihl g1 _ x hx
        omega
      · have := ihr g3 _ x hx
        omega
theorem parse_spec (s : List UInt8) (hs : s.length ≤ 1000000) (M : Mem) :
    XCalls Go.Proofs.Tryd.prog 10 [.l (txt s)] M fun r M' => M' = M ∧ ((∃ T, ParsOk s T ∧ r = .tup [trA 0 (preN 0 T), .l (.int .i64 0)]) ∨ ((∀ T, ¬ ParsOk s T) ∧ r = .tup [trA 0 [], .l (.int .i64 1)])) := by
  refine xcalls_intro (rs := [.cell 2 24, .tmp 3]) Go.Proofs.Tryd.func10 rfl (by kernel_rfl) rfl rfl (by kernel_rfl) (by simp) ?_
  simp -implicitDefEqProofs (maxSteps := 1000000) (disch := omega) only [↓xsP, ↓vc_seq, xsQ, xsT, xsR, xsD, ↓reduceIte, reduceCtorEq, eq_self, ne_eq, imp_self, forall_const, Nat.reduceEqDiff, Nat.reduceAdd, Nat.reduceSub, Nat.reduceMul, Nat.reduceLT, Nat.reduceLeDiff, Nat.reduceBEq, Nat.reduceDiv, Nat.reduceMod, Int.reduceToNat, Int.reduceNeg, Int.reduceAdd, Int.reduceSub, Int.reduceMul, Int.reduceEq, Int.reduceNe, Int.reduceLT, Int.reduceLE, Int.reduceGT, Int.reduceGE, txt]
  refine newI_intro fun id2 hid2 => ?_
  have hle2 : ∀ X : Blk, M.le (M.set id2 X) := fun X => le_new (Mem.le_refl _) hid2
  simp -implicitDefEqProofs (maxSteps := 1000000) (disch := omega) only [↓xsP, ↓vc_seq, xsQ, xsT, xsR, xsD, ↓reduceIte, reduceCtorEq, eq_self, ne_eq, imp_self, forall_const, Nat.reduceEqDiff, Nat.reduceAdd, Nat.reduceSub, Nat.reduceMul, Nat.reduceLT, Nat.reduceLeDiff, Nat.reduceBEq, Nat.reduceDiv, Nat.reduceMod, Int.reduceToNat, Int.reduceNeg, Int.reduceAdd, Int.reduceSub, Int.reduceMul, Int.reduceEq, Int.reduceNe, Int.reduceLT, Int.reduceLE, Int.reduceGT, Int.reduceGE, txt, ba_size]
  by_cases h1 : s.length ≤ 100000
  rotate_left
  · have q1 : decide ((s.length : Int) > 100000) = true := decide_eq_true (by omega)
    simp -implicitDefEqProofs (maxSteps := 1000000) (disch := omega) only [↓xsP, ↓vc_seq, xsQ, xsT, xsR, xsD, ↓reduceIte, reduceCtorEq, eq_self, ne_eq, imp_self, forall_const, Nat.reduceEqDiff, Nat.reduceAdd, Nat.reduceSub, Nat.reduceMul, Nat.reduceLT, Nat.reduceLeDiff, Nat.reduceBEq, Nat.reduceDiv, Nat.reduceMod, Int.reduceToNat, Int.reduceNeg, Int.reduceAdd, Int.reduceSub, Int.reduceMul, Int.reduceEq, Int.reduceNe, Int.reduceLT, Int.reduceLE, Int.reduceGT, Int.reduceGE, q1, txt, ba_size]
    refine finI_of (XFin.wk (XFin.le (M' := M) (fun k bk hk => ?_) ⟨rfl, .inr ⟨fun T h => h1 h.1, rfl⟩⟩))
    have := lt_of_bnd hid2 hk
    simp (disch := omega) only [Mem.set_ne, hk]
  have q1 : decide ((s.length : Int) > 100000) = false := decide_eq_false (by omega)
  simp -implicitDefEqProofs (maxSteps := 1000000) (disch := omega) only [↓xsP, ↓vc_seq, xsQ, xsT, xsR, xsD, ↓reduceIte, reduceCtorEq, eq_self, ne_eq, imp_self, forall_const, Nat.reduceEqDiff, Nat.reduceAdd, Nat.reduceSub, Nat.reduceMul, Nat.reduceLT, Nat.reduceLeDiff, Nat.reduceBEq, Nat.reduceDiv, Nat.reduceMod, Int.reduceToNat, Int.reduceNeg, Int.reduceAdd, Int.reduceSub, Int.reduceMul, Int.reduceEq, Int.reduceNe, Int.reduceLT, Int.reduceLE, Int.reduceGT, Int.reduceGE, q1, txt, ba_size]
  refine newI_intro fun id4 hid4 => ?_
  obtain ⟨k24, hid4'⟩ := bnd_new hid4
  simp -implicitDefEqProofs (maxSteps := 1000000) (disch := omega) only [↓xsP, ↓vc_seq, xsQ, xsT, xsR, xsD, ↓reduceIte, reduceCtorEq, eq_self, ne_eq, imp_self, forall_const, Nat.reduceEqDiff, Nat.reduceAdd, Nat.reduceSub, Nat.reduceMul, Nat.reduceLT, Nat.reduceLeDiff, Nat.reduceBEq, Nat.reduceDiv, Nat.reduceMod, Int.reduceToNat, Int.reduceNeg, Int.reduceAdd, Int.reduceSub, Int.reduceMul, Int.reduceEq, Int.reduceNe, Int.reduceLT, Int.reduceLE, Int.reduceGT, Int.reduceGE, q1, txt, ba_size]
  have hR : RSt (M.set id2 (.cells 24 [[.int .i64 0, .nils]] 0)) ((M.set id2 (.cells 24 [[.int .i64 0, .nils]] 0)).set id4 (rdB s 2000 .nils)) id4 s ((2000 : Nat) : Int) [] .nils :=
    ⟨Mem.set_eq _ _ _, hid4 _ (Nat.le_refl _), le_new (Mem.le_refl _) hid4, .inl ⟨rfl, rfl⟩⟩
  refine callI_of ((node_spec _ id4 2000 s [] .nils _ hs (by simp) (fun r hr => by cases hr) hR).mono ?_)
  rintro r' N h
  rcases h with ⟨T, t, f', xn, hT, hsz, rfl, hR1⟩ | ⟨hno, n, s1, left1, rows1, xn1, rfl, hR1, -, -, -⟩
  rotate_left
  · have hNid2 := hR1.le _ _ (Mem.set_eq M id2 (.cells 24 [[.int .i64 0, .nils]] 0))
    simp -implicitDefEqProofs (maxSteps := 1000000) (disch := omega) only [↓xsP, ↓vc_seq, xsQ, xsT, xsR, xsD, ↓reduceIte, reduceCtorEq, eq_self, ne_eq, imp_self, forall_const, Nat.reduceEqDiff, Nat.reduceAdd, Nat.reduceSub, Nat.reduceMul, Nat.reduceLT, Nat.reduceLeDiff, Nat.reduceBEq, Nat.reduceDiv, Nat.reduceMod, Int.reduceToNat, Int.reduceNeg, Int.reduceAdd, Int.reduceSub, Int.reduceMul, Int.reduceEq, Int.reduceNe, Int.reduceLT, Int.reduceLE, Int.reduceGT, Int.reduceGE, hNid2]
    refine finI_of (XFin.wk (XFin.le (M' := M) (fun k bk hk => ?_) ⟨rfl, .inr ⟨fun T h => ?_, rfl⟩⟩))
    · have := lt_of_bnd hid2 hk
      rw [Mem.set_ne _ _ _ _ (by omega)]
      exact hR1.le _ _ (hle2 _ _ _ hk)
    · have := hno T [] h.2.1
      have := h.2.2.1
      omega
  have hown := hR1.own
  rw [rdB, txt] at hown
  have hNid2 := hR1.le _ _ (Mem.set_eq M id2 (.cells 24 [[.int .i64 0, .nils]] 0))
  simp -implicitDefEqProofs (maxSteps := 1000000) (disch := omega) only [↓xsP, ↓vc_seq, xsQ, xsT, xsR, xsD, ↓reduceIte, reduceCtorEq, eq_self, ne_eq, imp_self, forall_const, Nat.reduceEqDiff, Nat.reduceAdd, Nat.reduceSub, Nat.reduceMul, Nat.reduceLT, Nat.reduceLeDiff, Nat.reduceBEq, Nat.reduceDiv, Nat.reduceMod, Int.reduceToNat, Int.reduceNeg, Int.reduceAdd, Int.reduceSub, Int.reduceMul, Int.reduceEq, Int.reduceNe, Int.reduceLT, Int.reduceLE, Int.reduceGT, Int.reduceGE, hown, txt]
  have hemp : decide ((⟨t.toArray⟩ : ByteArray) = { data := #[] }) = decide (t = []) := by
    rw [decide_eq_decide]
    exact ba_eq t []
  by_cases ht : t = []
  rotate_left
  · have q2 : decide ((⟨t.toArray⟩ : ByteArray) = { data := #[] }) = false := by rw [hemp, decide_eq_false ht]
    simp -implicitDefEqProofs (maxSteps := 1000000) (disch := omega) only [↓xsP, ↓vc_seq, xsQ, xsT, xsR, xsD, ↓reduceIte, reduceCtorEq, eq_self, ne_eq, imp_self, forall_const, Nat.reduceEqDiff, Nat.reduceAdd, Nat.reduceSub, Nat.reduceMul, Nat.reduceLT, Nat.reduceLeDiff, Nat.reduceBEq, Nat.reduceDiv, Nat.reduceMod, Int.reduceToNat, Int.reduceNeg, Int.reduceAdd, Int.reduceSub, Int.reduceMul, Int.reduceEq, Int.reduceNe, Int.reduceLT, Int.reduceLE, Int.reduceGT, Int.reduceGE, hown, q2, hNid2]
    refine finI_of (XFin.wk (XFin.le (M' := M) (fun k bk hk => ?_) ⟨rfl, .inr ⟨fun U h => ?_, rfl⟩⟩))
    · have := lt_of_bnd hid2 hk
      rw [Mem.set_ne _ _ _ _ (by omega)]
      exact hR1.le _ _ (hle2 _ _ _ hk)
    · exact ht (treeAt_uniq h.2.1 hT).2.symm
  have q2 : decide ((⟨t.toArray⟩ : ByteArray) = { data := #[] }) = true := by rw [hemp, decide_eq_true ht]
  subst ht
  simp -implicitDefEqProofs (maxSteps := 1000000) (disch := omega) only [↓xsP, ↓vc_seq, xsQ, xsT, xsR, xsD, ↓reduceIte, reduceCtorEq, eq_self, ne_eq, imp_self, forall_const, Nat.reduceEqDiff, Nat.reduceAdd, Nat.reduceSub, Nat.reduceMul, Nat.reduceLT, Nat.reduceLeDiff, Nat.reduceBEq, Nat.reduceDiv, Nat.reduceMod, Int.reduceToNat, Int.reduceNeg, Int.reduceAdd, Int.reduceSub, Int.reduceMul, Int.reduceEq, Int.reduceNe, Int.reduceLT, Int.reduceLE, Int.reduceGT, Int.reduceGE, hown, q2]
  rw [List.nil_append, List.length_nil] at hR1
  obtain ⟨idn, rfl, hn, hBn, hni⟩ := hR1.ms (fun e => by
    have := congrArg List.length e
    rw [preR_len] at this
    have := T.size_pos
    simp at *
    omega)
  have hpl : (preR 0 T).length = (preN 0 T).length := by rw [preR_len, preN_len]
  have hbd := treeAt_pok hT 0
  rw [hpl]
  refine callI_gs (GStep.keep' hn (preR_wk T 0)) (callI_of (XCalls.mono (tree_rd (Mem.set_eq _ _ _) (by rw [List.length_map]; exact Nat.le_refl _) (tplain_spec 0 (preN 0 T) (by rw [preN_len]; omega) (fun x hx => by have := hbd x hx; omega) _)) ?_))
  have hfin : ∀ X : Blk, M.le (N.set idn X) := fun X k bk hk => by
    have h2 := hle2 (.cells 24 [[.int .i64 0, .nils]] 0) _ _ hk
    rw [Mem.set_ne _ _ _ _ (fun e => by rw [← e, hBn] at h2; cases h2)]
    exact hR1.le _ _ h2
  have hM2 := hid2 id2 (Nat.le_refl _)
  have hn2 : idn ≠ id2 := fun e => by
    rw [e, Mem.set_eq] at hBn
    cases hBn
  have hQ2 : ∀ X : Blk, (N.set idn X) id2 = some (.cells 24 [[.int .i64 0, .nils]] 0) := fun X => by rw [Mem.set_ne _ _ _ _ hn2]; exact hNid2
  rintro _ _ ⟨rfl, ⟨hm, rfl⟩ | ⟨U, hU, rfl⟩⟩
  · simp -implicitDefEqProofs (maxSteps := 1000000) (disch := omega) only [↓xsP, ↓vc_seq, xsQ, xsT, xsR, xsD, ↓reduceIte, reduceCtorEq, eq_self, ne_eq, imp_self, forall_const, Nat.reduceEqDiff, Nat.reduceAdd, Nat.reduceSub, Nat.reduceMul, Nat.reduceLT, Nat.reduceLeDiff, Nat.reduceBEq, Nat.reduceDiv, Nat.reduceMod, Int.reduceToNat, Int.reduceNeg, Int.reduceAdd, Int.reduceSub, Int.reduceMul, Int.reduceEq, Int.reduceNe, Int.reduceLT, Int.reduceLE, Int.reduceGT, Int.reduceGE, trA]
    refine newI_intro fun id7 hid7 => ?_
    have k7 := lt_of_bnd hid7 (hQ2 _)
    simp -implicitDefEqProofs (maxSteps := 1000000) (disch := omega) only [↓xsP, ↓vc_seq, xsQ, xsT, xsR, xsD, ↓reduceIte, reduceCtorEq, eq_self, ne_eq, imp_self, forall_const, Nat.reduceEqDiff, Nat.reduceAdd, Nat.reduceSub, Nat.reduceMul, Nat.reduceLT, Nat.reduceLeDiff, Nat.reduceBEq, Nat.reduceDiv, Nat.reduceMod, Int.reduceToNat, Int.reduceNeg, Int.reduceAdd, Int.reduceSub, Int.reduceMul, Int.reduceEq, Int.reduceNe, Int.reduceLT, Int.reduceLE, Int.reduceGT, Int.reduceGE, trA, hNid2]
    refine finI_of (XFin.wk (XFin.le (M' := M) (fun k bk hk => ?_) ⟨rfl, .inr ⟨fun U h => ?_, rfl⟩⟩))
    · have h2 := hfin (.cells 46 ((preN 0 T).map Nd.row) (preN 0 T).length) _ _ hk
      have h3 := lt_of_bnd hid7 h2
      have h4 := lt_of_bnd hid2 hk
      rw [Mem.set_ne _ _ _ _ (by omega), Mem.set_ne _ _ _ _ (by omega)]
      exact h2
    · obtain rfl := (treeAt_uniq h.2.1 hT).1
      rw [(good_pre h.2.2.2 h.2.2.1).may] at hm
      cases hm
  · simp -implicitDefEqProofs (maxSteps := 1000000) (disch := omega) only [↓xsP, ↓vc_seq, xsQ, xsT, xsR, xsD, ↓reduceIte, reduceCtorEq, eq_self, ne_eq, imp_self, forall_const, Nat.reduceEqDiff, Nat.reduceAdd, Nat.reduceSub, Nat.reduceMul, Nat.reduceLT, Nat.reduceLeDiff, Nat.reduceBEq, Nat.reduceDiv, Nat.reduceMod, Int.reduceToNat, Int.reduceNeg, Int.reduceAdd, Int.reduceSub, Int.reduceMul, Int.reduceEq, Int.reduceNe, Int.reduceLT, Int.reduceLE, Int.reduceGT, Int.reduceGE, trA]
    refine newI_intro fun id7 hid7 => ?_
    have k7 := lt_of_bnd hid7 (hQ2 _)
    simp -implicitDefEqProofs (maxSteps := 1000000) (disch := omega) only [↓xsP, ↓vc_seq, xsQ, xsT, xsR, xsD, ↓reduceIte, reduceCtorEq, eq_self, ne_eq, imp_self, forall_const, Nat.reduceEqDiff, Nat.reduceAdd, Nat.reduceSub, Nat.reduceMul, Nat.reduceLT, Nat.reduceLeDiff, Nat.reduceBEq, Nat.reduceDiv, Nat.reduceMod, Int.reduceToNat, Int.reduceNeg, Int.reduceAdd, Int.reduceSub, Int.reduceMul, Int.reduceEq, Int.reduceNe, Int.reduceLT, Int.reduceLE, Int.reduceGT, Int.reduceGE, trA, hNid2]
    have hUT : U = T := by
      obtain ⟨pl, g1, -⟩ := hU.hang
      have := preN_hang (preN 0 T) T 0 (fun j hj => by rw [Nat.zero_add]) (by rw [preN_len]; omega)
      exact (g1.uniq this).1
    subst hUT
    refine fin_ok (M' := M) (fun k bk hk => ?_) ⟨rfl, .inl ⟨U, ⟨h1, hT, by omega, hU.wf⟩, rfl⟩⟩
    have h2 := hfin (.cells 46 ((preN 0 U).map Nd.row) (preN 0 U).length) _ _ hk
    have h3 := lt_of_bnd hid7 h2
    have h4 := lt_of_bnd hid2 hk
    rw [Mem.set_ne _ _ _ _ (by omega), Mem.set_ne _ _ _ _ (by omega)]
    exact h2
end Go.X
set_option linter.unusedVariables false
set_option linter.unusedSimpArgs false
set_option maxHeartbeats 20000000
set_option maxRecDepth 100000
namespace Go.X
open Go.Proofs.Tryd (prog)

theorem numAt_mk {v : Int} (hv : IntOk' v) {c : UInt8} (hc : dg c = false) (t : List UInt8) : NumAt (Lib.itoa v ++ c :: t) v (c :: t) := ⟨hv, rfl, fun d hd => by
  simp only [List.head?_cons, Option.some.injEq] at hd
  rw [← hd]; exact hc⟩
theorem pairAt_mk {p : Pr} (hp : IntOk' p.key ∧ IntOk' p.val) {c : UInt8} (hc : dg c = false) (t : List UInt8) : PairAt (prT p ++ c :: t) p (c :: t) := by
  refine ⟨Lib.itoa p.val ++ c :: t, ?_, numAt_mk hp.2 hc t⟩
  have := numAt_mk hp.1 (c := 58) (by decide) (Lib.itoa p.val ++ c :: t)
  rw [prT, List.append_assoc, List.cons_append]
  exact this
theorem prsAt_mk {t : List UInt8} : ∀ (ps : List Pr), AllOk ps → PrsAt false ((ps.flatMap fun q => 44 :: prT q) ++ 124 :: t) ps (124 :: t)
  | [], _ => rfl
  | p :: r, h => by
    have ih := prsAt_mk (t := t) r fun x hx => h x (by simp [hx])
    refine ⟨prT p ++ ((r.flatMap fun q => 44 :: prT q) ++ 124 :: t), _, by simp, ?_, ih⟩
    cases r with
    | nil => exact pairAt_mk (h p (by simp)) (by decide) _
    | cons q r => exact pairAt_mk (c := 44) (h p (by simp)) (by decide) _
theorem prsAt_mk1 {t : List UInt8} (ps : List Pr) (h : AllOk ps) : PrsAt true (prsT ps ++ 124 :: t) ps (124 :: t) := by
  cases ps with
  | nil => exact rfl
  | cons p r =>
    have ih := prsAt_mk (t := t) r fun x hx => h x (by simp [hx])
    refine ⟨_, ?_, ih⟩
    rw [prsT, List.append_assoc]
    cases r with
    | nil => exact pairAt_mk (h p (by simp)) (by decide) _
    | cons q r => exact pairAt_mk (c := 44) (h p (by simp)) (by decide) _
theorem treeAt_mk : ∀ {T : Tr}, T.ints → ∀ t : List UInt8, TreeAt (T.txt ++ t) T t
  | .leaf ps st, h, t => by
    refine ⟨prsT ps ++ 124 :: (Lib.itoa st ++ 93 :: t), Lib.itoa st ++ 93 :: t, by simp [Tr.txt], prsAt_mk1 ps h.2, numAt_mk h.1 (by decide) t⟩
  | .fork k l r, h, t => by
    refine ⟨l.txt ++ 32 :: (Lib.itoa k ++ 32 :: (r.txt ++ 41 :: t)), Lib.itoa k ++ 32 :: (r.txt ++ 41 :: t), r.txt ++ 41 :: t, by simp [Tr.txt], treeAt_mk h.2.1 _, numAt_mk h.1 (by decide) _, treeAt_mk h.2.2 _⟩
theorem itoa_dig {n : Nat} (h : n < 10) : Lib.itoa (n : Int) = [UInt8.ofNat (48 + n)] := by
  rw [itoa_nonneg (by omega), Int.toNat_natCast, Lib.decDigits, dif_pos h]
theorem itoa_negdig {n : Nat} (h : n < 10) (h0 : 0 < n) : Lib.itoa (-(n : Int)) = [45, UInt8.ofNat (48 + n)] := by
  rw [itoa_neg (by omega), show (-(n : Int)).natAbs = n by omega, Lib.decDigits, dif_pos h]
def s23 : List UInt8 := [40, 91, 49, 58, 53, 124, 48, 93, 32, 51, 32, 91, 51, 58, 45, 50, 44, 52, 58, 48, 124, 55, 93, 41]
def t23 : Tr := .fork 3 (.leaf [⟨1, 5⟩] 0) (.leaf [⟨3, -2⟩, ⟨4, 0⟩] 7)
theorem ints23 : t23.ints := by
  refine ⟨⟨by decide, by decide⟩, ⟨⟨by decide, by decide⟩, fun p hp => ?_⟩, ⟨⟨by decide, by decide⟩, fun p hp => ?_⟩⟩
  · simp only [List.mem_cons, List.not_mem_nil, or_false] at hp
    subst hp
    exact ⟨⟨by decide, by decide⟩, by decide, by decide⟩
  · simp only [List.mem_cons, List.not_mem_nil, or_false] at hp
    rcases hp with rfl | rfl
    · exact ⟨⟨by decide, by decide⟩, by decide, by decide⟩
    · exact ⟨⟨by decide, by decide⟩, by decide, by decide⟩
theorem txt23 : t23.txt = s23 := by
  have e0 := itoa_dig (n := 0) (by decide)
  have e1 := itoa_dig (n := 1) (by decide)
  have e3 := itoa_dig (n := 3) (by decide)
  have e4 := itoa_dig (n := 4) (by decide)
  have e5 := itoa_dig (n := 5) (by decide)
  have e7 := itoa_dig (n := 7) (by decide)
  have e2 := itoa_negdig (n := 2) (by decide) (by decide)
  simp only [Int.cast_ofNat_Int] at e0 e1 e2 e3 e4 e5 e7
  simp only [t23, Tr.txt, prsT, prT, e0, e1, e2, e3, e4, e5, e7, List.flatMap_cons, List.flatMap_nil]
  rfl
theorem pars23 : ParsOk s23 t23 := by
  refine ⟨by decide, ?_, by decide, ?_⟩
  · have := treeAt_mk ints23 []
    rw [List.append_nil, txt23] at this
    exact this
  · refine ⟨by decide, by decide, ⟨?_, by decide, by decide, ?_⟩, ⟨?_, by decide, by decide, ?_⟩⟩
    · exact (rises_asc _).2 (by simp [Asc])
    · intro p hp
      simp only [List.mem_cons, List.not_mem_nil, or_false] at hp
      subst hp
      decide
    · exact (rises_asc _).2 (by simp [Asc])
    · intro p hp
      simp only [List.mem_cons, List.not_mem_nil, or_false] at hp
      rcases hp with rfl | rfl <;> decide
theorem pok_pars {s : List UInt8} {T : Tr} (h : ParsOk s T) : Pok (preN 0 T) := fun x hx => by
  have h1 := treeAt_pok h.2.1 0 x hx
  have := h.1
  omega
theorem good_pars {s : List UInt8} {T : Tr} (h : ParsOk s T) : Good 0 (preN 0 T) T := good_pre h.2.2.2 h.2.2.1
theorem awake23_spec (M : Mem) : XCalls Go.Proofs.Tryd.prog 9 [] M fun r M' => r = .l (.bool true) ∧ M' = M := by
  refine xcalls_intro (rs := [.tmp 0]) Go.Proofs.Tryd.func9 rfl (by kernel_rfl) rfl rfl (by kernel_rfl) (by simp) ?_
  simp -implicitDefEqProofs (maxSteps := 1000000) (disch := omega) only [↓xsP, ↓vc_seq, xsQ, xsT, xsR, xsD, ↓reduceIte, reduceCtorEq, eq_self, ne_eq, imp_self, forall_const, Nat.reduceEqDiff, Nat.reduceAdd, Nat.reduceSub, Nat.reduceMul, Nat.reduceLT, Nat.reduceLeDiff, Nat.reduceBEq, Nat.reduceDiv, Nat.reduceMod, Int.reduceToNat, Int.reduceNeg, Int.reduceAdd, Int.reduceSub, Int.reduceMul, Int.reduceEq, Int.reduceNe, Int.reduceLT, Int.reduceLE, Int.reduceGT, Int.reduceGE]
  refine callI_of ((parse_spec s23 (by decide) _).mono ?_)
  rintro _ M ⟨rfl, ⟨T, hT, rfl⟩ | ⟨hno, -⟩⟩
  rotate_left
  · exact absurd pars23 (hno _)
  obtain rfl := parsOk_uniq hT pars23
  have hG := good_pars pars23
  have hP := pok_pars pars23
  have hlen : (preN 0 t23).length ≤ 140737488355328 := by rw [preN_len]; decide
  have htx : t23.txt.length ≤ 1000000 := by rw [txt23]; decide
  simp -implicitDefEqProofs (maxSteps := 1000000) (disch := omega) only [↓xsP, ↓vc_seq, xsQ, xsT, xsR, xsD, ↓reduceIte, reduceCtorEq, eq_self, ne_eq, imp_self, forall_const, Nat.reduceEqDiff, Nat.reduceAdd, Nat.reduceSub, Nat.reduceMul, Nat.reduceLT, Nat.reduceLeDiff, Nat.reduceBEq, Nat.reduceDiv, Nat.reduceMod, Int.reduceToNat, Int.reduceNeg, Int.reduceAdd, Int.reduceSub, Int.reduceMul, Int.reduceEq, Int.reduceNe, Int.reduceLT, Int.reduceLE, Int.reduceGT, Int.reduceGE, trA]
  refine newI_intro fun id1 hid1 => ?_
  simp -implicitDefEqProofs (maxSteps := 1000000) (disch := omega) only [↓xsP, ↓vc_seq, xsQ, xsT, xsR, xsD, ↓reduceIte, reduceCtorEq, eq_self, ne_eq, imp_self, forall_const, Nat.reduceEqDiff, Nat.reduceAdd, Nat.reduceSub, Nat.reduceMul, Nat.reduceLT, Nat.reduceLeDiff, Nat.reduceBEq, Nat.reduceDiv, Nat.reduceMod, Int.reduceToNat, Int.reduceNeg, Int.reduceAdd, Int.reduceSub, Int.reduceMul, Int.reduceEq, Int.reduceNe, Int.reduceLT, Int.reduceLE, Int.reduceGT, Int.reduceGE, trA]
  refine callI_of ((vkeys_spec 0 (preN 0 t23) hlen hP hG _).mono ?_)
  rintro _ _ ⟨rfl, rfl⟩
  simp -implicitDefEqProofs (maxSteps := 1000000) (disch := omega) only [↓xsP, ↓vc_seq, xsQ, xsT, xsR, xsD, ↓reduceIte, reduceCtorEq, eq_self, ne_eq, imp_self, forall_const, Nat.reduceEqDiff, Nat.reduceAdd, Nat.reduceSub, Nat.reduceMul, Nat.reduceLT, Nat.reduceLeDiff, Nat.reduceBEq, Nat.reduceDiv, Nat.reduceMod, Int.reduceToNat, Int.reduceNeg, Int.reduceAdd, Int.reduceSub, Int.reduceMul, Int.reduceEq, Int.reduceNe, Int.reduceLT, Int.reduceLE, Int.reduceGT, Int.reduceGE, trA]
  have w1 : decide (((preN 0 t23).length : Int) = 3) = true := by rw [preN_len]; decide
  have hk : t23.keys = [3] := rfl
  simp -implicitDefEqProofs (maxSteps := 1000000) (disch := omega) only [↓xsP, ↓vc_seq, xsQ, xsT, xsR, xsD, ↓reduceIte, reduceCtorEq, eq_self, ne_eq, imp_self, forall_const, Nat.reduceEqDiff, Nat.reduceAdd, Nat.reduceSub, Nat.reduceMul, Nat.reduceLT, Nat.reduceLeDiff, Nat.reduceBEq, Nat.reduceDiv, Nat.reduceMod, Int.reduceToNat, Int.reduceNeg, Int.reduceAdd, Int.reduceSub, Int.reduceMul, Int.reduceEq, Int.reduceNe, Int.reduceLT, Int.reduceLE, Int.reduceGT, Int.reduceGE, trA, w1]
  refine call_of (vdeep_spec 0 (preN 0 t23) hlen hP hG _) ?_
  have hd : (t23.deep : Int) = 1 := rfl
  rw [hd]
  have hix : ∀ X : Mem, indexAddrA Go.Proofs.Tryd.prog X 30 (.l (.sl [[.int .i64 3]])) (.l (.int .i64 0)) = some (.l (.rp [.int .i64 3])) := fun X => by
    unfold indexAddrA
    rw [ti_30]
    simp only [ti_3]
    rfl
  simp -implicitDefEqProofs (maxSteps := 1000000) (disch := omega) only [↓xsP, ↓vc_seq, xsQ, xsT, xsR, xsD, ↓reduceIte, reduceCtorEq, eq_self, ne_eq, imp_self, forall_const, Nat.reduceEqDiff, Nat.reduceAdd, Nat.reduceSub, Nat.reduceMul, Nat.reduceLT, Nat.reduceLeDiff, Nat.reduceBEq, Nat.reduceDiv, Nat.reduceMod, Int.reduceToNat, Int.reduceNeg, Int.reduceAdd, Int.reduceSub, Int.reduceMul, Int.reduceEq, Int.reduceNe, Int.reduceLT, Int.reduceLE, Int.reduceGT, Int.reduceGE, trA, w1, hk, Int.cast_ofNat_Int, hix]
  refine call_of (vtext_spec 0 (preN 0 t23) hlen hP hG ints23 htx _) ?_
  rw [txt23]
  simp -implicitDefEqProofs (maxSteps := 1000000) (disch := omega) only [↓xsP, ↓vc_seq, xsQ, xsT, xsR, xsD, ↓reduceIte, reduceCtorEq, eq_self, ne_eq, imp_self, forall_const, Nat.reduceEqDiff, Nat.reduceAdd, Nat.reduceSub, Nat.reduceMul, Nat.reduceLT, Nat.reduceLeDiff, Nat.reduceBEq, Nat.reduceDiv, Nat.reduceMod, Int.reduceToNat, Int.reduceNeg, Int.reduceAdd, Int.reduceSub, Int.reduceMul, Int.reduceEq, Int.reduceNe, Int.reduceLT, Int.reduceLE, Int.reduceGT, Int.reduceGE, txt]
  exact fin_ok (le_new (Mem.le_refl _) hid1) ⟨congrArg (fun b => AV.l (Lf.bool b)) (decide_eq_true rfl), rfl⟩
end Go.X
set_option linter.unusedVariables false
set_option linter.unusedSimpArgs false
set_option maxRecDepth 100000
namespace Go.X
open Go.Proofs.Tryd (prog)

theorem hang_ok {ns : List Nd} (hp : ∀ x ∈ ns, NdOk x) {a : Int} {T : Tr} {pl : List Nat} (h : Hang ns a T pl) : T.ints := by
  induction h with
  | @leaf i ps st hi hn =>
    have := hp _ (getD_mem' ns default hi)
    rw [hn] at this
    exact ⟨this.2.2.1, this.2.2.2⟩
  | @fork i k l r L R pl pr hi hn hl hr ihl ihr =>
    have := hp _ (getD_mem' ns default hi)
    rw [hn] at this
    exact ⟨this.2.1, ihl, ihr⟩
theorem Good.ints {root : Int} {ns : List Nd} {T : Tr} (h : Good root ns T) (hp : ∀ x ∈ ns, NdOk x) : T.ints := by
  obtain ⟨pl, hH, hn⟩ := h.hang
  exact hang_ok hp hH
/-- Keys rise, and lie within. -/
theorem keys_rise : ∀ (T : Tr) (k : Ks), Wf T k → T.keys.Pairwise (· < ·) ∧ ∀ y ∈ T.keys, (k.isLeast = true → k.least < y) ∧ (k.isMost = true → y < k.most)
  | .leaf _ _, k, _ => ⟨.nil, fun y hy => by cases hy⟩
  | .fork x l r, k, ⟨h1, h2, h3, h4⟩ => by
    obtain ⟨l1, l2⟩ := keys_rise l _ h3
    obtain ⟨r1, r2⟩ := keys_rise r _ h4
    have hx : (k.isLeast = true → k.least < x) ∧ (k.isMost = true → x < k.most) := by
      simp only [Ks.has, Bool.and_eq_true, Bool.or_eq_true, Bool.not_eq_true', decide_eq_true_eq] at h1
      refine ⟨fun h => ?_, fun h => ?_⟩
      · rcases h1.1 with h5 | h5
        · rw [h] at h5; cases h5
        · have : x ≠ k.least := fun e => h2 ⟨h, e⟩
          omega
      · rcases h1.2 with h5 | h5
        · rw [h] at h5; cases h5
        · exact h5
    have hly : ∀ y ∈ l.keys, y < x := fun y hy => (l2 y hy).2 rfl
    have hry : ∀ y ∈ r.keys, x < y := fun y hy => (r2 y hy).1 rfl
    refine ⟨?_, fun y hy => ?_⟩
    · rw [Tr.keys, List.pairwise_append]
      refine ⟨l1, List.pairwise_cons.2 ⟨hry, r1⟩, fun a ha b hb => ?_⟩
      rcases List.mem_cons.1 hb with rfl | hb
      · exact hly a ha
      · have := hly a ha; have := hry b hb; omega
    · rw [Tr.keys, List.mem_append, List.mem_cons] at hy
      rcases hy with hy | rfl | hy
      · exact ⟨fun h => (l2 y hy).1 h, fun h => by have := hly y hy; have := hx.2 h; omega⟩
      · exact hx
      · exact ⟨fun h => by have := hry y hy; have := hx.1 h; omega, fun h => (r2 y hy).2 h⟩
theorem NdOk.pok {ns : List Nd} (h : ∀ x ∈ ns, NdOk x) : Pok ns := fun x hx => (h x hx).1
end Go.X
set_option linter.unusedVariables false
set_option linter.unusedSimpArgs false
set_option maxHeartbeats 20000000
set_option maxRecDepth 100000
namespace Go.X
open Go.Proofs.Tryd (prog)

/-- How many routes are above the leaf of a key. -/
def Tr.path : Tr → Int → Nat
  | .leaf _ _, _ => 0
  | .fork x l r, k => 1 + (if k ≥ x then r.path k else l.path k)
structure FSt (A N : Mem) (idp : Nat) (a : Int) (us rs : List (List Lf)) (xu xr : Lf) : Prop where
  own : N idp = some (.cells 39 [[.int .i64 a, xu, xr]] 0)
  bid : A idp = none
  le : A.le N
  len : us.length = rs.length
  sl : (us = [] ∧ xu = .nils ∧ xr = .nils) ∨ ∃ idu idr, xu = .ms idu 0 us.length ∧ xr = .ms idr 0 rs.length ∧ N idu = some (.cells 3 us 0) ∧ N idr = some (.cells 4 rs 0) ∧ A idu = none ∧ A idr = none
theorem FSt.new {A N : Mem} {idp : Nat} {a : Int} {us rs : List (List Lf)} {xu xr : Lf} (h : FSt A N idp a us rs xu xr) {i : Nat} (hi : ∀ j, i ≤ j → N j = none) (X : Blk) : FSt A (N.set i X) idp a us rs xu xr := by
  have k1 := lt_of_bnd hi h.own
  refine ⟨by rw [Mem.set_ne _ _ _ _ (by omega)]; exact h.own, h.bid, fun k bk hk => ?_, h.len, ?_⟩
  · have h1 := h.le _ _ hk
    have := lt_of_bnd hi h1
    rw [Mem.set_ne _ _ _ _ (by omega)]
    exact h1
  · rcases h.sl with h' | ⟨idu, idr, g1, g2, g3, g4, g5, g6⟩
    · exact .inl h'
    · have k2 := lt_of_bnd hi g3
      have k3 := lt_of_bnd hi g4
      exact .inr ⟨idu, idr, g1, g2, by rw [Mem.set_ne _ _ _ _ (by omega)]; exact g3, by rw [Mem.set_ne _ _ _ _ (by omega)]; exact g4, g5, g6⟩
theorem FSt.to {A N : Mem} {idp : Nat} {a : Int} {us rs : List (List Lf)} {xu xr : Lf} (h : FSt A N idp a us rs xu xr) (b : Int) : FSt A (N.set idp (.cells 39 [[.int .i64 b, xu, xr]] 0)) idp b us rs xu xr := by
  refine ⟨Mem.set_eq _ _ _, h.bid, fun k bk hk => ?_, h.len, ?_⟩
  · rw [Mem.set_ne _ _ _ _ (fun e => by rw [← e, h.bid] at hk; cases hk)]
    exact h.le _ _ hk
  · rcases h.sl with h' | ⟨idu, idr, g1, g2, g3, g4, g5, g6⟩
    · exact .inl h'
    · exact .inr ⟨idu, idr, g1, g2, by rw [Mem.set_ne _ _ _ _ (Ne.symm (ne_ty g3 h.own (by decide)))]; exact g3, by rw [Mem.set_ne _ _ _ _ (Ne.symm (ne_ty g4 h.own (by decide)))]; exact g4, g5, g6⟩
theorem find_spec23 (root : Int) (ns : List Nd) (hl : ns.length ≤ 140737488355328) (hp : Pok ns) {T : Tr} (hT : Good root ns T) (k : Int) (M : Mem) :
    XCalls Go.Proofs.Tryd.prog 21 [trA root ns, .l (.int .i64 k)] M fun r M' => M' = M ∧ ∃ (a : Int) (us rs : List (List Lf)), us.length = T.path k ∧ r = .tup [.agg [.int .i64 a, .sl us, .sl rs], .l (.bool true)] := by
  obtain ⟨pl, hH, -⟩ := hT.hang
  have hsz := hT.all
  have hfw := hT.few
  refine xcalls_intro (rs := [.cell 4 39, .tmp 5]) Go.Proofs.Tryd.func21 rfl (by kernel_rfl) rfl rfl (by kernel_rfl) (by simp) ?_
  simp -implicitDefEqProofs (maxSteps := 1000000) (disch := omega) only [↓xsP, ↓vc_seq, xsQ, xsT, xsR, xsD, ↓reduceIte, reduceCtorEq, eq_self, ne_eq, imp_self, forall_const, Nat.reduceEqDiff, Nat.reduceAdd, Nat.reduceSub, Nat.reduceMul, Nat.reduceLT, Nat.reduceLeDiff, Nat.reduceBEq, Nat.reduceDiv, Nat.reduceMod, Int.reduceToNat, Int.reduceNeg, Int.reduceAdd, Int.reduceSub, Int.reduceMul, Int.reduceEq, Int.reduceNe, Int.reduceLT, Int.reduceLE, Int.reduceGT, Int.reduceGE, trA]
  refine newI_intro fun id2 hid2 => ?_
  simp -implicitDefEqProofs (maxSteps := 1000000) (disch := omega) only [↓xsP, ↓vc_seq, xsQ, xsT, xsR, xsD, ↓reduceIte, reduceCtorEq, eq_self, ne_eq, imp_self, forall_const, Nat.reduceEqDiff, Nat.reduceAdd, Nat.reduceSub, Nat.reduceMul, Nat.reduceLT, Nat.reduceLeDiff, Nat.reduceBEq, Nat.reduceDiv, Nat.reduceMod, Int.reduceToNat, Int.reduceNeg, Int.reduceAdd, Int.reduceSub, Int.reduceMul, Int.reduceEq, Int.reduceNe, Int.reduceLT, Int.reduceLE, Int.reduceGT, Int.reduceGE, trA]
  refine newI_intro fun id4 hid4 => ?_
  obtain ⟨k24, hid4'⟩ := bnd_new hid4
  simp -implicitDefEqProofs (maxSteps := 1000000) (disch := omega) only [↓xsP, ↓vc_seq, xsQ, xsT, xsR, xsD, ↓reduceIte, reduceCtorEq, eq_self, ne_eq, imp_self, forall_const, Nat.reduceEqDiff, Nat.reduceAdd, Nat.reduceSub, Nat.reduceMul, Nat.reduceLT, Nat.reduceLeDiff, Nat.reduceBEq, Nat.reduceDiv, Nat.reduceMod, Int.reduceToNat, Int.reduceNeg, Int.reduceAdd, Int.reduceSub, Int.reduceMul, Int.reduceEq, Int.reduceNe, Int.reduceLT, Int.reduceLE, Int.reduceGT, Int.reduceGE, trA]
  refine call_of (tmay_spec root ns hl hp _) ?_
  rw [hT.may]
  simp -implicitDefEqProofs (maxSteps := 1000000) (disch := omega) only [↓xsP, ↓vc_seq, xsQ, xsT, xsR, xsD, ↓reduceIte, reduceCtorEq, eq_self, ne_eq, imp_self, forall_const, Nat.reduceEqDiff, Nat.reduceAdd, Nat.reduceSub, Nat.reduceMul, Nat.reduceLT, Nat.reduceLeDiff, Nat.reduceBEq, Nat.reduceDiv, Nat.reduceMod, Int.reduceToNat, Int.reduceNeg, Int.reduceAdd, Int.reduceSub, Int.reduceMul, Int.reduceEq, Int.reduceNe, Int.reduceLT, Int.reduceLE, Int.reduceGT, Int.reduceGE, trA]
  refine newI_intro fun id6 hid6 => ?_
  obtain ⟨k46, hid6'⟩ := bnd_new hid6
  simp -implicitDefEqProofs (maxSteps := 1000000) (disch := omega) only [↓xsP, ↓vc_seq, xsQ, xsT, xsR, xsD, ↓reduceIte, reduceCtorEq, eq_self, ne_eq, imp_self, forall_const, Nat.reduceEqDiff, Nat.reduceAdd, Nat.reduceSub, Nat.reduceMul, Nat.reduceLT, Nat.reduceLeDiff, Nat.reduceBEq, Nat.reduceDiv, Nat.reduceMod, Int.reduceToNat, Int.reduceNeg, Int.reduceAdd, Int.reduceSub, Int.reduceMul, Int.reduceEq, Int.reduceNe, Int.reduceLT, Int.reduceLE, Int.reduceGT, Int.reduceGE, trA]
  obtain ⟨A, hA⟩ : ∃ A, A = (M.set id2 (.cells 24 [[.int .i64 root, .sl (ns.map Nd.row)]] 0)).set id4 (.cells 39 [[.int .i64 0, .nils, .nils]] 0) := ⟨_, rfl⟩
  have hA2 : A id2 = some (.cells 24 [[.int .i64 root, .sl (ns.map Nd.row)]] 0) := by rw [hA, Mem.set_ne _ _ _ _ (by omega), Mem.set_eq]
  have hA4 : A id4 = some (.cells 39 [[.int .i64 0, .nils, .nils]] 0) := by rw [hA, Mem.set_eq]
  have hMA : M.le A := by rw [hA]; exact le_new (le_new (Mem.le_refl _) hid2) hid4'
  have hM4 : M id4 = none := hid4' id4 (Nat.le_refl _)
  rw [← hA]
  have hid6A : ∀ j, id6 ≤ j → A j = none := by rw [hA]; exact hid6
  have h0 : FSt A (A.set id6 (.cells 39 [[.int .i64 root, .nils, .nils]] 0)) id6 root [] [] .nils .nils :=
    ⟨Mem.set_eq _ _ _, hid6A _ (Nat.le_refl _), le_new (Mem.le_refl _) hid6A, rfl, .inl ⟨rfl, rfl, rfl⟩⟩
  clear hid6 hid6' hid4 hid4' hA
  refine loopI_of (xloop (by kernel_rfl) (fun kk fr N => ∃ (a : Int) (T' : Tr) (pl' : List Nat) (us rs : List (List Lf)) (xu xr : Lf), kk = T'.size ∧ Hang ns a T' pl' ∧ FSt A N id6 a us rs xu xr ∧ us.length + T'.path k = T.path k ∧ us.length + T'.size ≤ T.size ∧ fr 1 = .l (.int .i64 k) ∧ fr 2 = .l (.ptr id2 0 0) ∧ fr 4 = .l (.ptr id4 0 0) ∧ fr 6 = .l (.ptr id6 0 0)) T.size ?_ ?_)
  · refine ⟨root, T, pl, [], [], .nils, .nils, rfl, hH, h0, by simp, by simp, by simp -implicitDefEqProofs (maxSteps := 1000000) (disch := omega) only [↓xsP, ↓vc_seq, xsQ, xsT, xsR, xsD, ↓reduceIte, reduceCtorEq, eq_self, ne_eq, imp_self, forall_const, Nat.reduceEqDiff, Nat.reduceAdd, Nat.reduceSub, Nat.reduceMul, Nat.reduceLT, Nat.reduceLeDiff, Nat.reduceBEq, Nat.reduceDiv, Nat.reduceMod, Int.reduceToNat, Int.reduceNeg, Int.reduceAdd, Int.reduceSub, Int.reduceMul, Int.reduceEq, Int.reduceNe, Int.reduceLT, Int.reduceLE, Int.reduceGT, Int.reduceGE], by simp -implicitDefEqProofs (maxSteps := 1000000) (disch := omega) only [↓xsP, ↓vc_seq, xsQ, xsT, xsR, xsD, ↓reduceIte, reduceCtorEq, eq_self, ne_eq, imp_self, forall_const, Nat.reduceEqDiff, Nat.reduceAdd, Nat.reduceSub, Nat.reduceMul, Nat.reduceLT, Nat.reduceLeDiff, Nat.reduceBEq, Nat.reduceDiv, Nat.reduceMod, Int.reduceToNat, Int.reduceNeg, Int.reduceAdd, Int.reduceSub, Int.reduceMul, Int.reduceEq, Int.reduceNe, Int.reduceLT, Int.reduceLE, Int.reduceGT, Int.reduceGE], by simp -implicitDefEqProofs (maxSteps := 1000000) (disch := omega) only [↓xsP, ↓vc_seq, xsQ, xsT, xsR, xsD, ↓reduceIte, reduceCtorEq, eq_self, ne_eq, imp_self, forall_const, Nat.reduceEqDiff, Nat.reduceAdd, Nat.reduceSub, Nat.reduceMul, Nat.reduceLT, Nat.reduceLeDiff, Nat.reduceBEq, Nat.reduceDiv, Nat.reduceMod, Int.reduceToNat, Int.reduceNeg, Int.reduceAdd, Int.reduceSub, Int.reduceMul, Int.reduceEq, Int.reduceNe, Int.reduceLT, Int.reduceLE, Int.reduceGT, Int.reduceGE], by simp -implicitDefEqProofs (maxSteps := 1000000) (disch := omega) only [↓xsP, ↓vc_seq, xsQ, xsT, xsR, xsD, ↓reduceIte, reduceCtorEq, eq_self, ne_eq, imp_self, forall_const, Nat.reduceEqDiff, Nat.reduceAdd, Nat.reduceSub, Nat.reduceMul, Nat.reduceLT, Nat.reduceLeDiff, Nat.reduceBEq, Nat.reduceDiv, Nat.reduceMod, Int.reduceToNat, Int.reduceNeg, Int.reduceAdd, Int.reduceSub, Int.reduceMul, Int.reduceEq, Int.reduceNe, Int.reduceLT, Int.reduceLE, Int.reduceGT, Int.reduceGE]⟩
  rintro kk fr N ⟨a, T', pl', us, rs, xu, xr, rfl, hH', hF, hpa, hsi, f1, f2, f4, f6⟩
  have hN2 := hF.le _ _ hA2
  have hN4 := hF.le _ _ hA4
  have hown := hF.own
  cases hH' with
  | @leaf i ps st hi hn =>
    have hro : (leafN ps st).route = false := rfl
    simp -implicitDefEqProofs (maxSteps := 1000000) (disch := omega) only [↓xsP, ↓vc_seq, xsQ, xsT, xsR, xsD, ↓reduceIte, reduceCtorEq, eq_self, ne_eq, imp_self, forall_const, Nat.reduceEqDiff, Nat.reduceAdd, Nat.reduceSub, Nat.reduceMul, Nat.reduceLT, Nat.reduceLeDiff, Nat.reduceBEq, Nat.reduceDiv, Nat.reduceMod, Int.reduceToNat, Int.reduceNeg, Int.reduceAdd, Int.reduceSub, Int.reduceMul, Int.reduceEq, Int.reduceNe, Int.reduceLT, Int.reduceLE, Int.reduceGT, Int.reduceGE, f1, f2, f4, f6, hN2, hown, hn, hro, row_nd, hN4]
    have hus : us.length = T.path k := by simpa [Tr.path] using hpa
    rcases hF.sl with ⟨rfl, rfl, rfl⟩ | ⟨idu, idr, rfl, rfl, hu, hr, hAu, hAr⟩
    · have hrs : rs = [] := List.length_eq_zero_iff.1 (by rw [← hF.len]; rfl)
      refine finI_of (XFin.wk (XFin.le (M' := M) (fun j bk hj => ?_) ⟨rfl, (i : Int), [], [], hus, rfl⟩))
      rw [Mem.set_ne _ _ _ _ (fun e => by rw [← e, hM4] at hj; cases hj)]
      exact hF.le _ _ (hMA _ _ hj)
    · have hru : idr ≠ idu := ne_ty hr hu (by decide)
      have h4u : id4 ≠ idu := fun e => by rw [← e, hA4] at hAu; cases hAu
      have h4r : id4 ≠ idr := fun e => by rw [← e, hA4] at hAr; cases hAr
      refine finI_of (XFin.frz idu (by rw [Mem.set_ne _ _ _ _ h4u]; exact hu) (XFin.frz idr (by rw [Mem.set_ne _ _ _ _ (Ne.symm hru), Mem.set_ne _ _ _ _ h4r]; exact hr) (XFin.le (M' := M) (fun j bk hj => ?_) ⟨rfl, (i : Int), us, rs, hus, ?_⟩)))
      · have hj2 := hMA _ _ hj
        have k4 : id4 ≠ j := fun e => by rw [← e, hM4] at hj; cases hj
        have ku : idu ≠ j := fun e => by rw [← e, hAu] at hj2; cases hj2
        have kr : idr ≠ j := fun e => by rw [← e, hAr] at hj2; cases hj2
        rw [Mem.set_ne _ _ _ _ kr, Mem.set_ne _ _ _ _ ku, Mem.set_ne _ _ _ _ k4]
        exact hF.le _ _ hj2
      · have e1 : (us.drop 0).take us.length = us := by rw [List.drop_zero, List.take_of_length_le (Nat.le_refl _)]
        have e2 : (rs.drop 0).take rs.length = rs := by rw [List.drop_zero, List.take_of_length_le (Nat.le_refl _)]
        have hru' : (idr = idu) = False := eq_false hru
        simp only [frzA, frz1, frzL, List.map_cons, List.map_nil, Nat.zero_add, Nat.le_refl, and_self, and_true, if_true, hru', false_and, if_false, e1, e2]
  | @fork i x l r L R pl pr hi hn hl hr =>
    have hro : (forkN x l r).route = true := rfl
    simp -implicitDefEqProofs (maxSteps := 1000000) (disch := omega) only [↓xsP, ↓vc_seq, xsQ, xsT, xsR, xsD, ↓reduceIte, reduceCtorEq, eq_self, ne_eq, imp_self, forall_const, Nat.reduceEqDiff, Nat.reduceAdd, Nat.reduceSub, Nat.reduceMul, Nat.reduceLT, Nat.reduceLeDiff, Nat.reduceBEq, Nat.reduceDiv, Nat.reduceMod, Int.reduceToNat, Int.reduceNeg, Int.reduceAdd, Int.reduceSub, Int.reduceMul, Int.reduceEq, Int.reduceNe, Int.reduceLT, Int.reduceLE, Int.reduceGT, Int.reduceGE, f1, f2, f4, f6, hN2, hown, hn, hro, row_nd]
    refine newI_intro fun id7 hid7 => ?_
    have hF7 := hF.new hid7 (.cells 46 [[.bool true, .int .i64 (forkN x l r).key, .int .i64 (forkN x l r).left, .int .i64 (forkN x l r).right, .sl ((forkN x l r).pairs.map Pr.row), .int .i64 (forkN x l r).stat]] 0)
    have h77 := Mem.set_eq N id7 (.cells 46 [[.bool true, .int .i64 (forkN x l r).key, .int .i64 (forkN x l r).left, .int .i64 (forkN x l r).right, .sl ((forkN x l r).pairs.map Pr.row), .int .i64 (forkN x l r).stat]] 0)
    have k76 := lt_of_bnd hid7 hown
    simp -implicitDefEqProofs (maxSteps := 1000000) (disch := omega) only [↓xsP, xsQ, xsT, xsR, xsD, ↓reduceIte, reduceCtorEq, eq_self, ne_eq, imp_self, forall_const, Nat.reduceEqDiff, Nat.reduceAdd, Nat.reduceSub, Nat.reduceMul, Nat.reduceLT, Nat.reduceLeDiff, Nat.reduceBEq, Nat.reduceDiv, Nat.reduceMod, Int.reduceToNat, Int.reduceNeg, Int.reduceAdd, Int.reduceSub, Int.reduceMul, Int.reduceEq, Int.reduceNe, Int.reduceLT, Int.reduceLE, Int.reduceGT, Int.reduceGE, f1, f2, f4, f6, hN2, hown, hn, hro, row_nd]
    generalize N.set id7 (.cells 46 [[.bool true, .int .i64 (forkN x l r).key, .int .i64 (forkN x l r).left, .int .i64 (forkN x l r).right, .sl ((forkN x l r).pairs.map Pr.row), .int .i64 (forkN x l r).stat]] 0) = N7 at hF7 h77 ⊢
    replace h77 : N7 id7 = some (.cells 46 [[.bool true, .int .i64 x, .int .i64 l, .int .i64 r, .sl [], .int .i64 0]] 0) := h77
    have hown7 := hF7.own
    have hleq : (forkN x l r).key = x := rfl
    refine vc_seq_of ?_
    simp -implicitDefEqProofs (maxSteps := 1000000) (disch := omega) only [↓xsP, xsQ, xsT, xsR, xsD, ↓reduceIte, reduceCtorEq, eq_self, ne_eq, imp_self, forall_const, Nat.reduceEqDiff, Nat.reduceAdd, Nat.reduceSub, Nat.reduceMul, Nat.reduceLT, Nat.reduceLeDiff, Nat.reduceBEq, Nat.reduceDiv, Nat.reduceMod, Int.reduceToNat, Int.reduceNeg, Int.reduceAdd, Int.reduceSub, Int.reduceMul, Int.reduceEq, Int.reduceNe, Int.reduceLT, Int.reduceLE, Int.reduceGT, Int.reduceGE, f1, f2, f4, f6, h77]
    obtain ⟨c, hc⟩ : ∃ c, decide (k ≥ x) = c := ⟨_, rfl⟩
    refine vc_cut (fun fr' N' => (∃ xu' xr', FSt A N' id6 i (us ++ [[.int .i64 i]]) (rs ++ [[.bool c]]) xu' xr') ∧ N' id7 = some (.cells 46 [[.bool true, .int .i64 x, .int .i64 l, .int .i64 r, .sl [], .int .i64 0]] 0) ∧ fr' 1 = .l (.int .i64 k) ∧ fr' 2 = .l (.ptr id2 0 0) ∧ fr' 4 = .l (.ptr id4 0 0) ∧ fr' 6 = .l (.ptr id6 0 0) ∧ fr' 7 = .l (.ptr id7 0 0) ∧ fr' 8 = .l (.bool c)) ?_ ?_
    · rcases hF7.sl with ⟨rfl, rfl, rfl⟩ | ⟨idu, idr, rfl, rfl, hu, hr', hAu, hAr⟩
      · obtain rfl : rs = [] := List.length_eq_zero_iff.1 (by rw [← hF7.len]; rfl)
        simp -implicitDefEqProofs (maxSteps := 1000000) (disch := omega) only [↓xsP, ↓vc_seq, xsQ, xsT, xsR, xsD, ↓reduceIte, reduceCtorEq, eq_self, ne_eq, imp_self, forall_const, Nat.reduceEqDiff, Nat.reduceAdd, Nat.reduceSub, Nat.reduceMul, Nat.reduceLT, Nat.reduceLeDiff, Nat.reduceBEq, Nat.reduceDiv, Nat.reduceMod, Int.reduceToNat, Int.reduceNeg, Int.reduceAdd, Int.reduceSub, Int.reduceMul, Int.reduceEq, Int.reduceNe, Int.reduceLT, Int.reduceLE, Int.reduceGT, Int.reduceGE, f1, f2, f4, f6, h77, hown7, hc]
        refine xwrite (fun n0 => [ (12, id6), (14, id6)]) [12, 14] [4, 5, 9, 10] [[], [], [], [], [], [], [4, 5], [4, 5], [4, 5], [4, 5], [], [9, 10], [], [], []] (by kernel_rfl) (by kernel_rfl) (by kernel_rfl) (by kernel_rfl) (fun n0 hn0 => ⟨rfl, ?_, ?_⟩)
        · exact TOk_cons (.inl (lt_of_bnd hn0 hown7)) (TOk_cons (.inl (lt_of_bnd hn0 hown7)) (TOk_nil _ _))
        have y6 := lt_of_bnd hn0 hown7
        have y7 := lt_of_bnd hn0 h77
        simp -implicitDefEqProofs (maxSteps := 1000000) (disch := omega) only [↓xsP, ↓vc_seq, xsQ, xsT, xsR, xsD, ↓reduceIte, reduceCtorEq, eq_self, ne_eq, imp_self, forall_const, Nat.reduceEqDiff, Nat.reduceAdd, Nat.reduceSub, Nat.reduceMul, Nat.reduceLT, Nat.reduceLeDiff, Nat.reduceBEq, Nat.reduceDiv, Nat.reduceMod, Int.reduceToNat, Int.reduceNeg, Int.reduceAdd, Int.reduceSub, Int.reduceMul, Int.reduceEq, Int.reduceNe, Int.reduceLT, Int.reduceLE, Int.reduceGT, Int.reduceGE, f1, f2, f4, f6, h77, hown7, hc]
        refine ⟨.inl (by decide), ?_⟩
        refine wapp_sb ti_30 rfl ti_3 (by kernel_rfl) (by decide) (by decide) SB.nil (bs := [[.int .i64 i]]) (by unfold srcRows; rw [if_pos rfl]; simp only [Mem.set_eq]; rfl) (by simp) (by simp) ?_
        simp only [dl, List.map_nil, List.map_cons, List.nil_append, List.cons_append]
        simp -implicitDefEqProofs (maxSteps := 1000000) (disch := omega) only [↓xsP, ↓vc_seq, xsQ, xsT, xsR, xsD, ↓reduceIte, reduceCtorEq, eq_self, ne_eq, imp_self, forall_const, Nat.reduceEqDiff, Nat.reduceAdd, Nat.reduceSub, Nat.reduceMul, Nat.reduceLT, Nat.reduceLeDiff, Nat.reduceBEq, Nat.reduceDiv, Nat.reduceMod, Int.reduceToNat, Int.reduceNeg, Int.reduceAdd, Int.reduceSub, Int.reduceMul, Int.reduceEq, Int.reduceNe, Int.reduceLT, Int.reduceLE, Int.reduceGT, Int.reduceGE, f1, f2, f4, f6, h77, hown7, hc]
        refine ⟨.inl (by decide), .inl (by decide), ?_⟩
        refine wapp_sb ti_37 rfl ti_4 (by kernel_rfl) (by decide) (by decide) SB.nil (bs := [[.bool c]]) (by unfold srcRows; rw [if_pos rfl]; simp only [Mem.set_eq]; rfl) (by simp) (by simp) ?_
        simp only [dl, List.map_nil, List.map_cons, List.nil_append, List.cons_append]
        simp -implicitDefEqProofs (maxSteps := 1000000) (disch := omega) only [↓xsP, ↓vc_seq, xsQ, xsT, xsR, xsD, ↓reduceIte, reduceCtorEq, eq_self, ne_eq, imp_self, forall_const, Nat.reduceEqDiff, Nat.reduceAdd, Nat.reduceSub, Nat.reduceMul, Nat.reduceLT, Nat.reduceLeDiff, Nat.reduceBEq, Nat.reduceDiv, Nat.reduceMod, Int.reduceToNat, Int.reduceNeg, Int.reduceAdd, Int.reduceSub, Int.reduceMul, Int.reduceEq, Int.reduceNe, Int.reduceLT, Int.reduceLE, Int.reduceGT, Int.reduceGE, f1, f2, f4, f6, h77, hown7, hc]
        have hA0 : ∀ j, n0 ≤ j → A j = none := fun j hj => by
          cases hb' : A j with
          | none => rfl
          | some bk => have := hF7.le _ _ hb'; rw [hn0 j hj] at this; cases this
        refine ⟨.inl (by decide), .ms (n0 + 5) 0 1, .ms (n0 + 10) 0 1, Mem.set_eq _ _ _, hF7.bid, fun j bk hj => ?_, rfl, .inr ⟨n0 + 5, n0 + 10, rfl, rfl, ?_, ?_, hA0 _ (by omega), hA0 _ (by omega)⟩⟩
        · have z := hF7.le _ _ hj
          have zk := lt_of_bnd hn0 z
          have z1 : j ≠ id6 := fun e => by rw [e, hF7.bid] at hj; cases hj
          simp (disch := omega) only [Mem.set_ne]; exact z
        · simp (disch := omega) only [Mem.set_ne, Mem.set_eq]
        · simp (disch := omega) only [Mem.set_ne, Mem.set_eq]
      · simp -implicitDefEqProofs (maxSteps := 1000000) (disch := omega) only [↓xsP, ↓vc_seq, xsQ, xsT, xsR, xsD, ↓reduceIte, reduceCtorEq, eq_self, ne_eq, imp_self, forall_const, Nat.reduceEqDiff, Nat.reduceAdd, Nat.reduceSub, Nat.reduceMul, Nat.reduceLT, Nat.reduceLeDiff, Nat.reduceBEq, Nat.reduceDiv, Nat.reduceMod, Int.reduceToNat, Int.reduceNeg, Int.reduceAdd, Int.reduceSub, Int.reduceMul, Int.reduceEq, Int.reduceNe, Int.reduceLT, Int.reduceLE, Int.reduceGT, Int.reduceGE, f1, f2, f4, f6, h77, hown7, hc]
        refine xwrite (fun n0 => [ (5, idu), (10, idr), (12, id6), (14, id6)]) [5, 10, 12, 14] [4, 5, 9, 10] [[], [], [], [], [], [], [5, 4], [5, 4], [5, 4], [5, 4], [], [10, 9], [], [], []] (by kernel_rfl) (by kernel_rfl) (by kernel_rfl) (by kernel_rfl) (fun n0 hn0 => ⟨rfl, ?_, ?_⟩)
        · exact TOk_cons (.inl (lt_of_bnd hn0 hu)) (TOk_cons (.inl (lt_of_bnd hn0 hr')) (TOk_cons (.inl (lt_of_bnd hn0 hown7)) (TOk_cons (.inl (lt_of_bnd hn0 hown7)) (TOk_nil _ _))))
        have y6 := lt_of_bnd hn0 hown7
        have y7 := lt_of_bnd hn0 h77
        have yu := lt_of_bnd hn0 hu
        have yr := lt_of_bnd hn0 hr'
        have hus : us.length ≤ 2000 := by have := hT.sz; omega
        have ku6 := ne_ty hu hown7 (by decide)
        have kr6 := ne_ty hr' hown7 (by decide)
        have kur := ne_ty hu hr' (by decide)
        have ku7 := ne_ty hu h77 (by decide)
        have kr7 := ne_ty hr' h77 (by decide)
        have hrs := hF7.len
        simp -implicitDefEqProofs (maxSteps := 1000000) (disch := omega) only [↓xsP, ↓vc_seq, xsQ, xsT, xsR, xsD, ↓reduceIte, reduceCtorEq, eq_self, ne_eq, imp_self, forall_const, Nat.reduceEqDiff, Nat.reduceAdd, Nat.reduceSub, Nat.reduceMul, Nat.reduceLT, Nat.reduceLeDiff, Nat.reduceBEq, Nat.reduceDiv, Nat.reduceMod, Int.reduceToNat, Int.reduceNeg, Int.reduceAdd, Int.reduceSub, Int.reduceMul, Int.reduceEq, Int.reduceNe, Int.reduceLT, Int.reduceLE, Int.reduceGT, Int.reduceGE, f1, f2, f4, f6, h77, hown7, hc, hu, hr']
        refine ⟨.inl (by decide), ?_⟩
        refine wapp_sb ti_30 rfl ti_3 (by kernel_rfl) (by decide) (by decide) (SB.ms (rows := us) (T := 3) ((Mem.set_ne _ _ _ _ (by omega)).trans hu)) (bs := [[.int .i64 i]]) (by unfold srcRows; rw [if_pos rfl]; simp only [Mem.set_eq]; rfl) (by simp) (by simp only [List.length_singleton]; omega) ?_
        simp only [dl, List.map_nil, List.map_cons, List.nil_append, List.cons_append]
        simp -implicitDefEqProofs (maxSteps := 1000000) (disch := omega) only [↓xsP, ↓vc_seq, xsQ, xsT, xsR, xsD, ↓reduceIte, reduceCtorEq, eq_self, ne_eq, imp_self, forall_const, Nat.reduceEqDiff, Nat.reduceAdd, Nat.reduceSub, Nat.reduceMul, Nat.reduceLT, Nat.reduceLeDiff, Nat.reduceBEq, Nat.reduceDiv, Nat.reduceMod, Int.reduceToNat, Int.reduceNeg, Int.reduceAdd, Int.reduceSub, Int.reduceMul, Int.reduceEq, Int.reduceNe, Int.reduceLT, Int.reduceLE, Int.reduceGT, Int.reduceGE, f1, f2, f4, f6, h77, hown7, hc, hu, hr']
        refine ⟨.inl (by decide), .inl (by decide), ?_⟩
        refine wapp_sb ti_37 rfl ti_4 (by kernel_rfl) (by decide) (by decide) (SB.ms (rows := rs) (T := 4) (by simp (disch := omega) only [Mem.set_ne, Mem.del_ne]; exact hr')) (bs := [[.bool c]]) (by unfold srcRows; rw [if_pos rfl]; simp only [Mem.set_eq]; rfl) (by simp) (by simp only [List.length_singleton]; omega) ?_
        simp only [dl, List.map_nil, List.map_cons, List.nil_append, List.cons_append]
        simp -implicitDefEqProofs (maxSteps := 1000000) (disch := omega) only [↓xsP, ↓vc_seq, xsQ, xsT, xsR, xsD, ↓reduceIte, reduceCtorEq, eq_self, ne_eq, imp_self, forall_const, Nat.reduceEqDiff, Nat.reduceAdd, Nat.reduceSub, Nat.reduceMul, Nat.reduceLT, Nat.reduceLeDiff, Nat.reduceBEq, Nat.reduceDiv, Nat.reduceMod, Int.reduceToNat, Int.reduceNeg, Int.reduceAdd, Int.reduceSub, Int.reduceMul, Int.reduceEq, Int.reduceNe, Int.reduceLT, Int.reduceLE, Int.reduceGT, Int.reduceGE, f1, f2, f4, f6, h77, hown7, hc, hu, hr']
        have hA0 : ∀ j, n0 ≤ j → A j = none := fun j hj => by
          cases hb' : A j with
          | none => rfl
          | some bk => have := hF7.le _ _ hb'; rw [hn0 j hj] at this; cases this
        refine ⟨.inl (by decide), .ms (n0 + 5) 0 (us.length + 1), .ms (n0 + 10) 0 (rs.length + 1), Mem.set_eq _ _ _, hF7.bid, fun j bk hj => ?_, by simp [hrs], .inr ⟨n0 + 5, n0 + 10, by simp, by simp, ?_, ?_, hA0 _ (by omega), hA0 _ (by omega)⟩⟩
        · have z := hF7.le _ _ hj
          have zk := lt_of_bnd hn0 z
          have z1 : j ≠ id6 := fun e => by rw [e, hF7.bid] at hj; cases hj
          have z2 : j ≠ idu := fun e => by rw [e, hAu] at hj; cases hj
          have z3 : j ≠ idr := fun e => by rw [e, hAr] at hj; cases hj
          simp (disch := omega) only [Mem.set_ne, Mem.del_ne]; exact z
        · simp (disch := omega) only [Mem.set_ne, Mem.del_ne, Mem.set_eq]
        · simp (disch := omega) only [Mem.set_ne, Mem.del_ne, Mem.set_eq]
    · rintro fr N8 ⟨⟨xu', xr', hF8⟩, h87, f1, f2, f4, f6, f7, f8⟩
      have hown8 := hF8.own
      have hne76 : id6 ≠ id7 := by omega
      have hstep : ∀ (b : Int) (T2 : Tr) (pl2 : List Nat) (fr' : Fr) (N' : Mem), Hang ns b T2 pl2 → FSt A N' id6 b (us ++ [[.int .i64 i]]) (rs ++ [[.bool c]]) xu' xr' → T2.path k + 1 = (Tr.fork x L R).path k → T2.size < (Tr.fork x L R).size → ∃ k' M', k' < (Tr.fork x L R).size ∧ M'.le N' ∧ ∃ (a : Int) (T' : Tr) (pl' : List Nat) (us rs : List (List Lf)) (xu xr : Lf), k' = T'.size ∧ Hang ns a T' pl' ∧ FSt A M' id6 a us rs xu xr ∧ us.length + T'.path k = T.path k ∧ us.length + T'.size ≤ T.size := fun b T2 pl2 fr' N' g1 g2 g3 g4 =>
        ⟨T2.size, N', g4, Mem.le_refl _, b, T2, pl2, _, _, _, _, rfl, g1, g2, by rw [List.length_append]; simp only [List.length_singleton]; omega, by rw [List.length_append]; simp only [List.length_singleton]; omega⟩
      have hsz1 : L.size < (Tr.fork x L R).size := by simp only [Tr.size]; omega
      have hsz2 : R.size < (Tr.fork x L R).size := by simp only [Tr.size]; omega
      simp -implicitDefEqProofs (maxSteps := 1000000) (disch := omega) only [↓xsP, ↓vc_seq, xsQ, xsT, xsR, xsD, ↓reduceIte, reduceCtorEq, eq_self, ne_eq, imp_self, forall_const, Nat.reduceEqDiff, Nat.reduceAdd, Nat.reduceSub, Nat.reduceMul, Nat.reduceLT, Nat.reduceLeDiff, Nat.reduceBEq, Nat.reduceDiv, Nat.reduceMod, Int.reduceToNat, Int.reduceNeg, Int.reduceAdd, Int.reduceSub, Int.reduceMul, Int.reduceEq, Int.reduceNe, Int.reduceLT, Int.reduceLE, Int.reduceGT, Int.reduceGE, f1, f2, f4, f6, f7, f8, h87, hown8]
      cases c with
      | false =>
        simp -implicitDefEqProofs (maxSteps := 1000000) (disch := omega) only [↓xsP, ↓vc_seq, xsQ, xsT, xsR, xsD, ↓reduceIte, reduceCtorEq, eq_self, ne_eq, imp_self, forall_const, Nat.reduceEqDiff, Nat.reduceAdd, Nat.reduceSub, Nat.reduceMul, Nat.reduceLT, Nat.reduceLeDiff, Nat.reduceBEq, Nat.reduceDiv, Nat.reduceMod, Int.reduceToNat, Int.reduceNeg, Int.reduceAdd, Int.reduceSub, Int.reduceMul, Int.reduceEq, Int.reduceNe, Int.reduceLT, Int.reduceLE, Int.reduceGT, Int.reduceGE, f1, f2, f4, f6, f7, f8, h87, hown8]
        refine hstep l L pl fr _ hl (hF8.to l) ?_ hsz1
        have : ¬ k ≥ x := of_decide_eq_false hc
        simp only [Tr.path]
        rw [if_neg this]
        omega
      | true =>
        simp -implicitDefEqProofs (maxSteps := 1000000) (disch := omega) only [↓xsP, ↓vc_seq, xsQ, xsT, xsR, xsD, ↓reduceIte, reduceCtorEq, eq_self, ne_eq, imp_self, forall_const, Nat.reduceEqDiff, Nat.reduceAdd, Nat.reduceSub, Nat.reduceMul, Nat.reduceLT, Nat.reduceLeDiff, Nat.reduceBEq, Nat.reduceDiv, Nat.reduceMod, Int.reduceToNat, Int.reduceNeg, Int.reduceAdd, Int.reduceSub, Int.reduceMul, Int.reduceEq, Int.reduceNe, Int.reduceLT, Int.reduceLE, Int.reduceGT, Int.reduceGE, f1, f2, f4, f6, f7, f8, h87, hown8]
        refine hstep r R pr fr _ hr (by have := (hF8.to l).to r; rw [Mem.set_set] at this; exact this) ?_ hsz2
        have : k ≥ x := of_decide_eq_true hc
        simp only [Tr.path]
        rw [if_pos this]
        omega
/-- Keys, as a slice of one's own. -/
theorem vkeys_own (root : Int) (ns : List Nd) (hl : ns.length ≤ 140737488355328) (hp : Pok ns) {T : Tr} (hT : Good root ns T) (M : Mem) :
    XCalls Go.Proofs.Tryd.prog 12 [trA root ns] M fun r M' => ∃ x, r = .l x ∧ ((T.keys = [] ∧ x = .nils ∧ M' = M) ∨ ∃ id2, M id2 = none ∧ x = .ms id2 0 T.keys.length ∧ M' = M.set id2 (.cells 3 (T.keys.map irow) 0)) := by
  obtain ⟨pl, hH, -⟩ := hT.hang
  have hsz := hT.all
  have hfw := hT.few
  have hk2 := T.keys_size
  refine xcalls_intro (rs := [.tmp 2]) Go.Proofs.Tryd.func12 rfl (by kernel_rfl) rfl rfl (by kernel_rfl) (by simp) ?_
  simp -implicitDefEqProofs (maxSteps := 1000000) (disch := omega) only [↓xsP, ↓vc_seq, xsQ, xsT, xsR, xsD, ↓reduceIte, reduceCtorEq, eq_self, ne_eq, imp_self, forall_const, Nat.reduceEqDiff, Nat.reduceAdd, Nat.reduceSub, Nat.reduceMul, Nat.reduceLT, Nat.reduceLeDiff, Nat.reduceBEq, Nat.reduceDiv, Nat.reduceMod, Int.reduceToNat, Int.reduceNeg, Int.reduceAdd, Int.reduceSub, Int.reduceMul, Int.reduceEq, Int.reduceNe, Int.reduceLT, Int.reduceLE, Int.reduceGT, Int.reduceGE, trA]
  refine newI_intro fun id1 hid1 => ?_
  simp -implicitDefEqProofs (maxSteps := 1000000) (disch := omega) only [↓xsP, ↓vc_seq, xsQ, xsT, xsR, xsD, ↓reduceIte, reduceCtorEq, eq_self, ne_eq, imp_self, forall_const, Nat.reduceEqDiff, Nat.reduceAdd, Nat.reduceSub, Nat.reduceMul, Nat.reduceLT, Nat.reduceLeDiff, Nat.reduceBEq, Nat.reduceDiv, Nat.reduceMod, Int.reduceToNat, Int.reduceNeg, Int.reduceAdd, Int.reduceSub, Int.reduceMul, Int.reduceEq, Int.reduceNe, Int.reduceLT, Int.reduceLE, Int.reduceGT, Int.reduceGE]
  refine call_of (tmay_spec root ns hl hp _) ?_
  rw [hT.may]
  simp -implicitDefEqProofs (maxSteps := 1000000) (disch := omega) only [↓xsP, ↓vc_seq, xsQ, xsT, xsR, xsD, ↓reduceIte, reduceCtorEq, eq_self, ne_eq, imp_self, forall_const, Nat.reduceEqDiff, Nat.reduceAdd, Nat.reduceSub, Nat.reduceMul, Nat.reduceLT, Nat.reduceLeDiff, Nat.reduceBEq, Nat.reduceDiv, Nat.reduceMod, Int.reduceToNat, Int.reduceNeg, Int.reduceAdd, Int.reduceSub, Int.reduceMul, Int.reduceEq, Int.reduceNe, Int.reduceLT, Int.reduceLE, Int.reduceGT, Int.reduceGE]
  refine callI_of ((vkeys_spec0 root ns hH (by omega) [] .nils _ _ .nil (by simp only [List.length_nil]; omega)).mono ?_)
  rintro r' M2 ⟨h1, h2⟩
  cases hL : T.isLeaf with
  | true =>
    obtain ⟨rfl, rfl⟩ := h1 hL
    have hk : T.keys = [] := by cases T with | leaf _ _ => rfl | fork _ _ _ => cases hL
    simp -implicitDefEqProofs (maxSteps := 1000000) (disch := omega) only [↓xsP, ↓vc_seq, xsQ, xsT, xsR, xsD, ↓reduceIte, reduceCtorEq, eq_self, ne_eq, imp_self, forall_const, Nat.reduceEqDiff, Nat.reduceAdd, Nat.reduceSub, Nat.reduceMul, Nat.reduceLT, Nat.reduceLeDiff, Nat.reduceBEq, Nat.reduceDiv, Nat.reduceMod, Int.reduceToNat, Int.reduceNeg, Int.reduceAdd, Int.reduceSub, Int.reduceMul, Int.reduceEq, Int.reduceNe, Int.reduceLT, Int.reduceLE, Int.reduceGT, Int.reduceGE]
    exact fin_ok (le_new (Mem.le_refl _) hid1) ⟨.nils, rfl, .inl ⟨hk, rfl, rfl⟩⟩
  | false =>
    obtain ⟨id2, hid2, rfl, rfl⟩ := h2 hL
    obtain ⟨k12, hid2'⟩ := bnd_new hid2
    simp -implicitDefEqProofs (maxSteps := 1000000) (disch := omega) only [↓xsP, ↓vc_seq, xsQ, xsT, xsR, xsD, ↓reduceIte, reduceCtorEq, eq_self, ne_eq, imp_self, forall_const, Nat.reduceEqDiff, Nat.reduceAdd, Nat.reduceSub, Nat.reduceMul, Nat.reduceLT, Nat.reduceLeDiff, Nat.reduceBEq, Nat.reduceDiv, Nat.reduceMod, Int.reduceToNat, Int.reduceNeg, Int.reduceAdd, Int.reduceSub, Int.reduceMul, Int.reduceEq, Int.reduceNe, Int.reduceLT, Int.reduceLE, Int.reduceGT, Int.reduceGE]
    refine fin_ok (fun k bk hk => ?_) ⟨_, rfl, .inr ⟨id2, hid2' _ (Nat.le_refl _), rfl, rfl⟩⟩
    rw [Mem.set_app] at hk ⊢
    split at hk
    · rename_i e
      rw [if_pos e]
      exact hk
    · rename_i e
      rw [if_neg e]
      have := lt_of_bnd hid1 hk
      rw [Mem.set_ne _ _ _ _ (by omega)]
      exact hk
theorem path_le : ∀ (T : Tr) (k : Int), T.path k ≤ T.deep
  | .leaf _ _, k => Nat.zero_le _
  | .fork x l r, k => by
    have h1 := path_le l k
    have h2 := path_le r k
    simp only [Tr.path, Tr.deep]
    split <;> omega
theorem deep_keys : ∀ T : Tr, T.deep ≤ T.keys.length
  | .leaf _ _ => Nat.zero_le _
  | .fork x l r => by
    have h1 := deep_keys l
    have h2 := deep_keys r
    simp only [Tr.deep, Tr.keys, List.length_append, List.length_cons]
    omega
theorem path_deep (T : Tr) : ∀ (k : Ks), Wf T k → T.isLeaf = false → ∃ y ∈ T.keys, T.path y = T.deep := by
  induction T with
  | leaf ps st => intro k _ h; cases h
  | fork x l r ihl ihr =>
    rintro k ⟨h1, h2, h3, h4⟩ -
    have hly : ∀ y ∈ l.keys, y < x := fun y hy => ((keys_rise l _ h3).2 y hy).2 rfl
    have hry : ∀ y ∈ r.keys, x < y := fun y hy => ((keys_rise r _ h4).2 y hy).1 rfl
    by_cases hd : l.deep ≤ r.deep
    · cases hr : r.isLeaf with
      | true =>
        have hr0 : r.deep = 0 := by cases r with | leaf _ _ => rfl | fork _ _ _ => cases hr
        refine ⟨x, by simp [Tr.keys], ?_⟩
        have := path_le r x
        simp only [Tr.path, Tr.deep]
        rw [if_pos (by omega)]
        omega
      | false =>
        obtain ⟨y, hy, he⟩ := ihr _ h4 hr
        refine ⟨y, by simp [Tr.keys, hy], ?_⟩
        have := hry y hy
        simp only [Tr.path, Tr.deep]
        rw [if_pos (by omega)]
        omega
    · cases hr : l.isLeaf with
      | true =>
        have hr0 : l.deep = 0 := by cases l with | leaf _ _ => rfl | fork _ _ _ => cases hr
        omega
      | false =>
        obtain ⟨y, hy, he⟩ := ihl _ h3 hr
        refine ⟨y, by simp [Tr.keys, hy], ?_⟩
        have := hly y hy
        simp only [Tr.path, Tr.deep]
        rw [if_neg (by omega)]
        omega
end Go.X
set_option linter.unusedVariables false
set_option linter.unusedSimpArgs false
set_option maxHeartbeats 20000000
set_option maxRecDepth 100000
namespace Go.X
open Go.Proofs.Tryd (prog)

theorem viewDeep_walk (t : Int × List Nd) (ht : TreeOk t) (M : Mem) :
    XCalls Go.Proofs.Tryd.prog 5 [trA t.1 t.2] M fun r M' => r = .l (.bool true) ∧ M' = M := by
  obtain ⟨r1, l⟩ := t
  obtain ⟨hl, hl'⟩ := ht
  simp only [big] at hl hl'
  have hp := NdOk.pok hl'
  show XCalls _ _ [trA r1 l] _ _
  refine xcalls_intro (rs := [.tmp 2]) Go.Proofs.Tryd.func5 rfl (by kernel_rfl) rfl rfl (by kernel_rfl) (by simp) ?_
  simp -implicitDefEqProofs (maxSteps := 1000000) (disch := omega) only [↓xsP, ↓vc_seq, xsQ, xsT, xsR, xsD, ↓reduceIte, reduceCtorEq, eq_self, ne_eq, imp_self, forall_const, Nat.reduceEqDiff, Nat.reduceAdd, Nat.reduceSub, Nat.reduceMul, Nat.reduceLT, Nat.reduceLeDiff, Nat.reduceBEq, Nat.reduceDiv, Nat.reduceMod, Int.reduceToNat, Int.reduceNeg, Int.reduceAdd, Int.reduceSub, Int.reduceMul, Int.reduceEq, Int.reduceNe, Int.reduceLT, Int.reduceLE, Int.reduceGT, Int.reduceGE, trA]
  refine newI_intro fun id1 hid1 => ?_
  obtain ⟨N, hN⟩ : ∃ N, N = M.set id1 (.cells 24 [[.int .i64 r1, .sl (l.map Nd.row)]] 0) := ⟨_, rfl⟩
  have hMN : M.le N := by rw [hN]; exact le_new (Mem.le_refl _) hid1
  have hN1 : N id1 = some (.cells 24 [[.int .i64 r1, .sl (l.map Nd.row)]] 0) := by rw [hN, Mem.set_eq]
  simp -implicitDefEqProofs (maxSteps := 1000000) (disch := omega) only [↓xsP, xsQ, xsT, xsR, xsD, ↓reduceIte, reduceCtorEq, eq_self, ne_eq, imp_self, forall_const, Nat.reduceEqDiff, Nat.reduceAdd, Nat.reduceSub, Nat.reduceMul, Nat.reduceLT, Nat.reduceLeDiff, Nat.reduceBEq, Nat.reduceDiv, Nat.reduceMod, Int.reduceToNat, Int.reduceNeg, Int.reduceAdd, Int.reduceSub, Int.reduceMul, Int.reduceEq, Int.reduceNe, Int.reduceLT, Int.reduceLE, Int.reduceGT, Int.reduceGE, trA]
  rw [← hN]
  clear hN
  refine vc_cut (fun fr' N' => N' = N ∧ fr' 1 = .l (.ptr id1 0 0) ∧ (∃ T, Good r1 l T)) ?_ ?_
  · simp -implicitDefEqProofs (maxSteps := 1000000) (disch := omega) only [↓xsP, ↓vc_seq, xsQ, xsT, xsR, xsD, ↓reduceIte, reduceCtorEq, eq_self, ne_eq, imp_self, forall_const, Nat.reduceEqDiff, Nat.reduceAdd, Nat.reduceSub, Nat.reduceMul, Nat.reduceLT, Nat.reduceLeDiff, Nat.reduceBEq, Nat.reduceDiv, Nat.reduceMod, Int.reduceToNat, Int.reduceNeg, Int.reduceAdd, Int.reduceSub, Int.reduceMul, Int.reduceEq, Int.reduceNe, Int.reduceLT, Int.reduceLE, Int.reduceGT, Int.reduceGE, hN1]
    refine call_of (light14_spec r1 l (by omega) hp _) ?_
    by_cases hA : l.length ≤ 450 ∧ psum l ≤ 2000
    rotate_left
    · have e1 : lgt l = 1 := if_neg hA
      simp -implicitDefEqProofs (maxSteps := 1000000) (disch := omega) only [↓xsP, ↓vc_seq, xsQ, xsT, xsR, xsD, ↓reduceIte, reduceCtorEq, eq_self, ne_eq, imp_self, forall_const, Nat.reduceEqDiff, Nat.reduceAdd, Nat.reduceSub, Nat.reduceMul, Nat.reduceLT, Nat.reduceLeDiff, Nat.reduceBEq, Nat.reduceDiv, Nat.reduceMod, Int.reduceToNat, Int.reduceNeg, Int.reduceAdd, Int.reduceSub, Int.reduceMul, Int.reduceEq, Int.reduceNe, Int.reduceLT, Int.reduceLE, Int.reduceGT, Int.reduceGE, hN1, e1]
      refine call_of (awake23_spec _) ?_
      simp -implicitDefEqProofs (maxSteps := 1000000) (disch := omega) only [↓xsP, ↓vc_seq, xsQ, xsT, xsR, xsD, ↓reduceIte, reduceCtorEq, eq_self, ne_eq, imp_self, forall_const, Nat.reduceEqDiff, Nat.reduceAdd, Nat.reduceSub, Nat.reduceMul, Nat.reduceLT, Nat.reduceLeDiff, Nat.reduceBEq, Nat.reduceDiv, Nat.reduceMod, Int.reduceToNat, Int.reduceNeg, Int.reduceAdd, Int.reduceSub, Int.reduceMul, Int.reduceEq, Int.reduceNe, Int.reduceLT, Int.reduceLE, Int.reduceGT, Int.reduceGE]
      exact fin_ok hMN ⟨rfl, rfl⟩
    have e1 : lgt l = 0 := if_pos hA
    simp -implicitDefEqProofs (maxSteps := 1000000) (disch := omega) only [↓xsP, ↓vc_seq, xsQ, xsT, xsR, xsD, ↓reduceIte, reduceCtorEq, eq_self, ne_eq, imp_self, forall_const, Nat.reduceEqDiff, Nat.reduceAdd, Nat.reduceSub, Nat.reduceMul, Nat.reduceLT, Nat.reduceLeDiff, Nat.reduceBEq, Nat.reduceDiv, Nat.reduceMod, Int.reduceToNat, Int.reduceNeg, Int.reduceAdd, Int.reduceSub, Int.reduceMul, Int.reduceEq, Int.reduceNe, Int.reduceLT, Int.reduceLE, Int.reduceGT, Int.reduceGE, hN1, e1]
    refine call_of (tmay_spec r1 l (by omega) hp _) ?_
    cases hT : mayT r1 l with
    | false =>
      simp -implicitDefEqProofs (maxSteps := 1000000) (disch := omega) only [↓xsP, ↓vc_seq, xsQ, xsT, xsR, xsD, ↓reduceIte, reduceCtorEq, eq_self, ne_eq, imp_self, forall_const, Nat.reduceEqDiff, Nat.reduceAdd, Nat.reduceSub, Nat.reduceMul, Nat.reduceLT, Nat.reduceLeDiff, Nat.reduceBEq, Nat.reduceDiv, Nat.reduceMod, Int.reduceToNat, Int.reduceNeg, Int.reduceAdd, Int.reduceSub, Int.reduceMul, Int.reduceEq, Int.reduceNe, Int.reduceLT, Int.reduceLE, Int.reduceGT, Int.reduceGE, hN1]
      refine call_of (awake23_spec _) ?_
      simp -implicitDefEqProofs (maxSteps := 1000000) (disch := omega) only [↓xsP, ↓vc_seq, xsQ, xsT, xsR, xsD, ↓reduceIte, reduceCtorEq, eq_self, ne_eq, imp_self, forall_const, Nat.reduceEqDiff, Nat.reduceAdd, Nat.reduceSub, Nat.reduceMul, Nat.reduceLT, Nat.reduceLeDiff, Nat.reduceBEq, Nat.reduceDiv, Nat.reduceMod, Int.reduceToNat, Int.reduceNeg, Int.reduceAdd, Int.reduceSub, Int.reduceMul, Int.reduceEq, Int.reduceNe, Int.reduceLT, Int.reduceLE, Int.reduceGT, Int.reduceGE]
      exact fin_ok hMN ⟨rfl, rfl⟩
    | true =>
    simp -implicitDefEqProofs (maxSteps := 1000000) (disch := omega) only [↓xsP, ↓vc_seq, xsQ, xsT, xsR, xsD, ↓reduceIte, reduceCtorEq, eq_self, ne_eq, imp_self, forall_const, Nat.reduceEqDiff, Nat.reduceAdd, Nat.reduceSub, Nat.reduceMul, Nat.reduceLT, Nat.reduceLeDiff, Nat.reduceBEq, Nat.reduceDiv, Nat.reduceMod, Int.reduceToNat, Int.reduceNeg, Int.reduceAdd, Int.reduceSub, Int.reduceMul, Int.reduceEq, Int.reduceNe, Int.reduceLT, Int.reduceLE, Int.reduceGT, Int.reduceGE, hN1]
    refine call_of (stree_spec r1 l r1 l (by omega) hp (by omega) hp _) ?_
    cases hS : bof (Like r1 l r1 l) with
    | false =>
      simp -implicitDefEqProofs (maxSteps := 1000000) (disch := omega) only [↓xsP, ↓vc_seq, xsQ, xsT, xsR, xsD, ↓reduceIte, reduceCtorEq, eq_self, ne_eq, imp_self, forall_const, Nat.reduceEqDiff, Nat.reduceAdd, Nat.reduceSub, Nat.reduceMul, Nat.reduceLT, Nat.reduceLeDiff, Nat.reduceBEq, Nat.reduceDiv, Nat.reduceMod, Int.reduceToNat, Int.reduceNeg, Int.reduceAdd, Int.reduceSub, Int.reduceMul, Int.reduceEq, Int.reduceNe, Int.reduceLT, Int.reduceLE, Int.reduceGT, Int.reduceGE, hN1]
      refine call_of (awake23_spec _) ?_
      simp -implicitDefEqProofs (maxSteps := 1000000) (disch := omega) only [↓xsP, ↓vc_seq, xsQ, xsT, xsR, xsD, ↓reduceIte, reduceCtorEq, eq_self, ne_eq, imp_self, forall_const, Nat.reduceEqDiff, Nat.reduceAdd, Nat.reduceSub, Nat.reduceMul, Nat.reduceLT, Nat.reduceLeDiff, Nat.reduceBEq, Nat.reduceDiv, Nat.reduceMod, Int.reduceToNat, Int.reduceNeg, Int.reduceAdd, Int.reduceSub, Int.reduceMul, Int.reduceEq, Int.reduceNe, Int.reduceLT, Int.reduceLE, Int.reduceGT, Int.reduceGE]
      exact fin_ok hMN ⟨rfl, rfl⟩
    | true =>
    simp -implicitDefEqProofs (maxSteps := 1000000) (disch := omega) only [↓xsP, ↓vc_seq, xsQ, xsT, xsR, xsD, ↓reduceIte, reduceCtorEq, eq_self, ne_eq, imp_self, forall_const, Nat.reduceEqDiff, Nat.reduceAdd, Nat.reduceSub, Nat.reduceMul, Nat.reduceLT, Nat.reduceLeDiff, Nat.reduceBEq, Nat.reduceDiv, Nat.reduceMod, Int.reduceToNat, Int.reduceNeg, Int.reduceAdd, Int.reduceSub, Int.reduceMul, Int.reduceEq, Int.reduceNe, Int.reduceLT, Int.reduceLE, Int.reduceGT, Int.reduceGE, hN1]
    exact (mayT_iff r1 l).1 hT
  · rintro fr N ⟨rfl, f1, ⟨T, hT⟩⟩
    have hkl : T.keys.length ≤ 2000 := by have := T.keys_size; have := hT.sz; omega
    obtain ⟨KL, hKL⟩ : ∃ KL : List Int, KL = T.keys ++ [-9223372036854775808, 9223372036854775807] := ⟨_, rfl⟩
    have hKLl : KL.length = T.keys.length + 2 := by rw [hKL, List.length_append]; rfl
    have hKLr : T.keys.map irow ++ [[.int .i64 (-9223372036854775808)], [.int .i64 9223372036854775807]] = KL.map irow := by rw [hKL, List.map_append]; rfl
    simp -implicitDefEqProofs (maxSteps := 1000000) (disch := omega) only [↓xsP, ↓vc_seq, xsQ, xsT, xsR, xsD, ↓reduceIte, reduceCtorEq, eq_self, ne_eq, imp_self, forall_const, Nat.reduceEqDiff, Nat.reduceAdd, Nat.reduceSub, Nat.reduceMul, Nat.reduceLT, Nat.reduceLeDiff, Nat.reduceBEq, Nat.reduceDiv, Nat.reduceMod, Int.reduceToNat, Int.reduceNeg, Int.reduceAdd, Int.reduceSub, Int.reduceMul, Int.reduceEq, Int.reduceNe, Int.reduceLT, Int.reduceLE, Int.reduceGT, Int.reduceGE, f1, hN1]
    refine callI_of ((vkeys_own r1 l (by omega) hp hT _).mono ?_)
    have hgo : ∀ (N2 : Mem) (x : Lf) (M0 : Mem), SB 3 N2 x (T.keys.map irow) M0 → N.le M0 → N.le N2 → True := fun _ _ _ _ _ _ => trivial
    rintro _ N2 ⟨x, rfl, hx⟩
    have hsb : ∃ M0, SB 3 N2 x (T.keys.map irow) M0 ∧ N.le M0 := by
      rcases hx with ⟨hk, rfl, rfl⟩ | ⟨id2, hn, rfl, rfl⟩
      · rw [hk]; exact ⟨_, .nil, Mem.le_refl _⟩
      · have := SB.ms (T := 3) (rows := T.keys.map irow) (Mem.set_eq N id2 (.cells 3 (T.keys.map irow) 0))
        rw [List.length_map] at this
        refine ⟨_, this, fun j bk hj => ?_⟩
        have hne : id2 ≠ j := fun e => by rw [← e, hn] at hj; cases hj
        rw [Mem.del_ne _ _ _ (by first | exact hne | exact Ne.symm hne), Mem.set_ne _ _ _ _ hne]
        exact hj
    obtain ⟨M0, hsb, hNM0⟩ := hsb
    simp -implicitDefEqProofs (maxSteps := 1000000) (disch := omega) only [↓xsP, ↓vc_seq, xsQ, xsT, xsR, xsD, ↓reduceIte, reduceCtorEq, eq_self, ne_eq, imp_self, forall_const, Nat.reduceEqDiff, Nat.reduceAdd, Nat.reduceSub, Nat.reduceMul, Nat.reduceLT, Nat.reduceLeDiff, Nat.reduceBEq, Nat.reduceDiv, Nat.reduceMod, Int.reduceToNat, Int.reduceNeg, Int.reduceAdd, Int.reduceSub, Int.reduceMul, Int.reduceEq, Int.reduceNe, Int.reduceLT, Int.reduceLE, Int.reduceGT, Int.reduceGE, f1]
    refine newI_intro fun id27 hid27 => ?_
    have hsb2 := hsb.set hid27 (.cells 3 [[.int .i64 (-9223372036854775808)], [.int .i64 9223372036854775807]] 0)
    simp -implicitDefEqProofs (maxSteps := 1000000) (disch := omega) only [↓xsP, ↓vc_seq, xsQ, xsT, xsR, xsD, ↓reduceIte, reduceCtorEq, eq_self, ne_eq, imp_self, forall_const, Nat.reduceEqDiff, Nat.reduceAdd, Nat.reduceSub, Nat.reduceMul, Nat.reduceLT, Nat.reduceLeDiff, Nat.reduceBEq, Nat.reduceDiv, Nat.reduceMod, Int.reduceToNat, Int.reduceNeg, Int.reduceAdd, Int.reduceSub, Int.reduceMul, Int.reduceEq, Int.reduceNe, Int.reduceLT, Int.reduceLE, Int.reduceGT, Int.reduceGE, f1]
    refine app_sb ti_30 rfl ti_3 (by kernel_rfl) (by decide) (by decide) hsb2 (bs := [[.int .i64 (-9223372036854775808)], [.int .i64 9223372036854775807]]) (by unfold srcRows; rw [if_pos rfl]; simp only [Mem.set_eq]; rfl) (by simp) (by rw [List.length_map]; show T.keys.length + 2 ≤ _; omega) (fun idk hidk => ?_)
    rw [hKLr, List.length_map]
    obtain ⟨Q, hQ⟩ : ∃ Q, Q = (M0.set id27 (.cells 3 [[.int .i64 (-9223372036854775808)], [.int .i64 9223372036854775807]] 0)).set idk (.cells 3 (KL.map irow) 0) := ⟨_, rfl⟩
    rw [← hQ]
    have hQk : Q idk = some (.cells 3 (KL.map irow) 0) := by rw [hQ, Mem.set_eq]
    have hNQ : N.le Q := by
      rw [hQ]
      have hM0 := hsb.le
      have h27 := bnd_le hM0 hid27
      have hk' : ∀ j, idk ≤ j → (M0.set id27 (.cells 3 [[.int .i64 (-9223372036854775808)], [.int .i64 9223372036854775807]] 0)) j = none := bnd_le hsb2.le hidk
      intro j bk hj
      have := hNM0 _ _ hj
      have a1 := lt_of_bnd h27 this
      have a2 : (M0.set id27 (.cells 3 [[.int .i64 (-9223372036854775808)], [.int .i64 9223372036854775807]] 0)) j = some bk := by rw [Mem.set_ne _ _ _ _ (by omega)]; exact this
      have a3 := lt_of_bnd hk' a2
      rw [Mem.set_ne _ _ _ _ (by omega)]
      exact a2
    have hQ1 := hNQ _ _ hN1
    clear hQ hidk hsb2 hid27 hsb hx
    have hsm : ([[Lf.int .i64 (-9223372036854775808)], [Lf.int .i64 9223372036854775807]] : List (List Lf)).length = 2 := rfl
    rw [hsm, ← hKLl]
    simp -implicitDefEqProofs (maxSteps := 1000000) (disch := omega) only [↓xsP, ↓vc_seq, xsQ, xsT, xsR, xsD, ↓reduceIte, reduceCtorEq, eq_self, ne_eq, imp_self, forall_const, Nat.reduceEqDiff, Nat.reduceAdd, Nat.reduceSub, Nat.reduceMul, Nat.reduceLT, Nat.reduceLeDiff, Nat.reduceBEq, Nat.reduceDiv, Nat.reduceMod, Int.reduceToNat, Int.reduceNeg, Int.reduceAdd, Int.reduceSub, Int.reduceMul, Int.reduceEq, Int.reduceNe, Int.reduceLT, Int.reduceLE, Int.reduceGT, Int.reduceGE, f1]
    refine loopI_of (xloop (by kernel_rfl) (fun kk fr N' => ∃ (i d : Nat), i ≤ KL.length ∧ kk = KL.length - i ∧ d ≤ T.deep ∧ (∀ j, j < i → T.path (KL.getD j default) ≤ d) ∧ Q.le N' ∧ fr 1 = .l (.ptr id1 0 0) ∧ fr 3 = .l (.int .i64 d) ∧ fr 28 = .l (.ms idk 0 KL.length) ∧ fr 29 = .l (.int .i64 KL.length) ∧ fr 30 = .l (.int .i64 i)) KL.length ?_ ?_)
    · refine ⟨0, 0, Nat.zero_le _, rfl, Nat.zero_le _, fun j hj => by omega, Mem.le_refl _, by simp -implicitDefEqProofs (maxSteps := 1000000) (disch := omega) only [↓xsP, ↓vc_seq, xsQ, xsT, xsR, xsD, ↓reduceIte, reduceCtorEq, eq_self, ne_eq, imp_self, forall_const, Nat.reduceEqDiff, Nat.reduceAdd, Nat.reduceSub, Nat.reduceMul, Nat.reduceLT, Nat.reduceLeDiff, Nat.reduceBEq, Nat.reduceDiv, Nat.reduceMod, Int.reduceToNat, Int.reduceNeg, Int.reduceAdd, Int.reduceSub, Int.reduceMul, Int.reduceEq, Int.reduceNe, Int.reduceLT, Int.reduceLE, Int.reduceGT, Int.reduceGE, f1], by simp -implicitDefEqProofs (maxSteps := 1000000) (disch := omega) only [↓xsP, ↓vc_seq, xsQ, xsT, xsR, xsD, ↓reduceIte, reduceCtorEq, eq_self, ne_eq, imp_self, forall_const, Nat.reduceEqDiff, Nat.reduceAdd, Nat.reduceSub, Nat.reduceMul, Nat.reduceLT, Nat.reduceLeDiff, Nat.reduceBEq, Nat.reduceDiv, Nat.reduceMod, Int.reduceToNat, Int.reduceNeg, Int.reduceAdd, Int.reduceSub, Int.reduceMul, Int.reduceEq, Int.reduceNe, Int.reduceLT, Int.reduceLE, Int.reduceGT, Int.reduceGE, Int.cast_ofNat_Int], by simp -implicitDefEqProofs (maxSteps := 1000000) (disch := omega) only [↓xsP, ↓vc_seq, xsQ, xsT, xsR, xsD, ↓reduceIte, reduceCtorEq, eq_self, ne_eq, imp_self, forall_const, Nat.reduceEqDiff, Nat.reduceAdd, Nat.reduceSub, Nat.reduceMul, Nat.reduceLT, Nat.reduceLeDiff, Nat.reduceBEq, Nat.reduceDiv, Nat.reduceMod, Int.reduceToNat, Int.reduceNeg, Int.reduceAdd, Int.reduceSub, Int.reduceMul, Int.reduceEq, Int.reduceNe, Int.reduceLT, Int.reduceLE, Int.reduceGT, Int.reduceGE], by simp -implicitDefEqProofs (maxSteps := 1000000) (disch := omega) only [↓xsP, ↓vc_seq, xsQ, xsT, xsR, xsD, ↓reduceIte, reduceCtorEq, eq_self, ne_eq, imp_self, forall_const, Nat.reduceEqDiff, Nat.reduceAdd, Nat.reduceSub, Nat.reduceMul, Nat.reduceLT, Nat.reduceLeDiff, Nat.reduceBEq, Nat.reduceDiv, Nat.reduceMod, Int.reduceToNat, Int.reduceNeg, Int.reduceAdd, Int.reduceSub, Int.reduceMul, Int.reduceEq, Int.reduceNe, Int.reduceLT, Int.reduceLE, Int.reduceGT, Int.reduceGE], by simp -implicitDefEqProofs (maxSteps := 1000000) (disch := omega) only [↓xsP, ↓vc_seq, xsQ, xsT, xsR, xsD, ↓reduceIte, reduceCtorEq, eq_self, ne_eq, imp_self, forall_const, Nat.reduceEqDiff, Nat.reduceAdd, Nat.reduceSub, Nat.reduceMul, Nat.reduceLT, Nat.reduceLeDiff, Nat.reduceBEq, Nat.reduceDiv, Nat.reduceMod, Int.reduceToNat, Int.reduceNeg, Int.reduceAdd, Int.reduceSub, Int.reduceMul, Int.reduceEq, Int.reduceNe, Int.reduceLT, Int.reduceLE, Int.reduceGT, Int.reduceGE, Int.cast_ofNat_Int]⟩
    clear f1
    rintro kk fr N' ⟨i, d, hi, rfl, hd, hpd, hle, f1, f3, f28, f29, f30⟩
    have hR1 := hle _ _ hQ1
    have hRk := hle _ _ hQk
    simp -implicitDefEqProofs (maxSteps := 1000000) (disch := omega) only [↓xsP, ↓vc_seq, xsQ, xsT, xsR, xsD, ↓reduceIte, reduceCtorEq, eq_self, ne_eq, imp_self, forall_const, Nat.reduceEqDiff, Nat.reduceAdd, Nat.reduceSub, Nat.reduceMul, Nat.reduceLT, Nat.reduceLeDiff, Nat.reduceBEq, Nat.reduceDiv, Nat.reduceMod, Int.reduceToNat, Int.reduceNeg, Int.reduceAdd, Int.reduceSub, Int.reduceMul, Int.reduceEq, Int.reduceNe, Int.reduceLT, Int.reduceLE, Int.reduceGT, Int.reduceGE, f1, f3, f28, f29, f30]
    refine condI_prop (fun hlt => ?_) (fun hlt => ?_)
    · have hil : i < KL.length := by omega
      obtain ⟨y, hy⟩ : ∃ y, KL.getD i default = y := ⟨_, rfl⟩
      simp -implicitDefEqProofs (maxSteps := 1000000) (disch := omega) only [↓xsP, ↓vc_seq, xsQ, xsT, xsR, xsD, ↓reduceIte, reduceCtorEq, eq_self, ne_eq, imp_self, forall_const, Nat.reduceEqDiff, Nat.reduceAdd, Nat.reduceSub, Nat.reduceMul, Nat.reduceLT, Nat.reduceLeDiff, Nat.reduceBEq, Nat.reduceDiv, Nat.reduceMod, Int.reduceToNat, Int.reduceNeg, Int.reduceAdd, Int.reduceSub, Int.reduceMul, Int.reduceEq, Int.reduceNe, Int.reduceLT, Int.reduceLE, Int.reduceGT, Int.reduceGE, f1, f3, f28, f29, f30, hRk, hR1, hy]
      refine callI_of ((find_spec23 r1 l (by omega) hp hT y _).mono ?_)
      rintro _ N' ⟨rfl, a, us, rs, hus, rfl⟩
      have hp1 := path_le T y
      simp -implicitDefEqProofs (maxSteps := 1000000) (disch := omega) only [↓xsP, ↓vc_seq, xsQ, xsT, xsR, xsD, ↓reduceIte, reduceCtorEq, eq_self, ne_eq, imp_self, forall_const, Nat.reduceEqDiff, Nat.reduceAdd, Nat.reduceSub, Nat.reduceMul, Nat.reduceLT, Nat.reduceLeDiff, Nat.reduceBEq, Nat.reduceDiv, Nat.reduceMod, Int.reduceToNat, Int.reduceNeg, Int.reduceAdd, Int.reduceSub, Int.reduceMul, Int.reduceEq, Int.reduceNe, Int.reduceLT, Int.reduceLE, Int.reduceGT, Int.reduceGE, f1, f3, f28, f29, f30]
      refine newI_intro fun id6 hid6 => ?_
      have k16 := lt_of_bnd hid6 hR1
      have hle6 : ∀ X : Blk, Q.le (N'.set id6 X) := fun X => le_new hle (bnd_le hle hid6)
      simp -implicitDefEqProofs (maxSteps := 1000000) (disch := omega) only [↓xsP, ↓vc_seq, xsQ, xsT, xsR, xsD, ↓reduceIte, reduceCtorEq, eq_self, ne_eq, imp_self, forall_const, Nat.reduceEqDiff, Nat.reduceAdd, Nat.reduceSub, Nat.reduceMul, Nat.reduceLT, Nat.reduceLeDiff, Nat.reduceBEq, Nat.reduceDiv, Nat.reduceMod, Int.reduceToNat, Int.reduceNeg, Int.reduceAdd, Int.reduceSub, Int.reduceMul, Int.reduceEq, Int.reduceNe, Int.reduceLT, Int.reduceLE, Int.reduceGT, Int.reduceGE, f1, f3, f28, f29, f30, max_i, hus]
      refine condI_prop (fun hlt2 => ?_) (fun hlt2 => ?_)
      · simp -implicitDefEqProofs (maxSteps := 1000000) (disch := omega) only [↓xsP, ↓vc_seq, xsQ, xsT, xsR, xsD, ↓reduceIte, reduceCtorEq, eq_self, ne_eq, imp_self, forall_const, Nat.reduceEqDiff, Nat.reduceAdd, Nat.reduceSub, Nat.reduceMul, Nat.reduceLT, Nat.reduceLeDiff, Nat.reduceBEq, Nat.reduceDiv, Nat.reduceMod, Int.reduceToNat, Int.reduceNeg, Int.reduceAdd, Int.reduceSub, Int.reduceMul, Int.reduceEq, Int.reduceNe, Int.reduceLT, Int.reduceLE, Int.reduceGT, Int.reduceGE, f1, f3, f28, f29, f30, hR1]
        refine callI_of ((find_spec23 r1 l (by omega) hp hT _ _).mono ?_)
        rintro _ N8 ⟨hN8, a2, us2, rs2, hus2, rfl⟩
        rw [hN8]
        simp -implicitDefEqProofs (maxSteps := 1000000) (disch := omega) only [↓xsP, ↓vc_seq, xsQ, xsT, xsR, xsD, ↓reduceIte, reduceCtorEq, eq_self, ne_eq, imp_self, forall_const, Nat.reduceEqDiff, Nat.reduceAdd, Nat.reduceSub, Nat.reduceMul, Nat.reduceLT, Nat.reduceLeDiff, Nat.reduceBEq, Nat.reduceDiv, Nat.reduceMod, Int.reduceToNat, Int.reduceNeg, Int.reduceAdd, Int.reduceSub, Int.reduceMul, Int.reduceEq, Int.reduceNe, Int.reduceLT, Int.reduceLE, Int.reduceGT, Int.reduceGE, f1, f3, f28, f29, f30]
        refine newI_intro fun id8 hid8 => ?_
        obtain ⟨-, hid8'⟩ := bnd_new hid8
        have hp2 := path_le T (IntKind.i64.wrap (y - 1))
        have hle8 : ∀ X Y : Blk, Q.le ((N'.set id6 X).set id8 Y) := fun X Y => le_new (hle6 X) (bnd_le (hle6 X) (fun j hj => by
          have := hid8 j hj
          rw [Mem.set_app] at this ⊢
          split at this
          · cases this
          · rename_i e
            rw [if_neg e]
            exact this))
        simp -implicitDefEqProofs (maxSteps := 1000000) (disch := omega) only [↓xsP, ↓vc_seq, xsQ, xsT, xsR, xsD, ↓reduceIte, reduceCtorEq, eq_self, ne_eq, imp_self, forall_const, Nat.reduceEqDiff, Nat.reduceAdd, Nat.reduceSub, Nat.reduceMul, Nat.reduceLT, Nat.reduceLeDiff, Nat.reduceBEq, Nat.reduceDiv, Nat.reduceMod, Int.reduceToNat, Int.reduceNeg, Int.reduceAdd, Int.reduceSub, Int.reduceMul, Int.reduceEq, Int.reduceNe, Int.reduceLT, Int.reduceLE, Int.reduceGT, Int.reduceGE, f1, f3, f28, f29, f30, max_i, hus2]
        refine ⟨KL.length - (i + 1), _, by omega, Mem.le_refl _, i + 1, _, by omega, rfl, ?_, fun j hj => ?_, hle8 _ _, rfl, by simp⟩
        · omega
        · by_cases hji : j < i
          · have := hpd j hji; omega
          · have : j = i := by omega
            rw [this, hy]; omega
      · simp -implicitDefEqProofs (maxSteps := 1000000) (disch := omega) only [↓xsP, ↓vc_seq, xsQ, xsT, xsR, xsD, ↓reduceIte, reduceCtorEq, eq_self, ne_eq, imp_self, forall_const, Nat.reduceEqDiff, Nat.reduceAdd, Nat.reduceSub, Nat.reduceMul, Nat.reduceLT, Nat.reduceLeDiff, Nat.reduceBEq, Nat.reduceDiv, Nat.reduceMod, Int.reduceToNat, Int.reduceNeg, Int.reduceAdd, Int.reduceSub, Int.reduceMul, Int.reduceEq, Int.reduceNe, Int.reduceLT, Int.reduceLE, Int.reduceGT, Int.reduceGE, f1, f3, f28, f29, f30]
        refine ⟨KL.length - (i + 1), _, by omega, Mem.le_refl _, i + 1, max d (T.path y), by omega, rfl, by omega, fun j hj => ?_, hle6 _, rfl, by simp⟩
        by_cases hji : j < i
        · have := hpd j hji; omega
        · have : j = i := by omega
          rw [this, hy]; omega
    · have hil : i = KL.length := by omega
      subst hil
      have hdeep : d = T.deep := by
        cases hL : T.isLeaf with
        | true =>
          have : T.deep = 0 := by cases T with | leaf _ _ => rfl | fork _ _ _ => cases hL
          omega
        | false =>
          obtain ⟨y, hy, he⟩ := path_deep T ks0 hT.wf hL
          obtain ⟨j, hj, hjy⟩ := List.getElem_of_mem (show y ∈ KL by rw [hKL]; simp [hy])
          have := hpd j hj
          rw [List.getD_eq_getElem?_getD, List.getElem?_eq_getElem hj, Option.getD_some, hjy] at this
          omega
      subst hdeep
      have hMN' : M.le N' := fun j bk hj => hle _ _ (hNQ _ _ (hMN _ _ hj))
      have hdk := deep_keys T
      simp -implicitDefEqProofs (maxSteps := 1000000) (disch := omega) only [↓xsP, ↓vc_seq, xsQ, xsT, xsR, xsD, ↓reduceIte, reduceCtorEq, eq_self, ne_eq, imp_self, forall_const, Nat.reduceEqDiff, Nat.reduceAdd, Nat.reduceSub, Nat.reduceMul, Nat.reduceLT, Nat.reduceLeDiff, Nat.reduceBEq, Nat.reduceDiv, Nat.reduceMod, Int.reduceToNat, Int.reduceNeg, Int.reduceAdd, Int.reduceSub, Int.reduceMul, Int.reduceEq, Int.reduceNe, Int.reduceLT, Int.reduceLE, Int.reduceGT, Int.reduceGE, f1, f3, f28, f29, f30, hR1]
      refine call_of (vdeep_spec r1 l (by omega) hp hT _) ?_
      have q1 : decide ((T.deep : Int) = (T.deep : Int)) = true := decide_eq_true rfl
      have q2 : decide ((T.deep : Int) ≤ (T.keys.length : Int)) = true := decide_eq_true (by omega)
      simp -implicitDefEqProofs (maxSteps := 1000000) (disch := omega) only [↓xsP, ↓vc_seq, xsQ, xsT, xsR, xsD, ↓reduceIte, reduceCtorEq, eq_self, ne_eq, imp_self, forall_const, Nat.reduceEqDiff, Nat.reduceAdd, Nat.reduceSub, Nat.reduceMul, Nat.reduceLT, Nat.reduceLeDiff, Nat.reduceBEq, Nat.reduceDiv, Nat.reduceMod, Int.reduceToNat, Int.reduceNeg, Int.reduceAdd, Int.reduceSub, Int.reduceMul, Int.reduceEq, Int.reduceNe, Int.reduceLT, Int.reduceLE, Int.reduceGT, Int.reduceGE, f1, f3, f28, f29, f30, hR1, q1]
      refine call_of (vkeys_spec r1 l (by omega) hp hT _) ?_
      simp -implicitDefEqProofs (maxSteps := 1000000) (disch := omega) only [↓xsP, ↓vc_seq, xsQ, xsT, xsR, xsD, ↓reduceIte, reduceCtorEq, eq_self, ne_eq, imp_self, forall_const, Nat.reduceEqDiff, Nat.reduceAdd, Nat.reduceSub, Nat.reduceMul, Nat.reduceLT, Nat.reduceLeDiff, Nat.reduceBEq, Nat.reduceDiv, Nat.reduceMod, Int.reduceToNat, Int.reduceNeg, Int.reduceAdd, Int.reduceSub, Int.reduceMul, Int.reduceEq, Int.reduceNe, Int.reduceLT, Int.reduceLE, Int.reduceGT, Int.reduceGE, f1, f3, f28, f29, f30, hR1, q1, q2]
      refine call_of (awake23_spec _) ?_
      simp -implicitDefEqProofs (maxSteps := 1000000) (disch := omega) only [↓xsP, ↓vc_seq, xsQ, xsT, xsR, xsD, ↓reduceIte, reduceCtorEq, eq_self, ne_eq, imp_self, forall_const, Nat.reduceEqDiff, Nat.reduceAdd, Nat.reduceSub, Nat.reduceMul, Nat.reduceLT, Nat.reduceLeDiff, Nat.reduceBEq, Nat.reduceDiv, Nat.reduceMod, Int.reduceToNat, Int.reduceNeg, Int.reduceAdd, Int.reduceSub, Int.reduceMul, Int.reduceEq, Int.reduceNe, Int.reduceLT, Int.reduceLE, Int.reduceGT, Int.reduceGE]
      exact fin_ok hMN' ⟨rfl, rfl⟩
end Go.X
