/- Texts joined: Ar As An Ao Ap At Av Aw Az Fa Fb Fc. -/
import Derived.Test.YtkbcijgbhkahlaaDoorY4
set_option linter.unusedVariables false
set_option linter.unusedSimpArgs false
set_option maxHeartbeats 20000000
set_option maxRecDepth 100000
namespace Go.X
open Go.Proofs.Tryd (prog)

theorem snodeR_spec (x y : Nd) (hx : x.pairs.length ≤ 8796093022200) (M : Mem) : XCalls Go.Proofs.Tryd.prog 30 [.agg x.row, .agg y.row] M fun r M' => r = .l (.bool (bof (x = y))) ∧ M' = M := by
  refine xcalls_intro (rs := [.tmp 4]) Go.Proofs.Tryd.func30 rfl (by kernel_rfl) rfl rfl (by kernel_rfl) (by simp) ?_
  simp -implicitDefEqProofs (maxSteps := 1000000) (disch := omega) only [↓xsP, ↓vc_seq, xsQ, xsT, xsR, xsD, ↓reduceIte, reduceCtorEq, eq_self, ne_eq, imp_self, forall_const, Nat.reduceEqDiff, Nat.reduceAdd, Nat.reduceSub, Nat.reduceMul, Nat.reduceLT, Nat.reduceLeDiff, Nat.reduceBEq, Nat.reduceDiv, Nat.reduceMod, Int.reduceToNat, Int.reduceNeg, Int.reduceAdd, Int.reduceSub, Int.reduceMul, Int.reduceEq, Int.reduceNe, Int.reduceLT, Int.reduceLE, Int.reduceGT, Int.reduceGE, row_nd]
  refine newI_intro fun id hid => ?_
  simp -implicitDefEqProofs (maxSteps := 1000000) (disch := omega) only [↓xsP, ↓vc_seq, xsQ, xsT, xsR, xsD, ↓reduceIte, reduceCtorEq, eq_self, ne_eq, imp_self, forall_const, Nat.reduceEqDiff, Nat.reduceAdd, Nat.reduceSub, Nat.reduceMul, Nat.reduceLT, Nat.reduceLeDiff, Nat.reduceBEq, Nat.reduceDiv, Nat.reduceMod, Int.reduceToNat, Int.reduceNeg, Int.reduceAdd, Int.reduceSub, Int.reduceMul, Int.reduceEq, Int.reduceNe, Int.reduceLT, Int.reduceLE, Int.reduceGT, Int.reduceGE, row_nd]
  refine newI_intro fun id2 hid2 => ?_
  obtain ⟨h12, hid2⟩ := bnd_new hid2
  have hno : x ≠ y → @finI prog (.l (.bool false)) ((M.set id (.cells 46 [[.bool x.route, .int .i64 x.key, .int .i64 x.left, .int .i64 x.right, .sl (x.pairs.map Pr.row), .int .i64 x.stat]] 0)).set id2 (.cells 46 [[.bool y.route, .int .i64 y.key, .int .i64 y.left, .int .i64 y.right, .sl (y.pairs.map Pr.row), .int .i64 y.stat]] 0)) ⟨fun r M' => r = .l (.bool (bof (x = y))) ∧ M' = M⟩ := fun hne => fin_ok (le_new (le_new (Mem.le_refl _) hid) hid2) ⟨by rw [bof_false hne], rfl⟩
  by_cases c1 : x.route = y.route
  rotate_left
  · have q1 : (x.route == y.route) = false := by simpa using c1
    have q1' : decide (x.route = y.route) = false := decide_eq_false c1
    simp -implicitDefEqProofs (maxSteps := 1000000) (disch := omega) only [↓xsP, ↓vc_seq, xsQ, xsT, xsR, xsD, ↓reduceIte, reduceCtorEq, eq_self, ne_eq, imp_self, forall_const, Nat.reduceEqDiff, Nat.reduceAdd, Nat.reduceSub, Nat.reduceMul, Nat.reduceLT, Nat.reduceLeDiff, Nat.reduceBEq, Nat.reduceDiv, Nat.reduceMod, Int.reduceToNat, Int.reduceNeg, Int.reduceAdd, Int.reduceSub, Int.reduceMul, Int.reduceEq, Int.reduceNe, Int.reduceLT, Int.reduceLE, Int.reduceGT, Int.reduceGE, q1, q1']
    exact hno fun e => c1 (by rw [e])
  have q1 : (x.route == y.route) = true := by simpa using c1
  have q1' : decide (x.route = y.route) = true := decide_eq_true c1
  by_cases c2 : x.key = y.key
  rotate_left
  · have q2 : decide (x.key = y.key) = false := decide_eq_false c2
    simp -implicitDefEqProofs (maxSteps := 1000000) (disch := omega) only [↓xsP, ↓vc_seq, xsQ, xsT, xsR, xsD, ↓reduceIte, reduceCtorEq, eq_self, ne_eq, imp_self, forall_const, Nat.reduceEqDiff, Nat.reduceAdd, Nat.reduceSub, Nat.reduceMul, Nat.reduceLT, Nat.reduceLeDiff, Nat.reduceBEq, Nat.reduceDiv, Nat.reduceMod, Int.reduceToNat, Int.reduceNeg, Int.reduceAdd, Int.reduceSub, Int.reduceMul, Int.reduceEq, Int.reduceNe, Int.reduceLT, Int.reduceLE, Int.reduceGT, Int.reduceGE, q1, q1', q2]
    exact hno fun e => c2 (by rw [e])
  have q2 : decide (x.key = y.key) = true := decide_eq_true c2
  by_cases c3 : x.left = y.left
  rotate_left
  · have q3 : decide (x.left = y.left) = false := decide_eq_false c3
    simp -implicitDefEqProofs (maxSteps := 1000000) (disch := omega) only [↓xsP, ↓vc_seq, xsQ, xsT, xsR, xsD, ↓reduceIte, reduceCtorEq, eq_self, ne_eq, imp_self, forall_const, Nat.reduceEqDiff, Nat.reduceAdd, Nat.reduceSub, Nat.reduceMul, Nat.reduceLT, Nat.reduceLeDiff, Nat.reduceBEq, Nat.reduceDiv, Nat.reduceMod, Int.reduceToNat, Int.reduceNeg, Int.reduceAdd, Int.reduceSub, Int.reduceMul, Int.reduceEq, Int.reduceNe, Int.reduceLT, Int.reduceLE, Int.reduceGT, Int.reduceGE, q1, q1', q2, q3]
    exact hno fun e => c3 (by rw [e])
  have q3 : decide (x.left = y.left) = true := decide_eq_true c3
  by_cases c4 : x.right = y.right
  rotate_left
  · have q4 : decide (x.right = y.right) = false := decide_eq_false c4
    simp -implicitDefEqProofs (maxSteps := 1000000) (disch := omega) only [↓xsP, ↓vc_seq, xsQ, xsT, xsR, xsD, ↓reduceIte, reduceCtorEq, eq_self, ne_eq, imp_self, forall_const, Nat.reduceEqDiff, Nat.reduceAdd, Nat.reduceSub, Nat.reduceMul, Nat.reduceLT, Nat.reduceLeDiff, Nat.reduceBEq, Nat.reduceDiv, Nat.reduceMod, Int.reduceToNat, Int.reduceNeg, Int.reduceAdd, Int.reduceSub, Int.reduceMul, Int.reduceEq, Int.reduceNe, Int.reduceLT, Int.reduceLE, Int.reduceGT, Int.reduceGE, q1, q1', q2, q3, q4]
    exact hno fun e => c4 (by rw [e])
  have q4 : decide (x.right = y.right) = true := decide_eq_true c4
  by_cases c5 : x.stat = y.stat
  rotate_left
  · have q5 : decide (x.stat = y.stat) = false := decide_eq_false c5
    simp -implicitDefEqProofs (maxSteps := 1000000) (disch := omega) only [↓xsP, ↓vc_seq, xsQ, xsT, xsR, xsD, ↓reduceIte, reduceCtorEq, eq_self, ne_eq, imp_self, forall_const, Nat.reduceEqDiff, Nat.reduceAdd, Nat.reduceSub, Nat.reduceMul, Nat.reduceLT, Nat.reduceLeDiff, Nat.reduceBEq, Nat.reduceDiv, Nat.reduceMod, Int.reduceToNat, Int.reduceNeg, Int.reduceAdd, Int.reduceSub, Int.reduceMul, Int.reduceEq, Int.reduceNe, Int.reduceLT, Int.reduceLE, Int.reduceGT, Int.reduceGE, q1, q1', q2, q3, q4, q5]
    exact hno fun e => c5 (by rw [e])
  have q5 : decide (x.stat = y.stat) = true := decide_eq_true c5
  simp -implicitDefEqProofs (maxSteps := 1000000) (disch := omega) only [↓xsP, ↓vc_seq, xsQ, xsT, xsR, xsD, ↓reduceIte, reduceCtorEq, eq_self, ne_eq, imp_self, forall_const, Nat.reduceEqDiff, Nat.reduceAdd, Nat.reduceSub, Nat.reduceMul, Nat.reduceLT, Nat.reduceLeDiff, Nat.reduceBEq, Nat.reduceDiv, Nat.reduceMod, Int.reduceToNat, Int.reduceNeg, Int.reduceAdd, Int.reduceSub, Int.reduceMul, Int.reduceEq, Int.reduceNe, Int.reduceLT, Int.reduceLE, Int.reduceGT, Int.reduceGE, q1, q1', q2, q3, q4, q5]
  refine callI_of ((samePairs_spec x.pairs y.pairs (by omega) _).mono ?_)
  rintro _ _ ⟨rfl, rfl⟩
  simp -implicitDefEqProofs (maxSteps := 1000000) (disch := omega) only [↓xsP, ↓vc_seq, xsQ, xsT, xsR, xsD, ↓reduceIte, reduceCtorEq, eq_self, ne_eq, imp_self, forall_const, Nat.reduceEqDiff, Nat.reduceAdd, Nat.reduceSub, Nat.reduceMul, Nat.reduceLT, Nat.reduceLeDiff, Nat.reduceBEq, Nat.reduceDiv, Nat.reduceMod, Int.reduceToNat, Int.reduceNeg, Int.reduceAdd, Int.reduceSub, Int.reduceMul, Int.reduceEq, Int.reduceNe, Int.reduceLT, Int.reduceLE, Int.reduceGT, Int.reduceGE, q1, q1', q2, q3, q4, q5]
  refine fin_ok (le_new (le_new (Mem.le_refl _) hid) hid2) ⟨?_, rfl⟩
  refine congrArg (fun b => AV.l (.bool b)) (bof_congr ?_)
  obtain ⟨a1, a2, a3, a4, a5, a6⟩ := x
  obtain ⟨b1, b2, b3, b4, b5, b6⟩ := y
  simp only at c1 c2 c3 c4 c5
  simp [c1, c2, c3, c4, c5]
theorem sraw_spec (r1 r2 : Int) (l m : List Nd) (hl : l.length ≤ 140737488355328) (hp : Pok l) (M : Mem) : XCalls Go.Proofs.Tryd.prog 14 [trA r1 l, trA r2 m] M fun r M' => r = .l (.bool (bof (r1 = r2 ∧ l = m))) ∧ M' = M := by
  refine xcalls_intro (rs := [.tmp 4]) Go.Proofs.Tryd.func14 rfl (by kernel_rfl) rfl rfl (by kernel_rfl) (by simp) ?_
  simp -implicitDefEqProofs (maxSteps := 1000000) (disch := omega) only [↓xsP, ↓vc_seq, xsQ, xsT, xsR, xsD, ↓reduceIte, reduceCtorEq, eq_self, ne_eq, imp_self, forall_const, Nat.reduceEqDiff, Nat.reduceAdd, Nat.reduceSub, Nat.reduceMul, Nat.reduceLT, Nat.reduceLeDiff, Nat.reduceBEq, Nat.reduceDiv, Nat.reduceMod, Int.reduceToNat, Int.reduceNeg, Int.reduceAdd, Int.reduceSub, Int.reduceMul, Int.reduceEq, Int.reduceNe, Int.reduceLT, Int.reduceLE, Int.reduceGT, Int.reduceGE, trA]
  refine newI_intro fun id hid => ?_
  simp -implicitDefEqProofs (maxSteps := 1000000) (disch := omega) only [↓xsP, ↓vc_seq, xsQ, xsT, xsR, xsD, ↓reduceIte, reduceCtorEq, eq_self, ne_eq, imp_self, forall_const, Nat.reduceEqDiff, Nat.reduceAdd, Nat.reduceSub, Nat.reduceMul, Nat.reduceLT, Nat.reduceLeDiff, Nat.reduceBEq, Nat.reduceDiv, Nat.reduceMod, Int.reduceToNat, Int.reduceNeg, Int.reduceAdd, Int.reduceSub, Int.reduceMul, Int.reduceEq, Int.reduceNe, Int.reduceLT, Int.reduceLE, Int.reduceGT, Int.reduceGE, trA]
  refine newI_intro fun id2 hid2 => ?_
  obtain ⟨h12, hid2⟩ := bnd_new hid2
  have hfi : ∀ b : Bool, b = bof (r1 = r2 ∧ l = m) → @finI prog (.l (.bool b)) ((M.set id (.cells 24 [[.int .i64 r1, .sl (l.map Nd.row)]] 0)).set id2 (.cells 24 [[.int .i64 r2, .sl (m.map Nd.row)]] 0)) ⟨fun r M' => r = .l (.bool (bof (r1 = r2 ∧ l = m))) ∧ M' = M⟩ := fun b hb => fin_ok (le_new (le_new (Mem.le_refl _) hid) hid2) ⟨by rw [hb], rfl⟩
  by_cases c1 : r1 = r2
  rotate_left
  · have q1 : decide (¬ r1 = r2) = true := decide_eq_true c1
    simp -implicitDefEqProofs (maxSteps := 1000000) (disch := omega) only [↓xsP, ↓vc_seq, xsQ, xsT, xsR, xsD, ↓reduceIte, reduceCtorEq, eq_self, ne_eq, imp_self, forall_const, Nat.reduceEqDiff, Nat.reduceAdd, Nat.reduceSub, Nat.reduceMul, Nat.reduceLT, Nat.reduceLeDiff, Nat.reduceBEq, Nat.reduceDiv, Nat.reduceMod, Int.reduceToNat, Int.reduceNeg, Int.reduceAdd, Int.reduceSub, Int.reduceMul, Int.reduceEq, Int.reduceNe, Int.reduceLT, Int.reduceLE, Int.reduceGT, Int.reduceGE, q1]
    exact hfi _ (by rw [bof_false fun h => c1 h.1])
  have q1 : decide (¬ r1 = r2) = false := decide_eq_false fun h => h c1
  by_cases c2 : l.length = m.length
  rotate_left
  · have q2 : decide (¬ (l.length : Int) = (m.length : Int)) = true := decide_eq_true (by omega)
    simp -implicitDefEqProofs (maxSteps := 1000000) (disch := omega) only [↓xsP, ↓vc_seq, xsQ, xsT, xsR, xsD, ↓reduceIte, reduceCtorEq, eq_self, ne_eq, imp_self, forall_const, Nat.reduceEqDiff, Nat.reduceAdd, Nat.reduceSub, Nat.reduceMul, Nat.reduceLT, Nat.reduceLeDiff, Nat.reduceBEq, Nat.reduceDiv, Nat.reduceMod, Int.reduceToNat, Int.reduceNeg, Int.reduceAdd, Int.reduceSub, Int.reduceMul, Int.reduceEq, Int.reduceNe, Int.reduceLT, Int.reduceLE, Int.reduceGT, Int.reduceGE, q1, q2]
    exact hfi _ (by rw [bof_false fun h => c2 (by rw [h.2])])
  have q2 : decide (¬ (l.length : Int) = (m.length : Int)) = false := decide_eq_false (by omega)
  simp -implicitDefEqProofs (maxSteps := 1000000) (disch := omega) only [↓xsP, ↓vc_seq, xsQ, xsT, xsR, xsD, ↓reduceIte, reduceCtorEq, eq_self, ne_eq, imp_self, forall_const, Nat.reduceEqDiff, Nat.reduceAdd, Nat.reduceSub, Nat.reduceMul, Nat.reduceLT, Nat.reduceLeDiff, Nat.reduceBEq, Nat.reduceDiv, Nat.reduceMod, Int.reduceToNat, Int.reduceNeg, Int.reduceAdd, Int.reduceSub, Int.reduceMul, Int.reduceEq, Int.reduceNe, Int.reduceLT, Int.reduceLE, Int.reduceGT, Int.reduceGE, q1, q2]
  obtain ⟨N, hN⟩ : ∃ N, N = ((M.set id (.cells 24 [[.int .i64 r1, .sl (l.map Nd.row)]] 0)).set id2 (.cells 24 [[.int .i64 r2, .sl (m.map Nd.row)]] 0)) := ⟨_, rfl⟩
  have hN1 : N id = some (.cells 24 [[.int .i64 r1, .sl (l.map Nd.row)]] 0) := by rw [hN, Mem.set_ne _ _ _ _ (by omega), Mem.set_eq]
  have hN2 : N id2 = some (.cells 24 [[.int .i64 r2, .sl (m.map Nd.row)]] 0) := by rw [hN, Mem.set_eq]
  rw [← hN] at hfi ⊢
  clear hN
  refine loopI_of (xloop (by kernel_rfl) (fun k fr M' => ∃ i : Nat, i ≤ l.length ∧ k = l.length - i ∧ fr 2 = .l (.ptr id 0 0) ∧ fr 3 = .l (.ptr id2 0 0) ∧ fr 22 = .l (.int .i64 l.length) ∧ fr 23 = .l (.int .i64 i) ∧ M' = N ∧ ∀ j : Nat, j < i → l.getD j default = m.getD j default) l.length ?_ ?_)
  · refine ⟨0, Nat.zero_le _, rfl, by simp -implicitDefEqProofs (maxSteps := 1000000) (disch := omega) only [↓xsP, ↓vc_seq, xsQ, xsT, xsR, xsD, ↓reduceIte, reduceCtorEq, eq_self, ne_eq, imp_self, forall_const, Nat.reduceEqDiff, Nat.reduceAdd, Nat.reduceSub, Nat.reduceMul, Nat.reduceLT, Nat.reduceLeDiff, Nat.reduceBEq, Nat.reduceDiv, Nat.reduceMod, Int.reduceToNat, Int.reduceNeg, Int.reduceAdd, Int.reduceSub, Int.reduceMul, Int.reduceEq, Int.reduceNe, Int.reduceLT, Int.reduceLE, Int.reduceGT, Int.reduceGE], by simp -implicitDefEqProofs (maxSteps := 1000000) (disch := omega) only [↓xsP, ↓vc_seq, xsQ, xsT, xsR, xsD, ↓reduceIte, reduceCtorEq, eq_self, ne_eq, imp_self, forall_const, Nat.reduceEqDiff, Nat.reduceAdd, Nat.reduceSub, Nat.reduceMul, Nat.reduceLT, Nat.reduceLeDiff, Nat.reduceBEq, Nat.reduceDiv, Nat.reduceMod, Int.reduceToNat, Int.reduceNeg, Int.reduceAdd, Int.reduceSub, Int.reduceMul, Int.reduceEq, Int.reduceNe, Int.reduceLT, Int.reduceLE, Int.reduceGT, Int.reduceGE], by simp -implicitDefEqProofs (maxSteps := 1000000) (disch := omega) only [↓xsP, ↓vc_seq, xsQ, xsT, xsR, xsD, ↓reduceIte, reduceCtorEq, eq_self, ne_eq, imp_self, forall_const, Nat.reduceEqDiff, Nat.reduceAdd, Nat.reduceSub, Nat.reduceMul, Nat.reduceLT, Nat.reduceLeDiff, Nat.reduceBEq, Nat.reduceDiv, Nat.reduceMod, Int.reduceToNat, Int.reduceNeg, Int.reduceAdd, Int.reduceSub, Int.reduceMul, Int.reduceEq, Int.reduceNe, Int.reduceLT, Int.reduceLE, Int.reduceGT, Int.reduceGE], by simp -implicitDefEqProofs (maxSteps := 1000000) (disch := omega) only [↓xsP, ↓vc_seq, xsQ, xsT, xsR, xsD, ↓reduceIte, reduceCtorEq, eq_self, ne_eq, imp_self, forall_const, Nat.reduceEqDiff, Nat.reduceAdd, Nat.reduceSub, Nat.reduceMul, Nat.reduceLT, Nat.reduceLeDiff, Nat.reduceBEq, Nat.reduceDiv, Nat.reduceMod, Int.reduceToNat, Int.reduceNeg, Int.reduceAdd, Int.reduceSub, Int.reduceMul, Int.reduceEq, Int.reduceNe, Int.reduceLT, Int.reduceLE, Int.reduceGT, Int.reduceGE, Int.cast_ofNat_Int], rfl, fun j h1 => by omega⟩
  · rintro k fr M' ⟨i, hi, rfl, h2, h3, h22, h23, rfl, hr⟩
    simp -implicitDefEqProofs (maxSteps := 1000000) (disch := omega) only [↓xsP, ↓vc_seq, xsQ, xsT, xsR, xsD, ↓reduceIte, reduceCtorEq, eq_self, ne_eq, imp_self, forall_const, Nat.reduceEqDiff, Nat.reduceAdd, Nat.reduceSub, Nat.reduceMul, Nat.reduceLT, Nat.reduceLeDiff, Nat.reduceBEq, Nat.reduceDiv, Nat.reduceMod, Int.reduceToNat, Int.reduceNeg, Int.reduceAdd, Int.reduceSub, Int.reduceMul, Int.reduceEq, Int.reduceNe, Int.reduceLT, Int.reduceLE, Int.reduceGT, Int.reduceGE, h2, h3, h22, h23]
    refine condI_prop (fun hlt => ?_) (fun hlt => ?_)
    · have hil : i < l.length := by omega
      have him : i < m.length := by omega
      obtain ⟨x, hx⟩ : ∃ x, l.getD i default = x := ⟨_, rfl⟩
      obtain ⟨y, hy⟩ : ∃ y, m.getD i default = y := ⟨_, rfl⟩
      have hpx : x.pairs.length ≤ 8796093022200 := by rw [← hx]; exact hp _ (getD_mem' l default hil)
      simp -implicitDefEqProofs (maxSteps := 1000000) (disch := omega) only [↓xsP, ↓vc_seq, xsQ, xsT, xsR, xsD, ↓reduceIte, reduceCtorEq, eq_self, ne_eq, imp_self, forall_const, Nat.reduceEqDiff, Nat.reduceAdd, Nat.reduceSub, Nat.reduceMul, Nat.reduceLT, Nat.reduceLeDiff, Nat.reduceBEq, Nat.reduceDiv, Nat.reduceMod, Int.reduceToNat, Int.reduceNeg, Int.reduceAdd, Int.reduceSub, Int.reduceMul, Int.reduceEq, Int.reduceNe, Int.reduceLT, Int.reduceLE, Int.reduceGT, Int.reduceGE, h2, h3, h22, h23, hN1, hN2]
      refine xquiet (by kernel_rfl) (by kernel_rfl) (by kernel_rfl) ?_
      simp -implicitDefEqProofs (maxSteps := 1000000) (disch := omega) only [↓xsP, ↓vc_seq, xsQ, xsT, xsR, xsD, ↓reduceIte, reduceCtorEq, eq_self, ne_eq, imp_self, forall_const, Nat.reduceEqDiff, Nat.reduceAdd, Nat.reduceSub, Nat.reduceMul, Nat.reduceLT, Nat.reduceLeDiff, Nat.reduceBEq, Nat.reduceDiv, Nat.reduceMod, Int.reduceToNat, Int.reduceNeg, Int.reduceAdd, Int.reduceSub, Int.reduceMul, Int.reduceEq, Int.reduceNe, Int.reduceLT, Int.reduceLE, Int.reduceGT, Int.reduceGE, h2, h3, h22, h23, hN1, hN2, hx, hy]
      rw [← row_nd, ← row_nd]
      refine dcallI_of (snodeR_spec x y (by omega) _) ?_
      by_cases hxy : x = y
      · rw [bof_true hxy]
        simp -implicitDefEqProofs (maxSteps := 1000000) (disch := omega) only [↓xsP, ↓vc_seq, xsQ, xsT, xsR, xsD, ↓reduceIte, reduceCtorEq, eq_self, ne_eq, imp_self, forall_const, Nat.reduceEqDiff, Nat.reduceAdd, Nat.reduceSub, Nat.reduceMul, Nat.reduceLT, Nat.reduceLeDiff, Nat.reduceBEq, Nat.reduceDiv, Nat.reduceMod, Int.reduceToNat, Int.reduceNeg, Int.reduceAdd, Int.reduceSub, Int.reduceMul, Int.reduceEq, Int.reduceNe, Int.reduceLT, Int.reduceLE, Int.reduceGT, Int.reduceGE, h2, h3, h22, h23]
        refine ⟨l.length - (i + 1), M', by omega, Mem.le_refl _, i + 1, by omega, rfl, rfl, rfl, fun j hj => ?_⟩
        by_cases hji : j < i
        · exact hr j hji
        · have : j = i := by omega
          rw [this, hx, hy, hxy]
      · rw [bof_false hxy]
        simp -implicitDefEqProofs (maxSteps := 1000000) (disch := omega) only [↓xsP, ↓vc_seq, xsQ, xsT, xsR, xsD, ↓reduceIte, reduceCtorEq, eq_self, ne_eq, imp_self, forall_const, Nat.reduceEqDiff, Nat.reduceAdd, Nat.reduceSub, Nat.reduceMul, Nat.reduceLT, Nat.reduceLeDiff, Nat.reduceBEq, Nat.reduceDiv, Nat.reduceMod, Int.reduceToNat, Int.reduceNeg, Int.reduceAdd, Int.reduceSub, Int.reduceMul, Int.reduceEq, Int.reduceNe, Int.reduceLT, Int.reduceLE, Int.reduceGT, Int.reduceGE, h2, h3, h22, h23]
        exact hfi _ (by rw [bof_false fun h => hxy (by rw [← hx, ← hy, h.2])])
    · simp -implicitDefEqProofs (maxSteps := 1000000) (disch := omega) only [↓xsP, ↓vc_seq, xsQ, xsT, xsR, xsD, ↓reduceIte, reduceCtorEq, eq_self, ne_eq, imp_self, forall_const, Nat.reduceEqDiff, Nat.reduceAdd, Nat.reduceSub, Nat.reduceMul, Nat.reduceLT, Nat.reduceLeDiff, Nat.reduceBEq, Nat.reduceDiv, Nat.reduceMod, Int.reduceToNat, Int.reduceNeg, Int.reduceAdd, Int.reduceSub, Int.reduceMul, Int.reduceEq, Int.reduceNe, Int.reduceLT, Int.reduceLE, Int.reduceGT, Int.reduceGE, h2, h3, h22, h23]
      refine hfi _ ?_
      rw [bof_true]
      exact ⟨c1, ext_getD (by omega) fun j hj => hr j (by omega)⟩
theorem rplain_spec (root : Int) (ns : List Nd) (hl : ns.length ≤ 140737488355328) (hp : Pok ns) (M : Mem) :
    XCalls Go.Proofs.Tryd.prog 27 [trA root ns] M fun r M' => M' = M ∧ ((mayT root ns = false ∧ r = .tup [trA 0 [], .l (.bool false)]) ∨ ∃ T, Good root ns T ∧ r = .tup [trA 0 (preN 0 T), .l (.bool true)]) := by
  refine xcalls_intro (rs := [.cell 2 24, .tmp 3]) Go.Proofs.Tryd.func27 rfl (by kernel_rfl) rfl rfl (by kernel_rfl) (by simp) ?_
  simp -implicitDefEqProofs (maxSteps := 1000000) (disch := omega) only [↓xsP, ↓vc_seq, xsQ, xsT, xsR, xsD, ↓reduceIte, reduceCtorEq, eq_self, ne_eq, imp_self, forall_const, Nat.reduceEqDiff, Nat.reduceAdd, Nat.reduceSub, Nat.reduceMul, Nat.reduceLT, Nat.reduceLeDiff, Nat.reduceBEq, Nat.reduceDiv, Nat.reduceMod, Int.reduceToNat, Int.reduceNeg, Int.reduceAdd, Int.reduceSub, Int.reduceMul, Int.reduceEq, Int.reduceNe, Int.reduceLT, Int.reduceLE, Int.reduceGT, Int.reduceGE, trA]
  refine newI_intro fun id1 hid1 => ?_
  simp -implicitDefEqProofs (maxSteps := 1000000) (disch := omega) only [↓xsP, ↓vc_seq, xsQ, xsT, xsR, xsD, ↓reduceIte, reduceCtorEq, eq_self, ne_eq, imp_self, forall_const, Nat.reduceEqDiff, Nat.reduceAdd, Nat.reduceSub, Nat.reduceMul, Nat.reduceLT, Nat.reduceLeDiff, Nat.reduceBEq, Nat.reduceDiv, Nat.reduceMod, Int.reduceToNat, Int.reduceNeg, Int.reduceAdd, Int.reduceSub, Int.reduceMul, Int.reduceEq, Int.reduceNe, Int.reduceLT, Int.reduceLE, Int.reduceGT, Int.reduceGE]
  refine newI_intro fun id2 hid2 => ?_
  obtain ⟨k12, hid2'⟩ := bnd_new hid2
  simp -implicitDefEqProofs (maxSteps := 1000000) (disch := omega) only [↓xsP, ↓vc_seq, xsQ, xsT, xsR, xsD, ↓reduceIte, reduceCtorEq, eq_self, ne_eq, imp_self, forall_const, Nat.reduceEqDiff, Nat.reduceAdd, Nat.reduceSub, Nat.reduceMul, Nat.reduceLT, Nat.reduceLeDiff, Nat.reduceBEq, Nat.reduceDiv, Nat.reduceMod, Int.reduceToNat, Int.reduceNeg, Int.reduceAdd, Int.reduceSub, Int.reduceMul, Int.reduceEq, Int.reduceNe, Int.reduceLT, Int.reduceLE, Int.reduceGT, Int.reduceGE]
  by_cases h1 : ns.length ≤ 2000
  rotate_left
  · have q1 : decide ((ns.length : Int) > 2000) = true := decide_eq_true (by omega)
    simp -implicitDefEqProofs (maxSteps := 1000000) (disch := omega) only [↓xsP, ↓vc_seq, xsQ, xsT, xsR, xsD, ↓reduceIte, reduceCtorEq, eq_self, ne_eq, imp_self, forall_const, Nat.reduceEqDiff, Nat.reduceAdd, Nat.reduceSub, Nat.reduceMul, Nat.reduceLT, Nat.reduceLeDiff, Nat.reduceBEq, Nat.reduceDiv, Nat.reduceMod, Int.reduceToNat, Int.reduceNeg, Int.reduceAdd, Int.reduceSub, Int.reduceMul, Int.reduceEq, Int.reduceNe, Int.reduceLT, Int.reduceLE, Int.reduceGT, Int.reduceGE, q1]
    refine finI_of (XFin.wk (XFin.le (M' := M) (fun k bk hk => ?_) ⟨rfl, .inl ⟨?_, rfl⟩⟩))
    · have := lt_of_bnd hid1 hk
      simp (disch := omega) only [Mem.set_ne, hk]
    · rw [mayT, decide_eq_false h1]; rfl
  have q1 : decide ((ns.length : Int) > 2000) = false := decide_eq_false (by omega)
  simp -implicitDefEqProofs (maxSteps := 1000000) (disch := omega) only [↓xsP, ↓vc_seq, xsQ, xsT, xsR, xsD, ↓reduceIte, reduceCtorEq, eq_self, ne_eq, imp_self, forall_const, Nat.reduceEqDiff, Nat.reduceAdd, Nat.reduceSub, Nat.reduceMul, Nat.reduceLT, Nat.reduceLeDiff, Nat.reduceBEq, Nat.reduceDiv, Nat.reduceMod, Int.reduceToNat, Int.reduceNeg, Int.reduceAdd, Int.reduceSub, Int.reduceMul, Int.reduceEq, Int.reduceNe, Int.reduceLT, Int.reduceLE, Int.reduceGT, Int.reduceGE, q1]
  obtain ⟨A, eA, hA1, hA2, hMA⟩ : ∃ A, A = (M.set id1 (.cells 24 [[.int .i64 root, .sl (ns.map Nd.row)]] 0)).set id2 (.cells 24 [[.int .i64 0, .nils]] 0) ∧ A id1 = some (.cells 24 [[.int .i64 root, .sl (ns.map Nd.row)]] 0) ∧ A id2 = some (.cells 24 [[.int .i64 0, .nils]] 0) ∧ ∀ k bk, M k = some bk → k ≠ id2 ∧ A k = some bk := ⟨_, rfl, by rw [Mem.set_ne _ _ _ _ (by omega), Mem.set_eq], Mem.set_eq _ _ _, fun k bk hk => by
    have := lt_of_bnd hid1 hk
    refine ⟨by omega, ?_⟩
    rw [Mem.set_ne _ _ _ _ (by omega), Mem.set_ne _ _ _ _ (by omega)]; exact hk⟩
  rw [← eA]
  refine xwrite (fun n0 => [ ]) [] [4, 6] [[], [], [], [], [], [], [], []] (by kernel_rfl) (by kernel_rfl) (by kernel_rfl) (by kernel_rfl) (fun n0 hn0 => ⟨rfl, ?_, ?_⟩)
  · exact TOk_nil _ _
  have e1 := lt_of_bnd hn0 hA1
  have e2 := lt_of_bnd hn0 hA2
  simp -implicitDefEqProofs (maxSteps := 1000000) (disch := omega) only [↓xsP, ↓vc_seq, xsQ, xsT, xsR, xsD, ↓reduceIte, reduceCtorEq, eq_self, ne_eq, imp_self, forall_const, Nat.reduceEqDiff, Nat.reduceAdd, Nat.reduceSub, Nat.reduceMul, Nat.reduceLT, Nat.reduceLeDiff, Nat.reduceBEq, Nat.reduceDiv, Nat.reduceMod, Int.reduceToNat, Int.reduceNeg, Int.reduceAdd, Int.reduceSub, Int.reduceMul, Int.reduceEq, Int.reduceNe, Int.reduceLT, Int.reduceLE, Int.reduceGT, Int.reduceGE, hA1]
  rw [if_pos ⟨by omega, by omega, by omega⟩]
  simp -implicitDefEqProofs (maxSteps := 1000000) (disch := omega) only [↓xsP, ↓vc_seq, xsQ, xsT, xsR, xsD, ↓reduceIte, reduceCtorEq, eq_self, ne_eq, imp_self, forall_const, Nat.reduceEqDiff, Nat.reduceAdd, Nat.reduceSub, Nat.reduceMul, Nat.reduceLT, Nat.reduceLeDiff, Nat.reduceBEq, Nat.reduceDiv, Nat.reduceMod, Int.reduceToNat, Int.reduceNeg, Int.reduceAdd, Int.reduceSub, Int.reduceMul, Int.reduceEq, Int.reduceNe, Int.reduceLT, Int.reduceLE, Int.reduceGT, Int.reduceGE, hA1, List.length_replicate]
  refine ⟨.inl (by decide), .inl (by decide), ?_⟩
  obtain ⟨idm, eidm⟩ : ∃ x, x = n0 + 4 := ⟨_, rfl⟩
  obtain ⟨idc, eidc⟩ : ∃ x, x = n0 + 6 := ⟨_, rfl⟩
  rw [← eidm, ← eidc]
  have hcm : idc ≠ idm := by omega
  have hrep : List.replicate ns.length [Lf.bool false] = (List.replicate ns.length false).map brow := by rw [List.map_replicate]; rfl
  rw [hrep]
  have hP : PSt A ((A.set idm (.cells 4 ((List.replicate ns.length false).map brow) 0)).set idc (.cells 82 [[.int .i64 root, .sl (ns.map Nd.row), .nils, .ms idm 0 ns.length, .bool false]] 0)) root ns idc idm (List.replicate ns.length false) [] .nils false := by
    have hm : ∀ j, n0 ≤ j → A j = none := hn0
    refine ⟨Mem.set_eq _ _ _, by rw [Mem.set_ne _ _ _ _ hcm, Mem.set_eq, mtB], hm _ (by omega), hm _ (by omega), fun k bk hk => ?_, .inl ⟨rfl, rfl⟩⟩
    have := lt_of_bnd hn0 hk
    rw [Mem.set_ne _ _ _ _ (by omega), Mem.set_ne _ _ _ _ (by omega)]
    exact hk
  have hu := unmet_rep ns.length
  have sp := plan_spec root ns (by omega) hp idc idm (ns.length + 1) A (List.replicate ns.length false) 0 root ks0 [] .nils _ List.length_replicate (by omega) (by rw [hu]; simp only [List.length_nil]; omega) (fun r hr => by cases hr) hP
  refine callI_of ((XCalls.rd (.cons (.inl ⟨rfl, Fast.ptr _ _ _⟩) (.cons (.inl ⟨rfl, Fast.int _ _⟩) (.cons (.inr ⟨_, _, rfl, rfl, Rd.nils _⟩) (.cons (.inr ⟨_, _, rfl, rfl, Rd.nils _⟩) .nil)))) sp).mono ?_)
  have hml := mayS_len ns (ns.length + 1) (List.replicate ns.length false, 0) root ks0
  rintro r N (⟨hR, T, pl, x', hH, hmk, hsz, rfl, hP2⟩ | ⟨hR, v, m', R, x', rfl, hP2, hl1, hl2, hR6⟩)
  · obtain ⟨T', pl', g1, g2, g3, g4, g5⟩ := mayS_sound ns _ _ _ _ _ List.length_replicate hR
    obtain ⟨rfl, rfl⟩ := hH.uniq g1
    have hown := hP2.own
    rw [plB] at hown
    have hN1 := hP2.le _ _ hA1
    have hN2 := hP2.le _ _ hA2
    have hsp := T.size_pos
    obtain ⟨idn, rfl, hn, hBn, hnc, hnm⟩ := hP2.ms (fun e => by
      have := congrArg List.length e
      rw [List.nil_append, preR_len] at this
      simp at this
      omega)
    have hlen : ([] ++ preR ([] : List (List Lf)).length T).length = T.size := by rw [List.nil_append, preR_len]
    rw [hlen] at hown hP2
    rw [List.nil_append, List.length_nil] at hn hP2
    have hmt : mayT root ns = decide (T.size = ns.length) := by
      rw [mayT, decide_eq_true h1, Bool.true_and, mayR, g5, Bool.true_and]
      rw [decide_eq_decide]
      simp only
      omega
    simp -implicitDefEqProofs (maxSteps := 1000000) (disch := omega) only [↓xsP, ↓vc_seq, xsQ, xsT, xsR, xsD, ↓reduceIte, reduceCtorEq, eq_self, ne_eq, imp_self, forall_const, Nat.reduceEqDiff, Nat.reduceAdd, Nat.reduceSub, Nat.reduceMul, Nat.reduceLT, Nat.reduceLeDiff, Nat.reduceBEq, Nat.reduceDiv, Nat.reduceMod, Int.reduceToNat, Int.reduceNeg, Int.reduceAdd, Int.reduceSub, Int.reduceMul, Int.reduceEq, Int.reduceNe, Int.reduceLT, Int.reduceLE, Int.reduceGT, Int.reduceGE, hown, hN1]
    refine xquiet (by kernel_rfl) (by kernel_rfl) (by kernel_rfl) ?_
    by_cases c1 : T.size = ns.length
    rotate_left
    · have q2 : decide (¬ (T.size : Int) = (ns.length : Int)) = true := decide_eq_true (by omega)
      simp -implicitDefEqProofs (maxSteps := 1000000) (disch := omega) only [↓xsP, ↓vc_seq, xsQ, xsT, xsR, xsD, ↓reduceIte, reduceCtorEq, eq_self, ne_eq, imp_self, forall_const, Nat.reduceEqDiff, Nat.reduceAdd, Nat.reduceSub, Nat.reduceMul, Nat.reduceLT, Nat.reduceLeDiff, Nat.reduceBEq, Nat.reduceDiv, Nat.reduceMod, Int.reduceToNat, Int.reduceNeg, Int.reduceAdd, Int.reduceSub, Int.reduceMul, Int.reduceEq, Int.reduceNe, Int.reduceLT, Int.reduceLE, Int.reduceGT, Int.reduceGE, hown, hN1, q2, hN2]
      refine finI_of (XFin.wk (XFin.le (M' := M) (fun k bk hk => ?_) ⟨rfl, .inl ⟨by rw [hmt, decide_eq_false c1], rfl⟩⟩))
      obtain ⟨k2, hk2⟩ := hMA _ _ hk
      rw [Mem.set_ne _ _ _ _ (Ne.symm k2)]
      exact hP2.le _ _ hk2
    have q2 : decide (¬ (T.size : Int) = (ns.length : Int)) = false := decide_eq_false (by omega)
    simp -implicitDefEqProofs (maxSteps := 1000000) (disch := omega) only [↓xsP, ↓vc_seq, xsQ, xsT, xsR, xsD, ↓reduceIte, reduceCtorEq, eq_self, ne_eq, imp_self, forall_const, Nat.reduceEqDiff, Nat.reduceAdd, Nat.reduceSub, Nat.reduceMul, Nat.reduceLT, Nat.reduceLeDiff, Nat.reduceBEq, Nat.reduceDiv, Nat.reduceMod, Int.reduceToNat, Int.reduceNeg, Int.reduceAdd, Int.reduceSub, Int.reduceMul, Int.reduceEq, Int.reduceNe, Int.reduceLT, Int.reduceLE, Int.reduceGT, Int.reduceGE, hown, hN1, q2, hN2]
    have hn2 : idn ≠ id2 := fun e => by rw [e, hA2] at hBn; cases hBn
    have hpl := preN_len T 0
    refine finI_gs (GStep.keep' (id := idn) (by rw [Mem.set_ne _ _ _ _ (Ne.symm hn2)]; exact hn) (preR_wk T 0)) ?_
    refine finI_of (XFin.frz idn (Mem.set_eq _ _ _) (XFin.le (M' := M) (fun k bk hk => ?_) ⟨rfl, .inr ⟨T, ⟨h1, ⟨pl, hH, g3⟩, g2, c1⟩, ?_⟩⟩))
    · obtain ⟨k2, hk2⟩ := hMA _ _ hk
      have k3 : k ≠ idn := fun e => by rw [e, hBn] at hk2; cases hk2
      rw [Mem.set_ne _ _ _ _ (Ne.symm k3), Mem.set_ne _ _ _ _ (Ne.symm k3), Mem.set_ne _ _ _ _ (Ne.symm k2)]
      exact hP2.le _ _ hk2
    · simp only [frzA, frz1, frzL, List.map_cons, List.map_nil, List.length_map, hpl, Nat.zero_add, Nat.le_refl, and_self, if_true, List.drop_zero]
      rw [List.take_of_length_le (by rw [List.length_map, hpl]; exact Nat.le_refl _)]
      rfl
  · have hown := hP2.own
    rw [plB] at hown
    have hN2 := hP2.le _ _ hA2
    have hmt : mayT root ns = false := by
      rw [mayT, mayR, hR]
      simp
    simp -implicitDefEqProofs (maxSteps := 1000000) (disch := omega) only [↓xsP, ↓vc_seq, xsQ, xsT, xsR, xsD, ↓reduceIte, reduceCtorEq, eq_self, ne_eq, imp_self, forall_const, Nat.reduceEqDiff, Nat.reduceAdd, Nat.reduceSub, Nat.reduceMul, Nat.reduceLT, Nat.reduceLeDiff, Nat.reduceBEq, Nat.reduceDiv, Nat.reduceMod, Int.reduceToNat, Int.reduceNeg, Int.reduceAdd, Int.reduceSub, Int.reduceMul, Int.reduceEq, Int.reduceNe, Int.reduceLT, Int.reduceLE, Int.reduceGT, Int.reduceGE, hown]
    refine xquiet (by kernel_rfl) (by kernel_rfl) (by kernel_rfl) ?_
    simp -implicitDefEqProofs (maxSteps := 1000000) (disch := omega) only [↓xsP, ↓vc_seq, xsQ, xsT, xsR, xsD, ↓reduceIte, reduceCtorEq, eq_self, ne_eq, imp_self, forall_const, Nat.reduceEqDiff, Nat.reduceAdd, Nat.reduceSub, Nat.reduceMul, Nat.reduceLT, Nat.reduceLeDiff, Nat.reduceBEq, Nat.reduceDiv, Nat.reduceMod, Int.reduceToNat, Int.reduceNeg, Int.reduceAdd, Int.reduceSub, Int.reduceMul, Int.reduceEq, Int.reduceNe, Int.reduceLT, Int.reduceLE, Int.reduceGT, Int.reduceGE, hown, hN2]
    refine finI_of (XFin.wk (XFin.le (M' := M) (fun k bk hk => ?_) ⟨rfl, .inl ⟨hmt, rfl⟩⟩))
    obtain ⟨k2, hk2⟩ := hMA _ _ hk
    rw [Mem.set_ne _ _ _ _ (Ne.symm k2)]
    exact hP2.le _ _ hk2
theorem Good.sz {root : Int} {ns : List Nd} {T : Tr} (h : Good root ns T) : T.size ≤ 2000 := by have := h.few; have := h.all; omega
end Go.X
set_option linter.unusedVariables false
set_option linter.unusedSimpArgs false
set_option maxHeartbeats 20000000
set_option maxRecDepth 100000
namespace Go.X
open Go.Proofs.Tryd (prog)

theorem bnd_le {M N : Mem} (h : M.le N) {id : Nat} (hid : ∀ j, id ≤ j → N j = none) : ∀ j, id ≤ j → M j = none := fun j hj => by
  cases hm : M j with
  | none => rfl
  | some bk => have := h _ _ hm; rw [hid j hj] at this; cases this
def psum (l : List Nd) : Nat := (l.map fun x => x.pairs.length).sum
theorem psum_take {l : List Nd} {i : Nat} (h : i < l.length) : psum (l.take (i + 1)) = psum (l.take i) + (l.getD i default).pairs.length := by
  rw [take_sc l default h, psum, List.map_append, List.sum_append]
  simp [psum]
theorem psum_le {l : List Nd} (hp : Pok l) (i : Nat) : psum (l.take i) ≤ 8796093022200 * i := by
  induction i with
  | zero => exact Nat.zero_le _
  | succ i ih =>
    by_cases h : i < l.length
    · rw [psum_take h]
      have := hp _ (getD_mem' l default h)
      omega
    · rw [List.take_of_length_le (by omega)]
      rw [List.take_of_length_le (by omega)] at ih
      omega
def lgt (l : List Nd) : Int := if l.length ≤ 450 ∧ psum l ≤ 2000 then 0 else 1
theorem light14_spec (root : Int) (ns : List Nd) (hl : ns.length ≤ 140737488355328) (hp : Pok ns) (M : Mem) : XCalls Go.Proofs.Tryd.prog 8 [trA root ns] M fun r M' => r = .l (.int .i64 (lgt ns)) ∧ M' = M := by
  refine xcalls_intro (rs := [.tmp 2]) Go.Proofs.Tryd.func8 rfl (by kernel_rfl) rfl rfl (by kernel_rfl) (by simp) ?_
  simp -implicitDefEqProofs (maxSteps := 1000000) (disch := omega) only [↓xsP, ↓vc_seq, xsQ, xsT, xsR, xsD, ↓reduceIte, reduceCtorEq, eq_self, ne_eq, imp_self, forall_const, Nat.reduceEqDiff, Nat.reduceAdd, Nat.reduceSub, Nat.reduceMul, Nat.reduceLT, Nat.reduceLeDiff, Nat.reduceBEq, Nat.reduceDiv, Nat.reduceMod, Int.reduceToNat, Int.reduceNeg, Int.reduceAdd, Int.reduceSub, Int.reduceMul, Int.reduceEq, Int.reduceNe, Int.reduceLT, Int.reduceLE, Int.reduceGT, Int.reduceGE, trA]
  refine newI_intro fun id hid => ?_
  have hN := Mem.set_eq M id (.cells 24 [[.int .i64 root, .sl (ns.map Nd.row)]] 0)
  simp -implicitDefEqProofs (maxSteps := 1000000) (disch := omega) only [↓xsP, ↓vc_seq, xsQ, xsT, xsR, xsD, ↓reduceIte, reduceCtorEq, eq_self, ne_eq, imp_self, forall_const, Nat.reduceEqDiff, Nat.reduceAdd, Nat.reduceSub, Nat.reduceMul, Nat.reduceLT, Nat.reduceLeDiff, Nat.reduceBEq, Nat.reduceDiv, Nat.reduceMod, Int.reduceToNat, Int.reduceNeg, Int.reduceAdd, Int.reduceSub, Int.reduceMul, Int.reduceEq, Int.reduceNe, Int.reduceLT, Int.reduceLE, Int.reduceGT, Int.reduceGE, trA]
  refine loopI_of (xloop (by kernel_rfl) (fun k fr M' => ∃ i : Nat, ∃ v : Int, i ≤ ns.length ∧ k = ns.length - i ∧ fr 1 = .l (.ptr id 0 0) ∧ fr 7 = .l (.sl (ns.map Nd.row)) ∧ fr 8 = .l (.int .i64 ns.length) ∧ fr 9 = .l (.int .i64 i) ∧ fr 3 = .l (.int .i64 v) ∧ M' id = some (.cells 24 [[.int .i64 root, .sl (ns.map Nd.row)]] 0) ∧ M.le M' ∧ (ns.length ≤ 450 → v = (psum (ns.take i) : Nat))) ns.length ?_ ?_)
  · refine ⟨0, 0, Nat.zero_le _, rfl, by simp -implicitDefEqProofs (maxSteps := 1000000) (disch := omega) only [↓xsP, ↓vc_seq, xsQ, xsT, xsR, xsD, ↓reduceIte, reduceCtorEq, eq_self, ne_eq, imp_self, forall_const, Nat.reduceEqDiff, Nat.reduceAdd, Nat.reduceSub, Nat.reduceMul, Nat.reduceLT, Nat.reduceLeDiff, Nat.reduceBEq, Nat.reduceDiv, Nat.reduceMod, Int.reduceToNat, Int.reduceNeg, Int.reduceAdd, Int.reduceSub, Int.reduceMul, Int.reduceEq, Int.reduceNe, Int.reduceLT, Int.reduceLE, Int.reduceGT, Int.reduceGE], by simp -implicitDefEqProofs (maxSteps := 1000000) (disch := omega) only [↓xsP, ↓vc_seq, xsQ, xsT, xsR, xsD, ↓reduceIte, reduceCtorEq, eq_self, ne_eq, imp_self, forall_const, Nat.reduceEqDiff, Nat.reduceAdd, Nat.reduceSub, Nat.reduceMul, Nat.reduceLT, Nat.reduceLeDiff, Nat.reduceBEq, Nat.reduceDiv, Nat.reduceMod, Int.reduceToNat, Int.reduceNeg, Int.reduceAdd, Int.reduceSub, Int.reduceMul, Int.reduceEq, Int.reduceNe, Int.reduceLT, Int.reduceLE, Int.reduceGT, Int.reduceGE], by simp -implicitDefEqProofs (maxSteps := 1000000) (disch := omega) only [↓xsP, ↓vc_seq, xsQ, xsT, xsR, xsD, ↓reduceIte, reduceCtorEq, eq_self, ne_eq, imp_self, forall_const, Nat.reduceEqDiff, Nat.reduceAdd, Nat.reduceSub, Nat.reduceMul, Nat.reduceLT, Nat.reduceLeDiff, Nat.reduceBEq, Nat.reduceDiv, Nat.reduceMod, Int.reduceToNat, Int.reduceNeg, Int.reduceAdd, Int.reduceSub, Int.reduceMul, Int.reduceEq, Int.reduceNe, Int.reduceLT, Int.reduceLE, Int.reduceGT, Int.reduceGE], by simp -implicitDefEqProofs (maxSteps := 1000000) (disch := omega) only [↓xsP, ↓vc_seq, xsQ, xsT, xsR, xsD, ↓reduceIte, reduceCtorEq, eq_self, ne_eq, imp_self, forall_const, Nat.reduceEqDiff, Nat.reduceAdd, Nat.reduceSub, Nat.reduceMul, Nat.reduceLT, Nat.reduceLeDiff, Nat.reduceBEq, Nat.reduceDiv, Nat.reduceMod, Int.reduceToNat, Int.reduceNeg, Int.reduceAdd, Int.reduceSub, Int.reduceMul, Int.reduceEq, Int.reduceNe, Int.reduceLT, Int.reduceLE, Int.reduceGT, Int.reduceGE, Int.cast_ofNat_Int], by simp -implicitDefEqProofs (maxSteps := 1000000) (disch := omega) only [↓xsP, ↓vc_seq, xsQ, xsT, xsR, xsD, ↓reduceIte, reduceCtorEq, eq_self, ne_eq, imp_self, forall_const, Nat.reduceEqDiff, Nat.reduceAdd, Nat.reduceSub, Nat.reduceMul, Nat.reduceLT, Nat.reduceLeDiff, Nat.reduceBEq, Nat.reduceDiv, Nat.reduceMod, Int.reduceToNat, Int.reduceNeg, Int.reduceAdd, Int.reduceSub, Int.reduceMul, Int.reduceEq, Int.reduceNe, Int.reduceLT, Int.reduceLE, Int.reduceGT, Int.reduceGE], hN, le_new (Mem.le_refl _) hid, fun _ => by simp [psum]⟩
  · rintro k fr M' ⟨i, v, hi, rfl, f1, f7, f8, f9, f3, hM, hle, hv⟩
    simp -implicitDefEqProofs (maxSteps := 1000000) (disch := omega) only [↓xsP, ↓vc_seq, xsQ, xsT, xsR, xsD, ↓reduceIte, reduceCtorEq, eq_self, ne_eq, imp_self, forall_const, Nat.reduceEqDiff, Nat.reduceAdd, Nat.reduceSub, Nat.reduceMul, Nat.reduceLT, Nat.reduceLeDiff, Nat.reduceBEq, Nat.reduceDiv, Nat.reduceMod, Int.reduceToNat, Int.reduceNeg, Int.reduceAdd, Int.reduceSub, Int.reduceMul, Int.reduceEq, Int.reduceNe, Int.reduceLT, Int.reduceLE, Int.reduceGT, Int.reduceGE, f1, f7, f8, f9, f3]
    refine condI_prop (fun hlt => ?_) (fun hlt => ?_)
    · have hil : i < ns.length := by omega
      obtain ⟨x, hx⟩ : ∃ x, ns.getD i default = x := ⟨_, rfl⟩
      have hpx : x.pairs.length ≤ 8796093022200 := by rw [← hx]; exact hp _ (getD_mem' ns default hil)
      simp -implicitDefEqProofs (maxSteps := 1000000) (disch := omega) only [↓xsP, ↓vc_seq, xsQ, xsT, xsR, xsD, ↓reduceIte, reduceCtorEq, eq_self, ne_eq, imp_self, forall_const, Nat.reduceEqDiff, Nat.reduceAdd, Nat.reduceSub, Nat.reduceMul, Nat.reduceLT, Nat.reduceLeDiff, Nat.reduceBEq, Nat.reduceDiv, Nat.reduceMod, Int.reduceToNat, Int.reduceNeg, Int.reduceAdd, Int.reduceSub, Int.reduceMul, Int.reduceEq, Int.reduceNe, Int.reduceLT, Int.reduceLE, Int.reduceGT, Int.reduceGE, f1, f7, f8, f9, f3, hx, row_nd]
      refine newI_intro fun id5 hid5 => ?_
      have h5 := Mem.set_eq M' id5 (.cells 46 [[.bool x.route, .int .i64 x.key, .int .i64 x.left, .int .i64 x.right, .sl (x.pairs.map Pr.row), .int .i64 x.stat]] 0)
      simp -implicitDefEqProofs (maxSteps := 1000000) (disch := omega) only [↓xsP, ↓vc_seq, xsQ, xsT, xsR, xsD, ↓reduceIte, reduceCtorEq, eq_self, ne_eq, imp_self, forall_const, Nat.reduceEqDiff, Nat.reduceAdd, Nat.reduceSub, Nat.reduceMul, Nat.reduceLT, Nat.reduceLeDiff, Nat.reduceBEq, Nat.reduceDiv, Nat.reduceMod, Int.reduceToNat, Int.reduceNeg, Int.reduceAdd, Int.reduceSub, Int.reduceMul, Int.reduceEq, Int.reduceNe, Int.reduceLT, Int.reduceLE, Int.reduceGT, Int.reduceGE, f1, f7, f8, f9, f3, hx, row_nd]
      refine ⟨ns.length - (i + 1), _, by omega, Mem.le_refl _, i + 1, _, by omega, rfl, by simp, rfl, ?_, ?_, fun h => ?_⟩
      · have := lt_of_bnd hid5 hM
        rw [Mem.set_ne _ _ _ _ (by omega)]; exact hM
      · exact le_new hle (bnd_le hle hid5)
      · have h1 := psum_le hp i
        rw [hv h, psum_take hil, hx, IntKind.wrap_i64]
        omega
    · have hil : i = ns.length := by omega
      subst hil
      rw [List.take_of_length_le (Nat.le_refl _)] at hv
      by_cases c1 : ns.length ≤ 450
      rotate_left
      · have q1 : decide ((ns.length : Int) > 450) = true := decide_eq_true (by omega)
        simp -implicitDefEqProofs (maxSteps := 1000000) (disch := omega) only [↓xsP, ↓vc_seq, xsQ, xsT, xsR, xsD, ↓reduceIte, reduceCtorEq, eq_self, ne_eq, imp_self, forall_const, Nat.reduceEqDiff, Nat.reduceAdd, Nat.reduceSub, Nat.reduceMul, Nat.reduceLT, Nat.reduceLeDiff, Nat.reduceBEq, Nat.reduceDiv, Nat.reduceMod, Int.reduceToNat, Int.reduceNeg, Int.reduceAdd, Int.reduceSub, Int.reduceMul, Int.reduceEq, Int.reduceNe, Int.reduceLT, Int.reduceLE, Int.reduceGT, Int.reduceGE, f1, f7, f8, f9, f3, hM, q1]
        exact fin_ok hle ⟨by rw [lgt, if_neg (fun h => c1 h.1)], rfl⟩
      have q1 : decide ((ns.length : Int) > 450) = false := decide_eq_false (by omega)
      by_cases c2 : psum ns ≤ 2000
      rotate_left
      · have q2 : decide (v > 2000) = true := decide_eq_true (by rw [hv c1]; omega)
        simp -implicitDefEqProofs (maxSteps := 1000000) (disch := omega) only [↓xsP, ↓vc_seq, xsQ, xsT, xsR, xsD, ↓reduceIte, reduceCtorEq, eq_self, ne_eq, imp_self, forall_const, Nat.reduceEqDiff, Nat.reduceAdd, Nat.reduceSub, Nat.reduceMul, Nat.reduceLT, Nat.reduceLeDiff, Nat.reduceBEq, Nat.reduceDiv, Nat.reduceMod, Int.reduceToNat, Int.reduceNeg, Int.reduceAdd, Int.reduceSub, Int.reduceMul, Int.reduceEq, Int.reduceNe, Int.reduceLT, Int.reduceLE, Int.reduceGT, Int.reduceGE, f1, f7, f8, f9, f3, hM, q1, q2]
        exact fin_ok hle ⟨by rw [lgt, if_neg (fun h => c2 h.2)], rfl⟩
      have q2 : decide (v > 2000) = false := decide_eq_false (by rw [hv c1]; omega)
      simp -implicitDefEqProofs (maxSteps := 1000000) (disch := omega) only [↓xsP, ↓vc_seq, xsQ, xsT, xsR, xsD, ↓reduceIte, reduceCtorEq, eq_self, ne_eq, imp_self, forall_const, Nat.reduceEqDiff, Nat.reduceAdd, Nat.reduceSub, Nat.reduceMul, Nat.reduceLT, Nat.reduceLeDiff, Nat.reduceBEq, Nat.reduceDiv, Nat.reduceMod, Int.reduceToNat, Int.reduceNeg, Int.reduceAdd, Int.reduceSub, Int.reduceMul, Int.reduceEq, Int.reduceNe, Int.reduceLT, Int.reduceLE, Int.reduceGT, Int.reduceGE, f1, f7, f8, f9, f3, hM, q1, q2]
      exact fin_ok hle ⟨by rw [lgt, if_pos ⟨c1, c2⟩], rfl⟩
end Go.X
set_option linter.unusedVariables false
set_option linter.unusedSimpArgs false
set_option maxHeartbeats 20000000
set_option maxRecDepth 100000
namespace Go.X
open Go.Proofs.Tryd (prog)

theorem route_spec (B : Mem) (id f : Nat) (ih : ∀ g, g ≤ f → NodeP B id g) (s : List UInt8) (rows : List (List Lf)) (ph : List Lf) (xn : Lf) (N : Mem) (hs : s.length ≤ 1000000) (hf : rows.length + 1 + f ≤ 100000) (h6 : R6 (rows ++ [ph])) (hR : RSt B N id s f (rows ++ [ph]) xn) :
    XCalls Go.Proofs.Tryd.prog 40 [.l (.ptr id 0 0), .l (.int .i64 rows.length)] N (RouteK B id s f rows) := by
  refine xcalls_intro (rs := [.tmp 4]) Go.Proofs.Tryd.func40 rfl (by kernel_rfl) rfl rfl (by kernel_rfl) (by simp) ?_
  simp -implicitDefEqProofs (maxSteps := 1000000) (disch := omega) only [↓xsP, ↓vc_seq, xsQ, xsT, xsR, xsD, ↓reduceIte, reduceCtorEq, eq_self, ne_eq, imp_self, forall_const, Nat.reduceEqDiff, Nat.reduceAdd, Nat.reduceSub, Nat.reduceMul, Nat.reduceLT, Nat.reduceLeDiff, Nat.reduceBEq, Nat.reduceDiv, Nat.reduceMod, Int.reduceToNat, Int.reduceNeg, Int.reduceAdd, Int.reduceSub, Int.reduceMul, Int.reduceEq, Int.reduceNe, Int.reduceLT, Int.reduceLE, Int.reduceGT, Int.reduceGE]
  refine callI_of ((ih f (Nat.le_refl _) s (rows ++ [ph]) xn N hs (by simp; omega) h6 hR).mono ?_)
  rintro r' N1 (⟨T, t, f1, xn1, hT, hsz, rfl, hR1⟩ | ⟨hno, n, s1, left1, rows1, xn1, rfl, hR1, hl1, hl2, h61⟩)
  rotate_left
  · simp -implicitDefEqProofs (maxSteps := 1000000) (disch := omega) only [↓xsP, ↓vc_seq, xsQ, xsT, xsR, xsD, ↓reduceIte, reduceCtorEq, eq_self, ne_eq, imp_self, forall_const, Nat.reduceEqDiff, Nat.reduceAdd, Nat.reduceSub, Nat.reduceMul, Nat.reduceLT, Nat.reduceLeDiff, Nat.reduceBEq, Nat.reduceDiv, Nat.reduceMod, Int.reduceToNat, Int.reduceNeg, Int.reduceAdd, Int.reduceSub, Int.reduceMul, Int.reduceEq, Int.reduceNe, Int.reduceLT, Int.reduceLE, Int.reduceGT, Int.reduceGE]
    refine fin_ok (Mem.le_refl _) (.inr ⟨fun k L R t ⟨b, c, g1, g2, g3⟩ => ?_, s1, left1, rows1, xn1, rfl, hR1, by simp at hl1; omega, by simp at hl2; omega, h61⟩)
    have := hno _ _ g1
    omega
  have htl := treeAt_len hT
  simp -implicitDefEqProofs (maxSteps := 1000000) (disch := omega) only [↓xsP, ↓vc_seq, xsQ, xsT, xsR, xsD, ↓reduceIte, reduceCtorEq, eq_self, ne_eq, imp_self, forall_const, Nat.reduceEqDiff, Nat.reduceAdd, Nat.reduceSub, Nat.reduceMul, Nat.reduceLT, Nat.reduceLeDiff, Nat.reduceBEq, Nat.reduceDiv, Nat.reduceMod, Int.reduceToNat, Int.reduceNeg, Int.reduceAdd, Int.reduceSub, Int.reduceMul, Int.reduceEq, Int.reduceNe, Int.reduceLT, Int.reduceLE, Int.reduceGT, Int.reduceGE]
  refine callI_of ((sign_spec t f1 xn1 32 id N1 hR1.own).mono ?_)
  rintro _ _ ⟨rfl, rfl⟩
  have hcl := cutc_len 32 t
  have hR2 := hR1.set (cutc 32 t) f1
  generalize N1.set id (rdB (cutc 32 t) f1 xn1) = N2 at hR2 ⊢
  have hrl : ((rows ++ [ph]) ++ preR (rows ++ [ph]).length T).length = rows.length + 1 + T.size := by simp [preR_len]; omega
  have h6a : R6 ((rows ++ [ph]) ++ preR (rows ++ [ph]).length T) := fun r hr => by
    rcases List.mem_append.1 hr with hr | hr
    · exact h6 r hr
    · exact preR_6 _ _ r hr
  by_cases h32 : t.head? = some 32
  rotate_left
  · rw [decide_eq_false h32]
    simp -implicitDefEqProofs (maxSteps := 1000000) (disch := omega) only [↓xsP, ↓vc_seq, xsQ, xsT, xsR, xsD, ↓reduceIte, reduceCtorEq, eq_self, ne_eq, imp_self, forall_const, Nat.reduceEqDiff, Nat.reduceAdd, Nat.reduceSub, Nat.reduceMul, Nat.reduceLT, Nat.reduceLeDiff, Nat.reduceBEq, Nat.reduceDiv, Nat.reduceMod, Int.reduceToNat, Int.reduceNeg, Int.reduceAdd, Int.reduceSub, Int.reduceMul, Int.reduceEq, Int.reduceNe, Int.reduceLT, Int.reduceLE, Int.reduceGT, Int.reduceGE]
    refine fin_ok (Mem.le_refl _) (.inr ⟨fun k L R t' ⟨b, c, g1, g2, g3⟩ => ?_, _, _, _, _, rfl, hR2, by rw [hrl]; omega, by rw [hrl]; omega, h6a⟩)
    obtain ⟨rfl, e⟩ := treeAt_uniq g1 hT
    rw [← e] at h32
    exact absurd rfl h32
  rw [decide_eq_true h32]
  have ht32 := cutc_eq h32
  obtain ⟨s2, hs2⟩ : ∃ s2, cutc 32 t = s2 := ⟨_, rfl⟩
  rw [hs2] at hR2 ht32 hcl
  simp -implicitDefEqProofs (maxSteps := 1000000) (disch := omega) only [↓xsP, ↓vc_seq, xsQ, xsT, xsR, xsD, ↓reduceIte, reduceCtorEq, eq_self, ne_eq, imp_self, forall_const, Nat.reduceEqDiff, Nat.reduceAdd, Nat.reduceSub, Nat.reduceMul, Nat.reduceLT, Nat.reduceLeDiff, Nat.reduceBEq, Nat.reduceDiv, Nat.reduceMod, Int.reduceToNat, Int.reduceNeg, Int.reduceAdd, Int.reduceSub, Int.reduceMul, Int.reduceEq, Int.reduceNe, Int.reduceLT, Int.reduceLE, Int.reduceGT, Int.reduceGE]
  refine callI_of ((number_spec s2 (by omega) f1 xn1 id N2 hR2.own).mono ?_)
  have hd1 : (s2.drop (tok s2).length).length ≤ s2.length := by rw [List.length_drop]; omega
  obtain ⟨s3, hs3⟩ : ∃ s3, s2.drop (tok s2).length = s3 := ⟨_, rfl⟩
  rw [hs3] at hd1 ⊢
  rintro _ _ ⟨rfl, h⟩
  have hR3 := hR2.set s3 f1
  generalize N2.set id (rdB s3 f1 xn1) = N3 at hR3 ⊢
  rcases h with ⟨v, hv, rfl⟩ | ⟨hno, n, rfl⟩
  rotate_left
  · simp -implicitDefEqProofs (maxSteps := 1000000) (disch := omega) only [↓xsP, ↓vc_seq, xsQ, xsT, xsR, xsD, ↓reduceIte, reduceCtorEq, eq_self, ne_eq, imp_self, forall_const, Nat.reduceEqDiff, Nat.reduceAdd, Nat.reduceSub, Nat.reduceMul, Nat.reduceLT, Nat.reduceLeDiff, Nat.reduceBEq, Nat.reduceDiv, Nat.reduceMod, Int.reduceToNat, Int.reduceNeg, Int.reduceAdd, Int.reduceSub, Int.reduceMul, Int.reduceEq, Int.reduceNe, Int.reduceLT, Int.reduceLE, Int.reduceGT, Int.reduceGE]
    refine fin_ok (Mem.le_refl _) (.inr ⟨fun k L R t' ⟨b, c, g1, g2, g3⟩ => ?_, _, _, _, _, rfl, hR3, by rw [hrl]; omega, by rw [hrl]; omega, h6a⟩)
    obtain ⟨rfl, e⟩ := treeAt_uniq g1 hT
    rw [ht32] at e
    injection e with _ e
    rw [e] at g2
    exact absurd g2 (hno _ _)
  simp -implicitDefEqProofs (maxSteps := 1000000) (disch := omega) only [↓xsP, ↓vc_seq, xsQ, xsT, xsR, xsD, ↓reduceIte, reduceCtorEq, eq_self, ne_eq, imp_self, forall_const, Nat.reduceEqDiff, Nat.reduceAdd, Nat.reduceSub, Nat.reduceMul, Nat.reduceLT, Nat.reduceLeDiff, Nat.reduceBEq, Nat.reduceDiv, Nat.reduceMod, Int.reduceToNat, Int.reduceNeg, Int.reduceAdd, Int.reduceSub, Int.reduceMul, Int.reduceEq, Int.reduceNe, Int.reduceLT, Int.reduceLE, Int.reduceGT, Int.reduceGE]
  refine callI_of ((sign_spec s3 f1 xn1 32 id N3 hR3.own).mono ?_)
  rintro _ _ ⟨rfl, rfl⟩
  have hcl3 := cutc_len 32 s3
  have hR4 := hR3.set (cutc 32 s3) f1
  generalize N3.set id (rdB (cutc 32 s3) f1 xn1) = N4 at hR4 ⊢
  by_cases h32b : s3.head? = some 32
  rotate_left
  · rw [decide_eq_false h32b]
    simp -implicitDefEqProofs (maxSteps := 1000000) (disch := omega) only [↓xsP, ↓vc_seq, xsQ, xsT, xsR, xsD, ↓reduceIte, reduceCtorEq, eq_self, ne_eq, imp_self, forall_const, Nat.reduceEqDiff, Nat.reduceAdd, Nat.reduceSub, Nat.reduceMul, Nat.reduceLT, Nat.reduceLeDiff, Nat.reduceBEq, Nat.reduceDiv, Nat.reduceMod, Int.reduceToNat, Int.reduceNeg, Int.reduceAdd, Int.reduceSub, Int.reduceMul, Int.reduceEq, Int.reduceNe, Int.reduceLT, Int.reduceLE, Int.reduceGT, Int.reduceGE]
    refine fin_ok (Mem.le_refl _) (.inr ⟨fun k L R t' ⟨b, c, g1, g2, g3⟩ => ?_, _, _, _, _, rfl, hR4, by rw [hrl]; omega, by rw [hrl]; omega, h6a⟩)
    obtain ⟨rfl, e⟩ := treeAt_uniq g1 hT
    rw [ht32] at e
    injection e with _ e
    rw [e] at g2
    have := (numAt_uniq g2 hv).2
    rw [← this] at h32b
    exact absurd rfl h32b
  rw [decide_eq_true h32b]
  have hs32 := cutc_eq h32b
  obtain ⟨s4, hs4⟩ : ∃ s4, cutc 32 s3 = s4 := ⟨_, rfl⟩
  rw [hs4] at hR4 hs32 hcl3
  simp -implicitDefEqProofs (maxSteps := 1000000) (disch := omega) only [↓xsP, ↓vc_seq, xsQ, xsT, xsR, xsD, ↓reduceIte, reduceCtorEq, eq_self, ne_eq, imp_self, forall_const, Nat.reduceEqDiff, Nat.reduceAdd, Nat.reduceSub, Nat.reduceMul, Nat.reduceLT, Nat.reduceLeDiff, Nat.reduceBEq, Nat.reduceDiv, Nat.reduceMod, Int.reduceToNat, Int.reduceNeg, Int.reduceAdd, Int.reduceSub, Int.reduceMul, Int.reduceEq, Int.reduceNe, Int.reduceLT, Int.reduceLE, Int.reduceGT, Int.reduceGE]
  have hTs := T.size_pos
  refine callI_of ((ih f1 (by omega) s4 _ xn1 N4 (by omega) (by rw [hrl]; omega) h6a hR4).mono ?_)
  rintro r' N5 h
  obtain ⟨nr, ok, s5, left5, rows5, xn5, rfl, hR5, hlen5, hlen5b, h65, hrest⟩ : ∃ nr ok s5 left5 rows5 xn5, r' = .tup [.l (.int .i64 nr), .l (.bool ok)] ∧ RSt B N5 id s5 left5 rows5 xn5 ∧ rows.length + 1 ≤ rows5.length ∧ rows5.length ≤ rows.length + 1 + f ∧ R6 rows5 ∧
      ((ok = true ∧ ∃ U, ∃ f2 : Nat, TreeAt s4 U s5 ∧ U.size + f2 = f1 ∧ left5 = f2 ∧ nr = ((rows.length + 1 + T.size : Nat) : Int) ∧ rows5 = ((rows ++ [ph]) ++ preR (rows ++ [ph]).length T) ++ preR (rows.length + 1 + T.size) U) ∨ (ok = false ∧ ∀ U u, TreeAt s4 U u → f1 < U.size)) := by
    rcases h with ⟨U, u, f2, xn2, hU, hsz2, rfl, hR5⟩ | ⟨hno, n, s5, left5, rows5, xn5, rfl, hR5, hl1, hl2, h65⟩
    · rw [hrl] at hR5 ⊢
      refine ⟨_, _, u, f2, _, xn2, rfl, hR5, ?_, ?_, ?_, .inl ⟨rfl, U, f2, hU, hsz2, rfl, rfl, rfl⟩⟩
      · rw [List.length_append, hrl]; omega
      · rw [List.length_append, hrl, preR_len]; omega
      · intro r hr
        rcases List.mem_append.1 hr with hr | hr
        · exact h6a r hr
        · exact preR_6 _ _ r hr
    · rw [hrl] at hl1 hl2
      exact ⟨n, false, s5, left5, rows5, xn5, rfl, hR5, by omega, by omega, h65, .inr ⟨rfl, hno⟩⟩
  simp -implicitDefEqProofs (maxSteps := 1000000) (disch := omega) only [↓xsP, ↓vc_seq, xsQ, xsT, xsR, xsD, ↓reduceIte, reduceCtorEq, eq_self, ne_eq, imp_self, forall_const, Nat.reduceEqDiff, Nat.reduceAdd, Nat.reduceSub, Nat.reduceMul, Nat.reduceLT, Nat.reduceLeDiff, Nat.reduceBEq, Nat.reduceDiv, Nat.reduceMod, Int.reduceToNat, Int.reduceNeg, Int.reduceAdd, Int.reduceSub, Int.reduceMul, Int.reduceEq, Int.reduceNe, Int.reduceLT, Int.reduceLE, Int.reduceGT, Int.reduceGE]
  obtain ⟨idn, rfl, hn, hBn, hni⟩ := hR5.ms (fun e => by rw [e] at hlen5; simp at hlen5)
  have hown := hR5.own
  rw [rdB] at hown
  obtain ⟨row, hrow⟩ : ∃ row, rows5[rows.length]? = some row := ⟨_, List.getElem?_eq_getElem (by omega)⟩
  have hr6 : row.length = 6 := h65 row (List.mem_of_getElem? hrow)
  have hdr : row.drop 6 = [] := List.drop_of_length_le (by omega)
  simp -implicitDefEqProofs (maxSteps := 1000000) (disch := omega) only [↓xsP, ↓vc_seq, xsQ, xsT, xsR, xsD, ↓reduceIte, reduceCtorEq, eq_self, ne_eq, imp_self, forall_const, Nat.reduceEqDiff, Nat.reduceAdd, Nat.reduceSub, Nat.reduceMul, Nat.reduceLT, Nat.reduceLeDiff, Nat.reduceBEq, Nat.reduceDiv, Nat.reduceMod, Int.reduceToNat, Int.reduceNeg, Int.reduceAdd, Int.reduceSub, Int.reduceMul, Int.reduceEq, Int.reduceNe, Int.reduceLT, Int.reduceLE, Int.reduceGT, Int.reduceGE, hown, hn, hrow, hr6, hdr]
  have hR6 : RSt B (N5.set idn (.cells 46 (rows5.set rows.length [.bool true, .int .i64 v, .int .i64 ((rows ++ [ph]).length : Nat), .int .i64 nr, .nils, .int .i64 0]) 0)) id s5 left5 (rows5.set rows.length [.bool true, .int .i64 v, .int .i64 ((rows ++ [ph]).length : Nat), .int .i64 nr, .nils, .int .i64 0]) (.ms idn 0 rows5.length) := by
    refine ⟨by rw [Mem.set_ne _ _ _ _ hni]; exact hR5.own, hR5.bid, fun k bk hk => ?_, .inr ⟨idn, by rw [List.length_set], Mem.set_eq _ _ _, hBn⟩⟩
    rw [Mem.set_ne _ _ _ _ (fun e => by rw [← e, hBn] at hk; cases hk)]
    exact hR5.le _ _ hk
  have h6s : ∀ nw : List Lf, nw.length = 6 → Go.X.R6 (rows5.set rows.length nw) := fun nw hnw r hr => by
    rcases List.mem_or_eq_of_mem_set hr with hr | rfl
    · exact h65 r hr
    · exact hnw
  rcases hrest with ⟨rfl, U, f2, hU, hsz2, rfl, rfl, hr5⟩ | ⟨rfl, hno⟩
  rotate_left
  · simp -implicitDefEqProofs (maxSteps := 1000000) (disch := omega) only [↓xsP, ↓vc_seq, xsQ, xsT, xsR, xsD, ↓reduceIte, reduceCtorEq, eq_self, ne_eq, imp_self, forall_const, Nat.reduceEqDiff, Nat.reduceAdd, Nat.reduceSub, Nat.reduceMul, Nat.reduceLT, Nat.reduceLeDiff, Nat.reduceBEq, Nat.reduceDiv, Nat.reduceMod, Int.reduceToNat, Int.reduceNeg, Int.reduceAdd, Int.reduceSub, Int.reduceMul, Int.reduceEq, Int.reduceNe, Int.reduceLT, Int.reduceLE, Int.reduceGT, Int.reduceGE]
    refine fin_ok (Mem.le_refl _) (.inr ⟨fun k L R t' ⟨b, c, g1, g2, g3⟩ => ?_, s5, left5, _, _, rfl, hR6, by rw [List.length_set]; omega, by rw [List.length_set]; omega, h6s _ rfl⟩)
    obtain ⟨rfl, e⟩ := treeAt_uniq g1 hT
    rw [ht32] at e
    injection e with _ e
    rw [e] at g2
    obtain ⟨rfl, e2⟩ := numAt_uniq g2 hv
    rw [hs32] at e2
    injection e2 with _ e2
    rw [e2] at g3
    have := hno _ _ g3
    omega
  simp -implicitDefEqProofs (maxSteps := 1000000) (disch := omega) only [↓xsP, ↓vc_seq, xsQ, xsT, xsR, xsD, ↓reduceIte, reduceCtorEq, eq_self, ne_eq, imp_self, forall_const, Nat.reduceEqDiff, Nat.reduceAdd, Nat.reduceSub, Nat.reduceMul, Nat.reduceLT, Nat.reduceLeDiff, Nat.reduceBEq, Nat.reduceDiv, Nat.reduceMod, Int.reduceToNat, Int.reduceNeg, Int.reduceAdd, Int.reduceSub, Int.reduceMul, Int.reduceEq, Int.reduceNe, Int.reduceLT, Int.reduceLE, Int.reduceGT, Int.reduceGE]
  refine callI_of ((sign_spec s5 f2 _ 41 id _ hR6.own).mono ?_)
  rintro _ _ ⟨rfl, rfl⟩
  have hR7 := hR6.set (cutc 41 s5) f2
  simp -implicitDefEqProofs (maxSteps := 1000000) (disch := omega) only [↓xsP, ↓vc_seq, xsQ, xsT, xsR, xsD, ↓reduceIte, reduceCtorEq, eq_self, ne_eq, imp_self, forall_const, Nat.reduceEqDiff, Nat.reduceAdd, Nat.reduceSub, Nat.reduceMul, Nat.reduceLT, Nat.reduceLeDiff, Nat.reduceBEq, Nat.reduceDiv, Nat.reduceMod, Int.reduceToNat, Int.reduceNeg, Int.reduceAdd, Int.reduceSub, Int.reduceMul, Int.reduceEq, Int.reduceNe, Int.reduceLT, Int.reduceLE, Int.reduceGT, Int.reduceGE]
  by_cases h41 : s5.head? = some 41
  rotate_left
  · rw [decide_eq_false h41]
    refine fin_ok (Mem.le_refl _) (.inr ⟨fun k L R t' ⟨b, c, g1, g2, g3⟩ => ?_, _, _, _, _, rfl, hR7, by rw [List.length_set]; omega, by rw [List.length_set]; omega, h6s _ rfl⟩)
    obtain ⟨rfl, e⟩ := treeAt_uniq g1 hT
    rw [ht32] at e
    injection e with _ e
    rw [e] at g2
    obtain ⟨rfl, e2⟩ := numAt_uniq g2 hv
    rw [hs32] at e2
    injection e2 with _ e2
    rw [e2] at g3
    obtain ⟨rfl, e3⟩ := treeAt_uniq g3 hU
    rw [← e3] at h41
    exact absurd rfl h41
  rw [decide_eq_true h41]
  refine fin_ok (Mem.le_refl _) (.inl ⟨v, T, U, cutc 41 s5, f2, .ms idn 0 rows5.length, ⟨s2, s4, ?_, ?_, ?_⟩, by omega, rfl, ?_⟩)
  · rw [← ht32]; exact hT
  · rw [← hs32]; exact hv
  · rw [← cutc_eq h41]; exact hU
  · have e : rows5.set rows.length [.bool true, .int .i64 v, .int .i64 ((rows ++ [ph]).length : Nat), .int .i64 ((rows.length + 1 + T.size : Nat) : Int), .nils, .int .i64 0] = rows ++ preR rows.length (.fork v T U) := by
      rw [hr5, List.append_assoc, List.append_assoc, List.singleton_append, set_mid]
      simp [preR]
    generalize Mem.set (Mem.set N5 _ _) _ _ = Q at hR7 ⊢
    rw [e] at hR7
    exact hR7
theorem RSt.sb {B N : Mem} {id : Nat} {s : List UInt8} {left : Int} {rows : List (List Lf)} {xn : Lf} (h : RSt B N id s left rows xn) : ∃ N0, SB 46 N xn rows N0 ∧ B.le N0 ∧ N0 id = some (rdB s left xn) := by
  by_cases hr : rows = []
  · rcases h.nds with ⟨rfl, rfl⟩ | ⟨idn, h1, h2, h3⟩
    · exact ⟨N, .nil, h.le, h.own⟩
    · rw [h1]
      refine ⟨_, .ms h2, fun k bk hk => ?_, ?_⟩
      · rw [Mem.del_ne _ _ _ (fun e => by rw [← e, h3] at hk; cases hk)]
        exact h.le _ _ hk
      · rw [Mem.del_ne _ _ _ (fun e => ?_), h.own, h1]
        have := h.own
        rw [← e, h2] at this
        injection this with this
        injection this with this
        exact absurd this (by decide)
  · obtain ⟨idn, h1, h2, h3, h4⟩ := h.ms hr
    rw [h1]
    refine ⟨_, .ms h2, fun k bk hk => ?_, ?_⟩
    · rw [Mem.del_ne _ _ _ (fun e => by rw [← e, h3] at hk; cases hk)]
      exact h.le _ _ hk
    · rw [Mem.del_ne _ _ _ h4, h.own, h1]
theorem node_spec (B : Mem) (id : Nat) : ∀ f : Nat, NodeP B id f := by
  intro f
  induction f using Nat.strongRecOn with
  | ind f ihf =>
  intro s rows xn N hs hf h6 hR
  refine xcalls_intro (rs := [.tmp 2, .tmp 3]) Go.Proofs.Tryd.func24 rfl (by kernel_rfl) rfl rfl (by kernel_rfl) (by simp) ?_
  have hown := hR.own
  rw [rdB] at hown
  have hln : ∀ X : Mem, lenA Go.Proofs.Tryd.prog X 22 (.l xn) = some (.l (.int .i64 rows.length)) := fun X => by
    rcases hR.nds with ⟨rfl, rfl⟩ | ⟨idn, rfl, _, _⟩ <;> simp only [lenA, ti_22] <;> rfl
  simp only [lenA, ti_22] at hln
  simp -implicitDefEqProofs (maxSteps := 1000000) (disch := omega) only [↓xsP, ↓vc_seq, xsQ, xsT, xsR, xsD, ↓reduceIte, reduceCtorEq, eq_self, ne_eq, imp_self, forall_const, Nat.reduceEqDiff, Nat.reduceAdd, Nat.reduceSub, Nat.reduceMul, Nat.reduceLT, Nat.reduceLeDiff, Nat.reduceBEq, Nat.reduceDiv, Nat.reduceMod, Int.reduceToNat, Int.reduceNeg, Int.reduceAdd, Int.reduceSub, Int.reduceMul, Int.reduceEq, Int.reduceNe, Int.reduceLT, Int.reduceLE, Int.reduceGT, Int.reduceGE, hown, hln]
  have hR0 := hR.set s ((f : Int) - 1)
  rw [rdB] at hR0
  by_cases hf0 : f = 0
  · have w0 : decide ((f : Int) - 1 < 0) = true := decide_eq_true (by omega)
    simp -implicitDefEqProofs (maxSteps := 1000000) (disch := omega) only [↓xsP, ↓vc_seq, xsQ, xsT, xsR, xsD, ↓reduceIte, reduceCtorEq, eq_self, ne_eq, imp_self, forall_const, Nat.reduceEqDiff, Nat.reduceAdd, Nat.reduceSub, Nat.reduceMul, Nat.reduceLT, Nat.reduceLeDiff, Nat.reduceBEq, Nat.reduceDiv, Nat.reduceMod, Int.reduceToNat, Int.reduceNeg, Int.reduceAdd, Int.reduceSub, Int.reduceMul, Int.reduceEq, Int.reduceNe, Int.reduceLT, Int.reduceLE, Int.reduceGT, Int.reduceGE, hown, hln, w0]
    refine fin_ok (Mem.le_refl _) (.inr ⟨fun T t hT => ?_, 0, s, _, rows, xn, rfl, hR0, Nat.le_refl _, by omega, h6⟩)
    have := T.size_pos
    omega
  have w0 : decide ((f : Int) - 1 < 0) = false := decide_eq_false (by omega)
  obtain ⟨g, rfl⟩ : ∃ g, f = g + 1 := ⟨f - 1, by omega⟩
  have hg : ((g + 1 : Nat) : Int) - 1 = g := by omega
  rw [hg] at hR0 w0
  simp -implicitDefEqProofs (maxSteps := 1000000) (disch := omega) only [↓xsP, ↓vc_seq, xsQ, xsT, xsR, xsD, ↓reduceIte, reduceCtorEq, eq_self, ne_eq, imp_self, forall_const, Nat.reduceEqDiff, Nat.reduceAdd, Nat.reduceSub, Nat.reduceMul, Nat.reduceLT, Nat.reduceLeDiff, Nat.reduceBEq, Nat.reduceDiv, Nat.reduceMod, Int.reduceToNat, Int.reduceNeg, Int.reduceAdd, Int.reduceSub, Int.reduceMul, Int.reduceEq, Int.reduceNe, Int.reduceLT, Int.reduceLE, Int.reduceGT, Int.reduceGE, hown, hln, hg, w0]
  refine newI_intro fun idp hidp => ?_
  have hown1 := hR0.own
  have kip := lt_of_bnd hidp hown1
  have hRp := hR0.new hidp (.cells 46 [[.bool false, .int .i64 0, .int .i64 0, .int .i64 0, .nils, .int .i64 0]] 0)
  rw [rdB] at hown1
  simp -implicitDefEqProofs (maxSteps := 1000000) (disch := omega) only [↓xsP, ↓vc_seq, xsQ, xsT, xsR, xsD, ↓reduceIte, reduceCtorEq, eq_self, ne_eq, imp_self, forall_const, Nat.reduceEqDiff, Nat.reduceAdd, Nat.reduceSub, Nat.reduceMul, Nat.reduceLT, Nat.reduceLeDiff, Nat.reduceBEq, Nat.reduceDiv, Nat.reduceMod, Int.reduceToNat, Int.reduceNeg, Int.reduceAdd, Int.reduceSub, Int.reduceMul, Int.reduceEq, Int.reduceNe, Int.reduceLT, Int.reduceLE, Int.reduceGT, Int.reduceGE, hown1, hln, hg, w0]
  obtain ⟨N0, hsb, hle0, hown0⟩ := hRp.sb
  refine app_sb ti_22 rfl ti_46 (by kernel_rfl) (by decide) (by decide) hsb (bs := [[.bool false, .int .i64 0, .int .i64 0, .int .i64 0, .nils, .int .i64 0]]) (by unfold srcRows; rw [if_pos rfl]; simp only [Mem.set_eq]; rfl) (by simp) (by simp only [List.length_cons, List.length_nil]; omega) (fun id1 hid1 => ?_)
  have ki1 := lt_of_bnd hid1 hRp.own
  rw [rdB] at hown0
  simp -implicitDefEqProofs (maxSteps := 1000000) (disch := omega) only [↓xsP, ↓vc_seq, xsQ, xsT, xsR, xsD, ↓reduceIte, reduceCtorEq, eq_self, ne_eq, imp_self, forall_const, Nat.reduceEqDiff, Nat.reduceAdd, Nat.reduceSub, Nat.reduceMul, Nat.reduceLT, Nat.reduceLeDiff, Nat.reduceBEq, Nat.reduceDiv, Nat.reduceMod, Int.reduceToNat, Int.reduceNeg, Int.reduceAdd, Int.reduceSub, Int.reduceMul, Int.reduceEq, Int.reduceNe, Int.reduceLT, Int.reduceLE, Int.reduceGT, Int.reduceGE, hown1, hown0, hln, hg, w0]
  obtain ⟨ph, hph⟩ : ∃ ph : List Lf, [.bool false, .int .i64 0, .int .i64 0, .int .i64 0, .nils, .int .i64 0] = ph := ⟨_, rfl⟩
  have hph6 : ph.length = 6 := by rw [← hph]; rfl
  rw [hph]
  have hB1 : B id1 = none := by
    cases hb : B id1 with
    | none => rfl
    | some bk =>
      have := hsb.le _ _ (hle0 _ _ hb)
      rw [hid1 id1 (Nat.le_refl _)] at this
      cases this
  have hR2 : RSt B ((N0.set id1 (.cells 46 (rows ++ [ph]) 0)).set id (.cells 49 [[txt s, .int .i64 g, .int .i64 0, .ms id1 0 (rows.length + 1)]] 0)) id s g (rows ++ [ph]) (.ms id1 0 (rows.length + 1)) := by
    refine ⟨Mem.set_eq _ _ _, hR.bid, fun k bk hk => ?_, .inr ⟨id1, by simp, ?_, hB1⟩⟩
    · rw [Mem.set_ne _ _ _ _ (fun e => by rw [← e, hR.bid] at hk; cases hk), Mem.set_ne _ _ _ _ (fun e => by rw [← e, hB1] at hk; cases hk)]
      exact hle0 _ _ hk
    · rw [Mem.set_ne _ _ _ _ (by omega), Mem.set_eq]
  generalize (N0.set id1 (.cells 46 (rows ++ [ph]) 0)).set id (.cells 49 [[txt s, .int .i64 g, .int .i64 0, .ms id1 0 (rows.length + 1)]] 0) = N2 at hR2 ⊢
  have h6a : R6 (rows ++ [ph]) := fun r hr => by
    rcases List.mem_append.1 hr with hr | hr
    · exact h6 r hr
    · rw [List.mem_singleton.1 hr]; exact hph6
  clear hln hown hown1 hown0 hsb hle0 hRp hR0 hid1 hidp
  refine callI_of ((sign_spec s g _ 40 id N2 hR2.own).mono ?_)
  rintro _ _ ⟨rfl, rfl⟩
  by_cases h40 : s.head? = some 40
  · rw [decide_eq_true h40]
    have hs40 := cutc_eq h40
    have hcl := cutc_len 40 s
    have hR3 := hR2.set (cutc 40 s) g
    generalize N2.set id (rdB (cutc 40 s) g (.ms id1 0 (rows.length + 1))) = N3 at hR3 ⊢
    simp -implicitDefEqProofs (maxSteps := 1000000) (disch := omega) only [↓xsP, ↓vc_seq, xsQ, xsT, xsR, xsD, ↓reduceIte, reduceCtorEq, eq_self, ne_eq, imp_self, forall_const, Nat.reduceEqDiff, Nat.reduceAdd, Nat.reduceSub, Nat.reduceMul, Nat.reduceLT, Nat.reduceLeDiff, Nat.reduceBEq, Nat.reduceDiv, Nat.reduceMod, Int.reduceToNat, Int.reduceNeg, Int.reduceAdd, Int.reduceSub, Int.reduceMul, Int.reduceEq, Int.reduceNe, Int.reduceLT, Int.reduceLE, Int.reduceGT, Int.reduceGE]
    refine callI_of ((route_spec B id g (fun h hh => ihf h (by omega)) (cutc 40 s) rows ph _ N3 (by omega) (by omega) h6a hR3).mono ?_)
    rintro _ N4 (⟨k, L, R, t, f1, xn1, ⟨b, c, g1, g2, g3⟩, hsz, rfl, hR4⟩ | ⟨hno, s1, left1, rows1, xn1, rfl, hR4, hl1, hl2, h61⟩)
    · simp -implicitDefEqProofs (maxSteps := 1000000) (disch := omega) only [↓xsP, ↓vc_seq, xsQ, xsT, xsR, xsD, ↓reduceIte, reduceCtorEq, eq_self, ne_eq, imp_self, forall_const, Nat.reduceEqDiff, Nat.reduceAdd, Nat.reduceSub, Nat.reduceMul, Nat.reduceLT, Nat.reduceLeDiff, Nat.reduceBEq, Nat.reduceDiv, Nat.reduceMod, Int.reduceToNat, Int.reduceNeg, Int.reduceAdd, Int.reduceSub, Int.reduceMul, Int.reduceEq, Int.reduceNe, Int.reduceLT, Int.reduceLE, Int.reduceGT, Int.reduceGE]
      refine fin_ok (Mem.le_refl _) (.inl ⟨.fork k L R, t, f1, xn1, ⟨cutc 40 s, b, c, hs40, g1, g2, g3⟩, by simp only [Tr.size]; omega, rfl, hR4⟩)
    · simp -implicitDefEqProofs (maxSteps := 1000000) (disch := omega) only [↓xsP, ↓vc_seq, xsQ, xsT, xsR, xsD, ↓reduceIte, reduceCtorEq, eq_self, ne_eq, imp_self, forall_const, Nat.reduceEqDiff, Nat.reduceAdd, Nat.reduceSub, Nat.reduceMul, Nat.reduceLT, Nat.reduceLeDiff, Nat.reduceBEq, Nat.reduceDiv, Nat.reduceMod, Int.reduceToNat, Int.reduceNeg, Int.reduceAdd, Int.reduceSub, Int.reduceMul, Int.reduceEq, Int.reduceNe, Int.reduceLT, Int.reduceLE, Int.reduceGT, Int.reduceGE]
      refine fin_ok (Mem.le_refl _) (.inr ⟨fun T t hT => ?_, _, s1, left1, rows1, xn1, rfl, hR4, hl1, by omega, h61⟩)
      cases T with
      | leaf ps st =>
        obtain ⟨a, u, e, _⟩ := hT
        rw [e] at h40
        exact absurd h40 (by simp)
      | fork k l r =>
        obtain ⟨a, b, c, e, q1, q2, q3⟩ := hT
        have e2 := e.symm.trans hs40
        injection e2 with _ e2
        rw [e2] at q1
        have := hno k l r t ⟨b, c, q1, q2, q3⟩
        simp only [Tr.size]
        omega
  rw [decide_eq_false h40, cutc_no h40]
  have hR3 := hR2.set s g
  generalize N2.set id (rdB s g (.ms id1 0 (rows.length + 1))) = N3 at hR3 ⊢
  simp -implicitDefEqProofs (maxSteps := 1000000) (disch := omega) only [↓xsP, ↓vc_seq, xsQ, xsT, xsR, xsD, ↓reduceIte, reduceCtorEq, eq_self, ne_eq, imp_self, forall_const, Nat.reduceEqDiff, Nat.reduceAdd, Nat.reduceSub, Nat.reduceMul, Nat.reduceLT, Nat.reduceLeDiff, Nat.reduceBEq, Nat.reduceDiv, Nat.reduceMod, Int.reduceToNat, Int.reduceNeg, Int.reduceAdd, Int.reduceSub, Int.reduceMul, Int.reduceEq, Int.reduceNe, Int.reduceLT, Int.reduceLE, Int.reduceGT, Int.reduceGE]
  refine callI_of ((sign_spec s g _ 91 id N3 hR3.own).mono ?_)
  rintro _ _ ⟨rfl, rfl⟩
  have hR4 := hR3.set (cutc 91 s) g
  have hcl := cutc_len 91 s
  generalize N3.set id (rdB (cutc 91 s) g (.ms id1 0 (rows.length + 1))) = N4 at hR4 ⊢
  by_cases h91 : s.head? = some 91
  rotate_left
  · rw [decide_eq_false h91]
    simp -implicitDefEqProofs (maxSteps := 1000000) (disch := omega) only [↓xsP, ↓vc_seq, xsQ, xsT, xsR, xsD, ↓reduceIte, reduceCtorEq, eq_self, ne_eq, imp_self, forall_const, Nat.reduceEqDiff, Nat.reduceAdd, Nat.reduceSub, Nat.reduceMul, Nat.reduceLT, Nat.reduceLeDiff, Nat.reduceBEq, Nat.reduceDiv, Nat.reduceMod, Int.reduceToNat, Int.reduceNeg, Int.reduceAdd, Int.reduceSub, Int.reduceMul, Int.reduceEq, Int.reduceNe, Int.reduceLT, Int.reduceLE, Int.reduceGT, Int.reduceGE]
    refine fin_ok (Mem.le_refl _) (.inr ⟨fun T t hT => ?_, _, _, _, _, _, rfl, hR4, by simp, by simp, h6a⟩)
    cases T with
    | leaf ps st =>
      obtain ⟨a, u, e, _⟩ := hT
      rw [e] at h91
      exact absurd rfl h91
    | fork k l r =>
      obtain ⟨a, b, c, e, _⟩ := hT
      rw [e] at h40
      exact absurd rfl h40
  rw [decide_eq_true h91]
  have hs91 := cutc_eq h91
  obtain ⟨s1, hs1⟩ : ∃ s1, cutc 91 s = s1 := ⟨_, rfl⟩
  rw [hs1] at hR4 hs91 hcl
  simp -implicitDefEqProofs (maxSteps := 1000000) (disch := omega) only [↓xsP, ↓vc_seq, xsQ, xsT, xsR, xsD, ↓reduceIte, reduceCtorEq, eq_self, ne_eq, imp_self, forall_const, Nat.reduceEqDiff, Nat.reduceAdd, Nat.reduceSub, Nat.reduceMul, Nat.reduceLT, Nat.reduceLeDiff, Nat.reduceBEq, Nat.reduceDiv, Nat.reduceMod, Int.reduceToNat, Int.reduceNeg, Int.reduceAdd, Int.reduceSub, Int.reduceMul, Int.reduceEq, Int.reduceNe, Int.reduceLT, Int.reduceLE, Int.reduceGT, Int.reduceGE]
  refine callI_of ((leaf_spec s1 (by omega) g _ id N4 hR4.own).mono ?_)
  rintro _ _ ⟨s2, hs2, rfl, h⟩
  have hR5 := hR4.set s2 g
  generalize N4.set id (rdB s2 g (.ms id1 0 (rows.length + 1))) = N5 at hR5 ⊢
  obtain ⟨ln, ok, rfl, hrest⟩ : ∃ (ln : Nd) (ok : Bool), _ = AV.tup [.agg ln.row, .l (.bool ok)] ∧ ((ok = true ∧ ∃ ps st, LeafAt s1 ps st s2 ∧ ln = leafN ps st) ∨ (ok = false ∧ ∀ ps st t, ¬ LeafAt s1 ps st t)) := by
    rcases h with ⟨ps, st, h1, h2⟩ | ⟨h1, n, h2⟩
    · exact ⟨_, true, h2, .inl ⟨rfl, ps, st, h1, rfl⟩⟩
    · exact ⟨n, false, h2, .inr ⟨rfl, h1⟩⟩
  simp -implicitDefEqProofs (maxSteps := 1000000) (disch := omega) only [↓xsP, ↓vc_seq, xsQ, xsT, xsR, xsD, ↓reduceIte, reduceCtorEq, eq_self, ne_eq, imp_self, forall_const, Nat.reduceEqDiff, Nat.reduceAdd, Nat.reduceSub, Nat.reduceMul, Nat.reduceLT, Nat.reduceLeDiff, Nat.reduceBEq, Nat.reduceDiv, Nat.reduceMod, Int.reduceToNat, Int.reduceNeg, Int.reduceAdd, Int.reduceSub, Int.reduceMul, Int.reduceEq, Int.reduceNe, Int.reduceLT, Int.reduceLE, Int.reduceGT, Int.reduceGE]
  refine newI_intro fun id5 hid5 => ?_
  have hR6 := hR5.new hid5 (.cells 46 [ln.row] 0)
  have h55 := Mem.set_eq N5 id5 (.cells 46 [ln.row] 0)
  have k5i := lt_of_bnd hid5 hR5.own
  obtain ⟨idn, hxe, hn, hBn, hni⟩ := hR6.ms (by simp)
  have hid1n : idn = id1 := by injection hxe with h1 _ _; exact h1.symm
  rw [hid1n] at hn
  clear hxe hBn hni hid1n
  have k51 : id1 ≠ id5 := fun e => by
    rcases hR5.nds with ⟨h1, _⟩ | ⟨q, h1, h2, _⟩
    · simp at h1
    · injection h1 with h1 _ _
      rw [← h1, e] at h2
      rw [hid5 id5 (Nat.le_refl _)] at h2
      cases h2
  have hown6 := hR6.own
  rw [rdB] at hown6
  rw [row_nd] at hR6 h55 hown6 hn
  simp -implicitDefEqProofs (maxSteps := 1000000) (disch := omega) only [↓xsP, ↓vc_seq, xsQ, xsT, xsR, xsD, ↓reduceIte, reduceCtorEq, eq_self, ne_eq, imp_self, forall_const, Nat.reduceEqDiff, Nat.reduceAdd, Nat.reduceSub, Nat.reduceMul, Nat.reduceLT, Nat.reduceLeDiff, Nat.reduceBEq, Nat.reduceDiv, Nat.reduceMod, Int.reduceToNat, Int.reduceNeg, Int.reduceAdd, Int.reduceSub, Int.reduceMul, Int.reduceEq, Int.reduceNe, Int.reduceLT, Int.reduceLE, Int.reduceGT, Int.reduceGE]
  generalize N5.set id5 (.cells 46 [[.bool ln.route, .int .i64 ln.key, .int .i64 ln.left, .int .i64 ln.right, .sl (ln.pairs.map Pr.row), .int .i64 ln.stat]] 0) = N6 at hR6 h55 hown6 hn ⊢
  have hB1' := hB1
  refine xwrite (fun n0 => [ (8, id1)]) [8] [] [[], [], [], [], [], [], [], [], []] (by kernel_rfl) (by kernel_rfl) (by kernel_rfl) (by kernel_rfl) (fun n0 hn0 => ⟨rfl, ?_, ?_⟩)
  · exact TOk_cons (.inl (lt_of_bnd hn0 hn)) (TOk_nil _ _)
  have y1 := lt_of_bnd hn0 hn
  have y5 := lt_of_bnd hn0 h55
  have yi := lt_of_bnd hn0 hR6.own
  have ki1' : id1 ≠ id := by omega
  have hget : (rows ++ [ph])[rows.length]? = some ph := get_mid rows [] ph
  have hset : ∀ y : List Lf, (rows ++ [ph]).set rows.length y = rows ++ [y] := fun y => set_mid rows [] ph y
  have hdr : ph.drop 6 = [] := List.drop_of_length_le (by omega)
  have hle6 : 6 ≤ ph.length := by omega
  simp -implicitDefEqProofs (maxSteps := 1000000) (disch := omega) only [↓xsP, ↓vc_seq, xsQ, xsT, xsR, xsD, ↓reduceIte, reduceCtorEq, eq_self, ne_eq, imp_self, forall_const, Nat.reduceEqDiff, Nat.reduceAdd, Nat.reduceSub, Nat.reduceMul, Nat.reduceLT, Nat.reduceLeDiff, Nat.reduceBEq, Nat.reduceDiv, Nat.reduceMod, Int.reduceToNat, Int.reduceNeg, Int.reduceAdd, Int.reduceSub, Int.reduceMul, Int.reduceEq, Int.reduceNe, Int.reduceLT, Int.reduceLE, Int.reduceGT, Int.reduceGE, hown6, h55, hn, hget, hset, hdr, hph6]
  have hR7 : ∀ y : List Lf, RSt B (N6.set id1 (.cells 46 (rows ++ [y]) 0)) id s2 g (rows ++ [y]) (.ms id1 0 (rows.length + 1)) := fun y => by
    refine ⟨by rw [Mem.set_ne _ _ _ _ ki1']; exact hR6.own, hR.bid, fun k bk hk => ?_, .inr ⟨id1, by simp, Mem.set_eq _ _ _, hB1⟩⟩
    rw [Mem.set_ne _ _ _ _ (fun e => by rw [← e, hB1] at hk; cases hk)]
    exact hR6.le _ _ hk
  refine fin_ok (Mem.le_refl _) ?_
  rcases hrest with ⟨rfl, ps, st, h1, h2⟩ | ⟨rfl, h1⟩
  · refine .inl ⟨.leaf ps st, s2, g, .ms id1 0 (rows.length + 1), ?_, by simp only [Tr.size]; omega, rfl, ?_⟩
    · obtain ⟨u, g1, g2⟩ := h1
      exact ⟨s1, u, hs91, g1, g2⟩
    · have := hR7 (leafN ps st).row
      rw [← h2] at this
      rw [preR, ← h2]
      exact this
  · refine .inr ⟨fun T t hT => ?_, _, s2, _, _, _, rfl, hR7 _, by simp, by simp, fun r hr => ?_⟩
    · cases T with
      | leaf ps st =>
        obtain ⟨a, u, e, g1, g2⟩ := hT
        have e2 := e.symm.trans hs91
        injection e2 with _ e2
        rw [e2] at g1
        exact absurd ⟨u, g1, g2⟩ (h1 ps st t)
      | fork k l r =>
        obtain ⟨a, b, c, e, _⟩ := hT
        rw [e] at h40
        exact absurd rfl h40
    · rcases List.mem_append.1 hr with hr | hr
      · exact h6 r hr
      · rw [List.mem_singleton.1 hr]; rfl
end Go.X
set_option linter.unusedVariables false
set_option linter.unusedSimpArgs false
set_option maxHeartbeats 20000000
set_option maxRecDepth 100000
namespace Go.X
open Go.Proofs.Tryd (prog)

theorem tree_rd {f : FuncId} {M : Mem} {K : AV → Mem → Prop} {root : Int} {ns : List Nd} {id keep : Nat} (hM : M id = some (.cells 46 (ns.map Nd.row) keep)) (hk : ns.length ≤ keep) (hx : XCalls Go.Proofs.Tryd.prog f [trA root ns] M K) : XCalls Go.Proofs.Tryd.prog f [.agg [.int .i64 root, .ms id 0 ns.length]] M K := by
  refine XCalls.frz0 id hM (by rw [List.length_map]; exact hk) ?_
  have e : [AV.agg [Lf.int IntKind.i64 root, Lf.ms id 0 ns.length]].map (frzA id (ns.map Nd.row)) = [trA root ns] := by
    simp only [List.map_cons, List.map_nil, frzA, frz1, frzL, trA, Nat.zero_add, List.length_map, Nat.le_refl, and_self, if_true, List.drop_zero]
    rw [List.take_of_length_le (by rw [List.length_map]; exact Nat.le_refl _)]
  rw [e]
  exact hx
/-- What is parsed: a tree whose text it is. -/
def ParsOk (s : List UInt8) (T : Tr) : Prop := s.length ≤ 100000 ∧ TreeAt s T [] ∧ T.size ≤ 2000 ∧ Wf T ks0
theorem parsOk_uniq {s : List UInt8} {T U : Tr} (h : ParsOk s T) (h' : ParsOk s U) : T = U := (treeAt_uniq h.2.1 h'.2.1).1
theorem prsAt_pok : ∀ (ps : List Pr) (b : Bool) (a t : List UInt8), PrsAt b a ps t → ps.length ≤ a.length := by
  intro ps
  induction ps with
  | nil => intro b a t h; exact Nat.zero_le _
  | cons p r ih =>
    intro b a t h
    cases b with
    | true =>
      obtain ⟨u, g1, g2⟩ := h
      have := pairAt_len g1
      have := ih _ _ _ g2
      rw [List.length_cons]
      omega
    | false =>
      obtain ⟨w, u, g0, g1, g2⟩ := h
      have := pairAt_len g1
      have := ih _ _ _ g2
      rw [g0, List.length_cons, List.length_cons]
      omega
theorem treeAt_pok {T : Tr} : ∀ {s t : List UInt8}, TreeAt s T t → ∀ h, ∀ x ∈ preN h T, x.pairs.length ≤ s.length := by
  induction T with
  | leaf ps st =>
    rintro s t ⟨a, u, h1, h2, h3⟩ h x hx
    rw [preN] at hx
    rw [List.mem_singleton.1 hx, h1, List.length_cons]
    have := prsAt_pok _ _ _ _ h2
    show ps.length ≤ _
    omega
  | fork k l r ihl ihr =>
    rintro s t ⟨a, b, c, e, g1, g2, g3⟩ h x hx
    have t1 := treeAt_len g1
    have t2 := numAt_len g2
    rw [preN] at hx
    rw [e, List.length_cons]
    simp only [List.length_cons] at t1 t2
    rcases List.mem_cons.1 hx with rfl | hx
    · exact Nat.zero_le _
    · rcases List.mem_append.1 hx with hx | hx
      · have := ihl g1 _ x hx
        omega
      · have := ihr g3 _ x hx
        omega
theorem parse_spec (s : List UInt8) (hs : s.length ≤ 1000000) (M : Mem) :
    XCalls Go.Proofs.Tryd.prog 10 [.l (txt s)] M fun r M' => M' = M ∧ ((∃ T, ParsOk s T ∧ r = .tup [trA 0 (preN 0 T), .l (.int .i64 0)]) ∨ ((∀ T, ¬ ParsOk s T) ∧ r = .tup [trA 0 [], .l (.int .i64 1)])) := by
  refine xcalls_intro (rs := [.cell 2 24, .tmp 3]) Go.Proofs.Tryd.func10 rfl (by kernel_rfl) rfl rfl (by kernel_rfl) (by simp) ?_
  simp -implicitDefEqProofs (maxSteps := 1000000) (disch := omega) only [↓xsP, ↓vc_seq, xsQ, xsT, xsR, xsD, ↓reduceIte, reduceCtorEq, eq_self, ne_eq, imp_self, forall_const, Nat.reduceEqDiff, Nat.reduceAdd, Nat.reduceSub, Nat.reduceMul, Nat.reduceLT, Nat.reduceLeDiff, Nat.reduceBEq, Nat.reduceDiv, Nat.reduceMod, Int.reduceToNat, Int.reduceNeg, Int.reduceAdd, Int.reduceSub, Int.reduceMul, Int.reduceEq, Int.reduceNe, Int.reduceLT, Int.reduceLE, Int.reduceGT, Int.reduceGE, txt]
  refine newI_intro fun id2 hid2 => ?_
  have hle2 : ∀ X : Blk, M.le (M.set id2 X) := fun X => le_new (Mem.le_refl _) hid2
  simp -implicitDefEqProofs (maxSteps := 1000000) (disch := omega) only [↓xsP, ↓vc_seq, xsQ, xsT, xsR, xsD, ↓reduceIte, reduceCtorEq, eq_self, ne_eq, imp_self, forall_const, Nat.reduceEqDiff, Nat.reduceAdd, Nat.reduceSub, Nat.reduceMul, Nat.reduceLT, Nat.reduceLeDiff, Nat.reduceBEq, Nat.reduceDiv, Nat.reduceMod, Int.reduceToNat, Int.reduceNeg, Int.reduceAdd, Int.reduceSub, Int.reduceMul, Int.reduceEq, Int.reduceNe, Int.reduceLT, Int.reduceLE, Int.reduceGT, Int.reduceGE, txt, ba_size]
  by_cases h1 : s.length ≤ 100000
  rotate_left
  · have q1 : decide ((s.length : Int) > 100000) = true := decide_eq_true (by omega)
    simp -implicitDefEqProofs (maxSteps := 1000000) (disch := omega) only [↓xsP, ↓vc_seq, xsQ, xsT, xsR, xsD, ↓reduceIte, reduceCtorEq, eq_self, ne_eq, imp_self, forall_const, Nat.reduceEqDiff, Nat.reduceAdd, Nat.reduceSub, Nat.reduceMul, Nat.reduceLT, Nat.reduceLeDiff, Nat.reduceBEq, Nat.reduceDiv, Nat.reduceMod, Int.reduceToNat, Int.reduceNeg, Int.reduceAdd, Int.reduceSub, Int.reduceMul, Int.reduceEq, Int.reduceNe, Int.reduceLT, Int.reduceLE, Int.reduceGT, Int.reduceGE, q1, txt, ba_size]
    refine finI_of (XFin.wk (XFin.le (M' := M) (fun k bk hk => ?_) ⟨rfl, .inr ⟨fun T h => h1 h.1, rfl⟩⟩))
    have := lt_of_bnd hid2 hk
    simp (disch := omega) only [Mem.set_ne, hk]
  have q1 : decide ((s.length : Int) > 100000) = false := decide_eq_false (by omega)
  simp -implicitDefEqProofs (maxSteps := 1000000) (disch := omega) only [↓xsP, ↓vc_seq, xsQ, xsT, xsR, xsD, ↓reduceIte, reduceCtorEq, eq_self, ne_eq, imp_self, forall_const, Nat.reduceEqDiff, Nat.reduceAdd, Nat.reduceSub, Nat.reduceMul, Nat.reduceLT, Nat.reduceLeDiff, Nat.reduceBEq, Nat.reduceDiv, Nat.reduceMod, Int.reduceToNat, Int.reduceNeg, Int.reduceAdd, Int.reduceSub, Int.reduceMul, Int.reduceEq, Int.reduceNe, Int.reduceLT, Int.reduceLE, Int.reduceGT, Int.reduceGE, q1, txt, ba_size]
  refine newI_intro fun id4 hid4 => ?_
  obtain ⟨k24, hid4'⟩ := bnd_new hid4
  simp -implicitDefEqProofs (maxSteps := 1000000) (disch := omega) only [↓xsP, ↓vc_seq, xsQ, xsT, xsR, xsD, ↓reduceIte, reduceCtorEq, eq_self, ne_eq, imp_self, forall_const, Nat.reduceEqDiff, Nat.reduceAdd, Nat.reduceSub, Nat.reduceMul, Nat.reduceLT, Nat.reduceLeDiff, Nat.reduceBEq, Nat.reduceDiv, Nat.reduceMod, Int.reduceToNat, Int.reduceNeg, Int.reduceAdd, Int.reduceSub, Int.reduceMul, Int.reduceEq, Int.reduceNe, Int.reduceLT, Int.reduceLE, Int.reduceGT, Int.reduceGE, q1, txt, ba_size]
  have hR : RSt (M.set id2 (.cells 24 [[.int .i64 0, .nils]] 0)) ((M.set id2 (.cells 24 [[.int .i64 0, .nils]] 0)).set id4 (rdB s 2000 .nils)) id4 s ((2000 : Nat) : Int) [] .nils :=
    ⟨Mem.set_eq _ _ _, hid4 _ (Nat.le_refl _), le_new (Mem.le_refl _) hid4, .inl ⟨rfl, rfl⟩⟩
  refine callI_of ((node_spec _ id4 2000 s [] .nils _ hs (by simp) (fun r hr => by cases hr) hR).mono ?_)
  rintro r' N h
  rcases h with ⟨T, t, f', xn, hT, hsz, rfl, hR1⟩ | ⟨hno, n, s1, left1, rows1, xn1, rfl, hR1, -, -, -⟩
  rotate_left
  · have hNid2 := hR1.le _ _ (Mem.set_eq M id2 (.cells 24 [[.int .i64 0, .nils]] 0))
    simp -implicitDefEqProofs (maxSteps := 1000000) (disch := omega) only [↓xsP, ↓vc_seq, xsQ, xsT, xsR, xsD, ↓reduceIte, reduceCtorEq, eq_self, ne_eq, imp_self, forall_const, Nat.reduceEqDiff, Nat.reduceAdd, Nat.reduceSub, Nat.reduceMul, Nat.reduceLT, Nat.reduceLeDiff, Nat.reduceBEq, Nat.reduceDiv, Nat.reduceMod, Int.reduceToNat, Int.reduceNeg, Int.reduceAdd, Int.reduceSub, Int.reduceMul, Int.reduceEq, Int.reduceNe, Int.reduceLT, Int.reduceLE, Int.reduceGT, Int.reduceGE, hNid2]
    refine finI_of (XFin.wk (XFin.le (M' := M) (fun k bk hk => ?_) ⟨rfl, .inr ⟨fun T h => ?_, rfl⟩⟩))
    · have := lt_of_bnd hid2 hk
      rw [Mem.set_ne _ _ _ _ (by omega)]
      exact hR1.le _ _ (hle2 _ _ _ hk)
    · have := hno T [] h.2.1
      have := h.2.2.1
      omega
  have hown := hR1.own
  rw [rdB, txt] at hown
  have hNid2 := hR1.le _ _ (Mem.set_eq M id2 (.cells 24 [[.int .i64 0, .nils]] 0))
  simp -implicitDefEqProofs (maxSteps := 1000000) (disch := omega) only [↓xsP, ↓vc_seq, xsQ, xsT, xsR, xsD, ↓reduceIte, reduceCtorEq, eq_self, ne_eq, imp_self, forall_const, Nat.reduceEqDiff, Nat.reduceAdd, Nat.reduceSub, Nat.reduceMul, Nat.reduceLT, Nat.reduceLeDiff, Nat.reduceBEq, Nat.reduceDiv, Nat.reduceMod, Int.reduceToNat, Int.reduceNeg, Int.reduceAdd, Int.reduceSub, Int.reduceMul, Int.reduceEq, Int.reduceNe, Int.reduceLT, Int.reduceLE, Int.reduceGT, Int.reduceGE, hown, txt]
  have hemp : decide ((⟨t.toArray⟩ : ByteArray) = { data := #[] }) = decide (t = []) := by
    rw [decide_eq_decide]
    exact ba_eq t []
  by_cases ht : t = []
  rotate_left
  · have q2 : decide ((⟨t.toArray⟩ : ByteArray) = { data := #[] }) = false := by rw [hemp, decide_eq_false ht]
    simp -implicitDefEqProofs (maxSteps := 1000000) (disch := omega) only [↓xsP, ↓vc_seq, xsQ, xsT, xsR, xsD, ↓reduceIte, reduceCtorEq, eq_self, ne_eq, imp_self, forall_const, Nat.reduceEqDiff, Nat.reduceAdd, Nat.reduceSub, Nat.reduceMul, Nat.reduceLT, Nat.reduceLeDiff, Nat.reduceBEq, Nat.reduceDiv, Nat.reduceMod, Int.reduceToNat, Int.reduceNeg, Int.reduceAdd, Int.reduceSub, Int.reduceMul, Int.reduceEq, Int.reduceNe, Int.reduceLT, Int.reduceLE, Int.reduceGT, Int.reduceGE, hown, q2, hNid2]
    refine finI_of (XFin.wk (XFin.le (M' := M) (fun k bk hk => ?_) ⟨rfl, .inr ⟨fun U h => ?_, rfl⟩⟩))
    · have := lt_of_bnd hid2 hk
      rw [Mem.set_ne _ _ _ _ (by omega)]
      exact hR1.le _ _ (hle2 _ _ _ hk)
    · exact ht (treeAt_uniq h.2.1 hT).2.symm
  have q2 : decide ((⟨t.toArray⟩ : ByteArray) = { data := #[] }) = true := by rw [hemp, decide_eq_true ht]
  subst ht
  simp -implicitDefEqProofs (maxSteps := 1000000) (disch := omega) only [↓xsP, ↓vc_seq, xsQ, xsT, xsR, xsD, ↓reduceIte, reduceCtorEq, eq_self, ne_eq, imp_self, forall_const, Nat.reduceEqDiff, Nat.reduceAdd, Nat.reduceSub, Nat.reduceMul, Nat.reduceLT, Nat.reduceLeDiff, Nat.reduceBEq, Nat.reduceDiv, Nat.reduceMod, Int.reduceToNat, Int.reduceNeg, Int.reduceAdd, Int.reduceSub, Int.reduceMul, Int.reduceEq, Int.reduceNe, Int.reduceLT, Int.reduceLE, Int.reduceGT, Int.reduceGE, hown, q2]
  rw [List.nil_append, List.length_nil] at hR1
  obtain ⟨idn, rfl, hn, hBn, hni⟩ := hR1.ms (fun e => by
    have := congrArg List.length e
    rw [preR_len] at this
    have := T.size_pos
    simp at *
    omega)
  have hpl : (preR 0 T).length = (preN 0 T).length := by rw [preR_len, preN_len]
  have hbd := treeAt_pok hT 0
  rw [hpl]
  refine callI_gs (GStep.keep' hn (preR_wk T 0)) (callI_of (XCalls.mono (tree_rd (Mem.set_eq _ _ _) (by rw [List.length_map]; exact Nat.le_refl _) (tplain_spec 0 (preN 0 T) (by rw [preN_len]; omega) (fun x hx => by have := hbd x hx; omega) _)) ?_))
  have hfin : ∀ X : Blk, M.le (N.set idn X) := fun X k bk hk => by
    have h2 := hle2 (.cells 24 [[.int .i64 0, .nils]] 0) _ _ hk
    rw [Mem.set_ne _ _ _ _ (fun e => by rw [← e, hBn] at h2; cases h2)]
    exact hR1.le _ _ h2
  have hM2 := hid2 id2 (Nat.le_refl _)
  have hn2 : idn ≠ id2 := fun e => by
    rw [e, Mem.set_eq] at hBn
    cases hBn
  have hQ2 : ∀ X : Blk, (N.set idn X) id2 = some (.cells 24 [[.int .i64 0, .nils]] 0) := fun X => by rw [Mem.set_ne _ _ _ _ hn2]; exact hNid2
  rintro _ _ ⟨rfl, ⟨hm, rfl⟩ | ⟨U, hU, rfl⟩⟩
  · simp -implicitDefEqProofs (maxSteps := 1000000) (disch := omega) only [↓xsP, ↓vc_seq, xsQ, xsT, xsR, xsD, ↓reduceIte, reduceCtorEq, eq_self, ne_eq, imp_self, forall_const, Nat.reduceEqDiff, Nat.reduceAdd, Nat.reduceSub, Nat.reduceMul, Nat.reduceLT, Nat.reduceLeDiff, Nat.reduceBEq, Nat.reduceDiv, Nat.reduceMod, Int.reduceToNat, Int.reduceNeg, Int.reduceAdd, Int.reduceSub, Int.reduceMul, Int.reduceEq, Int.reduceNe, Int.reduceLT, Int.reduceLE, Int.reduceGT, Int.reduceGE, trA]
    refine newI_intro fun id7 hid7 => ?_
    have k7 := lt_of_bnd hid7 (hQ2 _)
    simp -implicitDefEqProofs (maxSteps := 1000000) (disch := omega) only [↓xsP, ↓vc_seq, xsQ, xsT, xsR, xsD, ↓reduceIte, reduceCtorEq, eq_self, ne_eq, imp_self, forall_const, Nat.reduceEqDiff, Nat.reduceAdd, Nat.reduceSub, Nat.reduceMul, Nat.reduceLT, Nat.reduceLeDiff, Nat.reduceBEq, Nat.reduceDiv, Nat.reduceMod, Int.reduceToNat, Int.reduceNeg, Int.reduceAdd, Int.reduceSub, Int.reduceMul, Int.reduceEq, Int.reduceNe, Int.reduceLT, Int.reduceLE, Int.reduceGT, Int.reduceGE, trA, hNid2]
    refine finI_of (XFin.wk (XFin.le (M' := M) (fun k bk hk => ?_) ⟨rfl, .inr ⟨fun U h => ?_, rfl⟩⟩))
    · have h2 := hfin (.cells 46 ((preN 0 T).map Nd.row) (preN 0 T).length) _ _ hk
      have h3 := lt_of_bnd hid7 h2
      have h4 := lt_of_bnd hid2 hk
      rw [Mem.set_ne _ _ _ _ (by omega), Mem.set_ne _ _ _ _ (by omega)]
      exact h2
    · obtain rfl := (treeAt_uniq h.2.1 hT).1
      rw [(good_pre h.2.2.2 h.2.2.1).may] at hm
      cases hm
  · simp -implicitDefEqProofs (maxSteps := 1000000) (disch := omega) only [↓xsP, ↓vc_seq, xsQ, xsT, xsR, xsD, ↓reduceIte, reduceCtorEq, eq_self, ne_eq, imp_self, forall_const, Nat.reduceEqDiff, Nat.reduceAdd, Nat.reduceSub, Nat.reduceMul, Nat.reduceLT, Nat.reduceLeDiff, Nat.reduceBEq, Nat.reduceDiv, Nat.reduceMod, Int.reduceToNat, Int.reduceNeg, Int.reduceAdd, Int.reduceSub, Int.reduceMul, Int.reduceEq, Int.reduceNe, Int.reduceLT, Int.reduceLE, Int.reduceGT, Int.reduceGE, trA]
    refine newI_intro fun id7 hid7 => ?_
    have k7 := lt_of_bnd hid7 (hQ2 _)
    simp -implicitDefEqProofs (maxSteps := 1000000) (disch := omega) only [↓xsP, ↓vc_seq, xsQ, xsT, xsR, xsD, ↓reduceIte, reduceCtorEq, eq_self, ne_eq, imp_self, forall_const, Nat.reduceEqDiff, Nat.reduceAdd, Nat.reduceSub, Nat.reduceMul, Nat.reduceLT, Nat.reduceLeDiff, Nat.reduceBEq, Nat.reduceDiv, Nat.reduceMod, Int.reduceToNat, Int.reduceNeg, Int.reduceAdd, Int.reduceSub, Int.reduceMul, Int.reduceEq, Int.reduceNe, Int.reduceLT, Int.reduceLE, Int.reduceGT, Int.reduceGE, trA, hNid2]
    have hUT : U = T := by
      obtain ⟨pl, g1, -⟩ := hU.hang
      have := preN_hang (preN 0 T) T 0 (fun j hj => by rw [Nat.zero_add]) (by rw [preN_len]; omega)
      exact (g1.uniq this).1
    subst hUT
    refine fin_ok (M' := M) (fun k bk hk => ?_) ⟨rfl, .inl ⟨U, ⟨h1, hT, by omega, hU.wf⟩, rfl⟩⟩
    have h2 := hfin (.cells 46 ((preN 0 U).map Nd.row) (preN 0 U).length) _ _ hk
    have h3 := lt_of_bnd hid7 h2
    have h4 := lt_of_bnd hid2 hk
    rw [Mem.set_ne _ _ _ _ (by omega), Mem.set_ne _ _ _ _ (by omega)]
    exact h2
end Go.X
set_option linter.unusedVariables false
set_option linter.unusedSimpArgs false
set_option maxHeartbeats 20000000
set_option maxRecDepth 100000
namespace Go.X
open Go.Proofs.Tryd (prog)

theorem numAt_mk {v : Int} (hv : IntOk' v) {c : UInt8} (hc : dg c = false) (t : List UInt8) : NumAt (Lib.itoa v ++ c :: t) v (c :: t) := ⟨hv, rfl, fun d hd => by
  simp only [List.head?_cons, Option.some.injEq] at hd
  rw [← hd]; exact hc⟩
theorem pairAt_mk {p : Pr} (hp : IntOk' p.key ∧ IntOk' p.val) {c : UInt8} (hc : dg c = false) (t : List UInt8) : PairAt (prT p ++ c :: t) p (c :: t) := by
  refine ⟨Lib.itoa p.val ++ c :: t, ?_, numAt_mk hp.2 hc t⟩
  have := numAt_mk hp.1 (c := 58) (by decide) (Lib.itoa p.val ++ c :: t)
  rw [prT, List.append_assoc, List.cons_append]
  exact this
theorem prsAt_mk {t : List UInt8} : ∀ (ps : List Pr), AllOk ps → PrsAt false ((ps.flatMap fun q => 44 :: prT q) ++ 124 :: t) ps (124 :: t)
  | [], _ => rfl
  | p :: r, h => by
    have ih := prsAt_mk (t := t) r fun x hx => h x (by simp [hx])
    refine ⟨prT p ++ ((r.flatMap fun q => 44 :: prT q) ++ 124 :: t), _, by simp, ?_, ih⟩
    cases r with
    | nil => exact pairAt_mk (h p (by simp)) (by decide) _
    | cons q r => exact pairAt_mk (c := 44) (h p (by simp)) (by decide) _
theorem prsAt_mk1 {t : List UInt8} (ps : List Pr) (h : AllOk ps) : PrsAt true (prsT ps ++ 124 :: t) ps (124 :: t) := by
  cases ps with
  | nil => exact rfl
  | cons p r =>
    have ih := prsAt_mk (t := t) r fun x hx => h x (by simp [hx])
    refine ⟨_, ?_, ih⟩
    rw [prsT, List.append_assoc]
    cases r with
    | nil => exact pairAt_mk (h p (by simp)) (by decide) _
    | cons q r => exact pairAt_mk (c := 44) (h p (by simp)) (by decide) _
theorem treeAt_mk : ∀ {T : Tr}, T.ints → ∀ t : List UInt8, TreeAt (T.txt ++ t) T t
  | .leaf ps st, h, t => by
    refine ⟨prsT ps ++ 124 :: (Lib.itoa st ++ 93 :: t), Lib.itoa st ++ 93 :: t, by simp [Tr.txt], prsAt_mk1 ps h.2, numAt_mk h.1 (by decide) t⟩
  | .fork k l r, h, t => by
    refine ⟨l.txt ++ 32 :: (Lib.itoa k ++ 32 :: (r.txt ++ 41 :: t)), Lib.itoa k ++ 32 :: (r.txt ++ 41 :: t), r.txt ++ 41 :: t, by simp [Tr.txt], treeAt_mk h.2.1 _, numAt_mk h.1 (by decide) _, treeAt_mk h.2.2 _⟩
theorem itoa_dig {n : Nat} (h : n < 10) : Lib.itoa (n : Int) = [UInt8.ofNat (48 + n)] := by
  rw [itoa_nonneg (by omega), Int.toNat_natCast, Lib.decDigits, dif_pos h]
theorem itoa_negdig {n : Nat} (h : n < 10) (h0 : 0 < n) : Lib.itoa (-(n : Int)) = [45, UInt8.ofNat (48 + n)] := by
  rw [itoa_neg (by omega), show (-(n : Int)).natAbs = n by omega, Lib.decDigits, dif_pos h]
def s23 : List UInt8 := [40, 91, 49, 58, 53, 124, 48, 93, 32, 51, 32, 91, 51, 58, 45, 50, 44, 52, 58, 48, 124, 55, 93, 41]
def t23 : Tr := .fork 3 (.leaf [⟨1, 5⟩] 0) (.leaf [⟨3, -2⟩, ⟨4, 0⟩] 7)
theorem ints23 : t23.ints := by
  refine ⟨⟨by decide, by decide⟩, ⟨⟨by decide, by decide⟩, fun p hp => ?_⟩, ⟨⟨by decide, by decide⟩, fun p hp => ?_⟩⟩
  · simp only [List.mem_cons, List.not_mem_nil, or_false] at hp
    subst hp
    exact ⟨⟨by decide, by decide⟩, by decide, by decide⟩
  · simp only [List.mem_cons, List.not_mem_nil, or_false] at hp
    rcases hp with rfl | rfl
    · exact ⟨⟨by decide, by decide⟩, by decide, by decide⟩
    · exact ⟨⟨by decide, by decide⟩, by decide, by decide⟩
theorem txt23 : t23.txt = s23 := by
  have e0 := itoa_dig (n := 0) (by decide)
  have e1 := itoa_dig (n := 1) (by decide)
  have e3 := itoa_dig (n := 3) (by decide)
  have e4 := itoa_dig (n := 4) (by decide)
  have e5 := itoa_dig (n := 5) (by decide)
  have e7 := itoa_dig (n := 7) (by decide)
  have e2 := itoa_negdig (n := 2) (by decide) (by decide)
  simp only [Int.cast_ofNat_Int] at e0 e1 e2 e3 e4 e5 e7
  simp only [t23, Tr.txt, prsT, prT, e0, e1, e2, e3, e4, e5, e7, List.flatMap_cons, List.flatMap_nil]
  rfl
theorem pars23 : ParsOk s23 t23 := by
  refine ⟨by decide, ?_, by decide, ?_⟩
  · have := treeAt_mk ints23 []
    rw [List.append_nil, txt23] at this
    exact this
  · refine ⟨by decide, by decide, ⟨?_, by decide, by decide, ?_⟩, ⟨?_, by decide, by decide, ?_⟩⟩
    · exact (rises_asc _).2 (by simp [Asc])
    · intro p hp
      simp only [List.mem_cons, List.not_mem_nil, or_false] at hp
      subst hp
      decide
    · exact (rises_asc _).2 (by simp [Asc])
    · intro p hp
      simp only [List.mem_cons, List.not_mem_nil, or_false] at hp
      rcases hp with rfl | rfl <;> decide
theorem pok_pars {s : List UInt8} {T : Tr} (h : ParsOk s T) : Pok (preN 0 T) := fun x hx => by
  have h1 := treeAt_pok h.2.1 0 x hx
  have := h.1
  omega
theorem good_pars {s : List UInt8} {T : Tr} (h : ParsOk s T) : Good 0 (preN 0 T) T := good_pre h.2.2.2 h.2.2.1
theorem awake23_spec (M : Mem) : XCalls Go.Proofs.Tryd.prog 9 [] M fun r M' => r = .l (.bool true) ∧ M' = M := by
  refine xcalls_intro (rs := [.tmp 0]) Go.Proofs.Tryd.func9 rfl (by kernel_rfl) rfl rfl (by kernel_rfl) (by simp) ?_
  simp -implicitDefEqProofs (maxSteps := 1000000) (disch := omega) only [↓xsP, ↓vc_seq, xsQ, xsT, xsR, xsD, ↓reduceIte, reduceCtorEq, eq_self, ne_eq, imp_self, forall_const, Nat.reduceEqDiff, Nat.reduceAdd, Nat.reduceSub, Nat.reduceMul, Nat.reduceLT, Nat.reduceLeDiff, Nat.reduceBEq, Nat.reduceDiv, Nat.reduceMod, Int.reduceToNat, Int.reduceNeg, Int.reduceAdd, Int.reduceSub, Int.reduceMul, Int.reduceEq, Int.reduceNe, Int.reduceLT, Int.reduceLE, Int.reduceGT, Int.reduceGE]
  refine callI_of ((parse_spec s23 (by decide) _).mono ?_)
  rintro _ M ⟨rfl, ⟨T, hT, rfl⟩ | ⟨hno, -⟩⟩
  rotate_left
  · exact absurd pars23 (hno _)
  obtain rfl := parsOk_uniq hT pars23
  have hG := good_pars pars23
  have hP := pok_pars pars23
  have hlen : (preN 0 t23).length ≤ 140737488355328 := by rw [preN_len]; decide
  have htx : t23.txt.length ≤ 1000000 := by rw [txt23]; decide
  simp -implicitDefEqProofs (maxSteps := 1000000) (disch := omega) only [↓xsP, ↓vc_seq, xsQ, xsT, xsR, xsD, ↓reduceIte, reduceCtorEq, eq_self, ne_eq, imp_self, forall_const, Nat.reduceEqDiff, Nat.reduceAdd, Nat.reduceSub, Nat.reduceMul, Nat.reduceLT, Nat.reduceLeDiff, Nat.reduceBEq, Nat.reduceDiv, Nat.reduceMod, Int.reduceToNat, Int.reduceNeg, Int.reduceAdd, Int.reduceSub, Int.reduceMul, Int.reduceEq, Int.reduceNe, Int.reduceLT, Int.reduceLE, Int.reduceGT, Int.reduceGE, trA]
  refine newI_intro fun id1 hid1 => ?_
  simp -implicitDefEqProofs (maxSteps := 1000000) (disch := omega) only [↓xsP, ↓vc_seq, xsQ, xsT, xsR, xsD, ↓reduceIte, reduceCtorEq, eq_self, ne_eq, imp_self, forall_const, Nat.reduceEqDiff, Nat.reduceAdd, Nat.reduceSub, Nat.reduceMul, Nat.reduceLT, Nat.reduceLeDiff, Nat.reduceBEq, Nat.reduceDiv, Nat.reduceMod, Int.reduceToNat, Int.reduceNeg, Int.reduceAdd, Int.reduceSub, Int.reduceMul, Int.reduceEq, Int.reduceNe, Int.reduceLT, Int.reduceLE, Int.reduceGT, Int.reduceGE, trA]
  refine callI_of ((vkeys_spec 0 (preN 0 t23) hlen hP hG _).mono ?_)
  rintro _ _ ⟨rfl, rfl⟩
  simp -implicitDefEqProofs (maxSteps := 1000000) (disch := omega) only [↓xsP, ↓vc_seq, xsQ, xsT, xsR, xsD, ↓reduceIte, reduceCtorEq, eq_self, ne_eq, imp_self, forall_const, Nat.reduceEqDiff, Nat.reduceAdd, Nat.reduceSub, Nat.reduceMul, Nat.reduceLT, Nat.reduceLeDiff, Nat.reduceBEq, Nat.reduceDiv, Nat.reduceMod, Int.reduceToNat, Int.reduceNeg, Int.reduceAdd, Int.reduceSub, Int.reduceMul, Int.reduceEq, Int.reduceNe, Int.reduceLT, Int.reduceLE, Int.reduceGT, Int.reduceGE, trA]
  have w1 : decide (((preN 0 t23).length : Int) = 3) = true := by rw [preN_len]; decide
  have hk : t23.keys = [3] := rfl
  simp -implicitDefEqProofs (maxSteps := 1000000) (disch := omega) only [↓xsP, ↓vc_seq, xsQ, xsT, xsR, xsD, ↓reduceIte, reduceCtorEq, eq_self, ne_eq, imp_self, forall_const, Nat.reduceEqDiff, Nat.reduceAdd, Nat.reduceSub, Nat.reduceMul, Nat.reduceLT, Nat.reduceLeDiff, Nat.reduceBEq, Nat.reduceDiv, Nat.reduceMod, Int.reduceToNat, Int.reduceNeg, Int.reduceAdd, Int.reduceSub, Int.reduceMul, Int.reduceEq, Int.reduceNe, Int.reduceLT, Int.reduceLE, Int.reduceGT, Int.reduceGE, trA, w1]
  refine call_of (vdeep_spec 0 (preN 0 t23) hlen hP hG _) ?_
  have hd : (t23.deep : Int) = 1 := rfl
  rw [hd]
  have hix : ∀ X : Mem, indexAddrA Go.Proofs.Tryd.prog X 30 (.l (.sl [[.int .i64 3]])) (.l (.int .i64 0)) = some (.l (.rp [.int .i64 3])) := fun X => by
    unfold indexAddrA
    rw [ti_30]
    simp only [ti_3]
    rfl
  simp -implicitDefEqProofs (maxSteps := 1000000) (disch := omega) only [↓xsP, ↓vc_seq, xsQ, xsT, xsR, xsD, ↓reduceIte, reduceCtorEq, eq_self, ne_eq, imp_self, forall_const, Nat.reduceEqDiff, Nat.reduceAdd, Nat.reduceSub, Nat.reduceMul, Nat.reduceLT, Nat.reduceLeDiff, Nat.reduceBEq, Nat.reduceDiv, Nat.reduceMod, Int.reduceToNat, Int.reduceNeg, Int.reduceAdd, Int.reduceSub, Int.reduceMul, Int.reduceEq, Int.reduceNe, Int.reduceLT, Int.reduceLE, Int.reduceGT, Int.reduceGE, trA, w1, hk, Int.cast_ofNat_Int, hix]
  refine call_of (vtext_spec 0 (preN 0 t23) hlen hP hG ints23 htx _) ?_
  rw [txt23]
  simp -implicitDefEqProofs (maxSteps := 1000000) (disch := omega) only [↓xsP, ↓vc_seq, xsQ, xsT, xsR, xsD, ↓reduceIte, reduceCtorEq, eq_self, ne_eq, imp_self, forall_const, Nat.reduceEqDiff, Nat.reduceAdd, Nat.reduceSub, Nat.reduceMul, Nat.reduceLT, Nat.reduceLeDiff, Nat.reduceBEq, Nat.reduceDiv, Nat.reduceMod, Int.reduceToNat, Int.reduceNeg, Int.reduceAdd, Int.reduceSub, Int.reduceMul, Int.reduceEq, Int.reduceNe, Int.reduceLT, Int.reduceLE, Int.reduceGT, Int.reduceGE, txt]
  exact fin_ok (le_new (Mem.le_refl _) hid1) ⟨congrArg (fun b => AV.l (Lf.bool b)) (decide_eq_true rfl), rfl⟩
end Go.X
set_option linter.unusedVariables false
set_option linter.unusedSimpArgs false
set_option maxRecDepth 100000
namespace Go.X
open Go.Proofs.Tryd (prog)

def Tr.np : Tr → Nat
  | .leaf ps _ => ps.length
  | .fork _ l r => l.np + r.np
theorem prsT_le {l : List Pr} (h : AllOk l) : (prsT l).length ≤ 51 * l.length := by
  have key : ∀ r : List Pr, AllOk r → (r.flatMap fun q => 44 :: prT q).length ≤ 51 * r.length := by
    intro r
    induction r with
    | nil => intro _; simp
    | cons p r ih =>
      intro hr
      have h1 := prT_len (hr p (by simp))
      have h2 := ih fun q hq => hr q (by simp [hq])
      simp only [List.flatMap_cons, List.length_append, List.length_cons]
      omega
  cases l with
  | nil => simp [prsT]
  | cons p r =>
    have h1 := prT_len (h p (by simp))
    have h2 := key r fun q hq => h q (by simp [hq])
    simp only [prsT, List.length_append, List.length_cons]
    omega
theorem txt_le : ∀ {T : Tr}, T.ints → T.txt.length ≤ 51 * T.np + 30 * T.size
  | .leaf ps st, h => by
    have h1 := prsT_le h.2
    have h2 := Lib.itoa_length_le st h.1.1 h.1.2
    simp only [Tr.txt, Tr.np, Tr.size, List.length_append, List.length_cons, List.length_nil]
    omega
  | .fork k l r, h => by
    have h1 := txt_le h.2.1
    have h2 := txt_le h.2.2
    have h3 := Lib.itoa_length_le k h.1.1 h.1.2
    simp only [Tr.txt, Tr.np, Tr.size, List.length_append, List.length_cons, List.length_nil]
    omega
theorem hang_np {ns : List Nd} {a : Int} {T : Tr} {pl : List Nat} (h : Hang ns a T pl) : T.np = (pl.map fun i => (ns.getD i default).pairs.length).sum := by
  induction h with
  | @leaf i ps st hi hn =>
    show ps.length = (ns.getD i default).pairs.length + 0
    rw [hn]
    rfl
  | @fork i k l r L R pl pr hi hn hl hr ihl ihr =>
    have : (ns.getD i default).pairs.length = 0 := by rw [hn]; rfl
    simp only [Tr.np, List.map_cons, List.sum_cons, List.map_append, List.sum_append, this, ihl, ihr]
    omega
theorem hang_lt {ns : List Nd} {a : Int} {T : Tr} {pl : List Nat} (h : Hang ns a T pl) : ∀ j ∈ pl, j < ns.length := by
  induction h with
  | @leaf i ps st hi hn => intro j hj; rw [List.mem_singleton.1 hj]; exact hi
  | @fork i k l r L R pl pr hi hn hl hr ihl ihr =>
    intro j hj
    rw [List.mem_cons, List.mem_append] at hj
    rcases hj with rfl | hj | hj
    · exact hi
    · exact ihl j hj
    · exact ihr j hj
theorem psum_set : ∀ (ns : List Nd) (i : Nat), i < ns.length → psum (ns.set i default) + (ns.getD i default).pairs.length = psum ns
  | x :: r, 0, _ => by
    have : (default : Nd).pairs.length = 0 := rfl
    simp [psum, this]
    omega
  | x :: r, i + 1, h => by
    have := psum_set r i (by simpa using h)
    simp only [psum, List.set_cons_succ, List.map_cons, List.sum_cons, List.getD_cons_succ] at this ⊢
    omega
theorem nodup_psum : ∀ (pl : List Nat) (ns : List Nd), pl.Nodup → (∀ j ∈ pl, j < ns.length) → (pl.map fun i => (ns.getD i default).pairs.length).sum ≤ psum ns
  | [], ns, _, _ => by simp
  | i :: pl, ns, hn, hl => by
    rw [List.nodup_cons] at hn
    have h1 := psum_set ns i (hl i (by simp))
    have h2 := nodup_psum pl (ns.set i default) hn.2 (fun j hj => by rw [List.length_set]; exact hl j (by simp [hj]))
    have h3 : (pl.map fun j => ((ns.set i default).getD j default).pairs.length) = pl.map fun j => (ns.getD j default).pairs.length := by
      refine List.map_congr_left fun j hj => ?_
      have : i ≠ j := fun e => hn.1 (by rw [e]; exact hj)
      simp only [List.getD_eq_getElem?_getD]
      rw [List.getElem?_set_ne this]
    rw [h3] at h2
    simp only [List.map_cons, List.sum_cons]
    omega
theorem Good.np {root : Int} {ns : List Nd} {T : Tr} (h : Good root ns T) : T.np ≤ psum ns := by
  obtain ⟨pl, hH, hn⟩ := h.hang
  rw [hang_np hH]
  exact nodup_psum pl ns hn (hang_lt hH)
theorem hang_ok {ns : List Nd} (hp : ∀ x ∈ ns, NdOk x) {a : Int} {T : Tr} {pl : List Nat} (h : Hang ns a T pl) : T.ints := by
  induction h with
  | @leaf i ps st hi hn =>
    have := hp _ (getD_mem' ns default hi)
    rw [hn] at this
    exact ⟨this.2.2.1, this.2.2.2⟩
  | @fork i k l r L R pl pr hi hn hl hr ihl ihr =>
    have := hp _ (getD_mem' ns default hi)
    rw [hn] at this
    exact ⟨this.2.1, ihl, ihr⟩
theorem Good.ints {root : Int} {ns : List Nd} {T : Tr} (h : Good root ns T) (hp : ∀ x ∈ ns, NdOk x) : T.ints := by
  obtain ⟨pl, hH, hn⟩ := h.hang
  exact hang_ok hp hH
theorem NdOk.pok {ns : List Nd} (h : ∀ x ∈ ns, NdOk x) : Pok ns := fun x hx => (h x hx).1
end Go.X
set_option linter.unusedVariables false
set_option linter.unusedSimpArgs false
set_option maxHeartbeats 20000000
set_option maxRecDepth 100000
namespace Go.X
open Go.Proofs.Tryd (prog)

theorem add_str0 (P : Program) (t : TypeId) (x y : Operand) (a b : ByteArray) (K : AV → Prop) : @binI P .add t x y (.l (.str a)) (.l (.str b)) ⟨K⟩ = (a.size + b.size ≤ 9223372036854775807 ∧ K (.l (.str (a ++ b)))) := rfl
end Go.X
set_option linter.unusedVariables false
set_option linter.unusedSimpArgs false
set_option maxHeartbeats 20000000
set_option maxRecDepth 100000
namespace Go.X
open Go.Proofs.Tryd (prog)

theorem rdeep_spec0 (root : Int) (ns : List Nd) : ∀ {a : Int} {T : Tr} {pl : List Nat}, Hang ns a T pl → T.size ≤ 100000 → ∀ (M : Mem),
    XCalls Go.Proofs.Tryd.prog 34 [trA root ns, .l (.int .i64 a)] M fun r M' => r = .l (.int .i64 T.deep) ∧ M' = M := by
  intro a T pl h
  induction h with
  | @leaf i ps st hi h =>
    intro hs M
    refine xcalls_intro (rs := [.tmp 4]) Go.Proofs.Tryd.func34 rfl (by kernel_rfl) rfl rfl (by kernel_rfl) (by simp) ?_
    simp -implicitDefEqProofs (maxSteps := 1000000) (disch := omega) only [↓xsP, ↓vc_seq, xsQ, xsT, xsR, xsD, ↓reduceIte, reduceCtorEq, eq_self, ne_eq, imp_self, forall_const, Nat.reduceEqDiff, Nat.reduceAdd, Nat.reduceSub, Nat.reduceMul, Nat.reduceLT, Nat.reduceLeDiff, Nat.reduceBEq, Nat.reduceDiv, Nat.reduceMod, Int.reduceToNat, Int.reduceNeg, Int.reduceAdd, Int.reduceSub, Int.reduceMul, Int.reduceEq, Int.reduceNe, Int.reduceLT, Int.reduceLE, Int.reduceGT, Int.reduceGE, trA]
    refine newI_intro fun id1 hid1 => ?_
    simp -implicitDefEqProofs (maxSteps := 1000000) (disch := omega) only [↓xsP, ↓vc_seq, xsQ, xsT, xsR, xsD, ↓reduceIte, reduceCtorEq, eq_self, ne_eq, imp_self, forall_const, Nat.reduceEqDiff, Nat.reduceAdd, Nat.reduceSub, Nat.reduceMul, Nat.reduceLT, Nat.reduceLeDiff, Nat.reduceBEq, Nat.reduceDiv, Nat.reduceMod, Int.reduceToNat, Int.reduceNeg, Int.reduceAdd, Int.reduceSub, Int.reduceMul, Int.reduceEq, Int.reduceNe, Int.reduceLT, Int.reduceLE, Int.reduceGT, Int.reduceGE, h]
    refine newI_intro fun id2 hid2 => ?_
    obtain ⟨k12, hid2'⟩ := bnd_new hid2
    have hro : (leafN ps st).route = false := rfl
    simp -implicitDefEqProofs (maxSteps := 1000000) (disch := omega) only [↓xsP, ↓vc_seq, xsQ, xsT, xsR, xsD, ↓reduceIte, reduceCtorEq, eq_self, ne_eq, imp_self, forall_const, Nat.reduceEqDiff, Nat.reduceAdd, Nat.reduceSub, Nat.reduceMul, Nat.reduceLT, Nat.reduceLeDiff, Nat.reduceBEq, Nat.reduceDiv, Nat.reduceMod, Int.reduceToNat, Int.reduceNeg, Int.reduceAdd, Int.reduceSub, Int.reduceMul, Int.reduceEq, Int.reduceNe, Int.reduceLT, Int.reduceLE, Int.reduceGT, Int.reduceGE, h, hro]
    refine fin_ok (fun k bk hk => ?_) ⟨rfl, rfl⟩
    have := lt_of_bnd hid1 hk
    simp (disch := omega) only [Mem.set_ne, hk]
  | @fork i k l r L R pl pr hi h hL hR ihl ihr =>
    intro hs M
    simp only [Tr.size] at hs
    have d1 := L.deep_lt
    have d2 := R.deep_lt
    refine xcalls_intro (rs := [.tmp 4]) Go.Proofs.Tryd.func34 rfl (by kernel_rfl) rfl rfl (by kernel_rfl) (by simp) ?_
    simp -implicitDefEqProofs (maxSteps := 1000000) (disch := omega) only [↓xsP, ↓vc_seq, xsQ, xsT, xsR, xsD, ↓reduceIte, reduceCtorEq, eq_self, ne_eq, imp_self, forall_const, Nat.reduceEqDiff, Nat.reduceAdd, Nat.reduceSub, Nat.reduceMul, Nat.reduceLT, Nat.reduceLeDiff, Nat.reduceBEq, Nat.reduceDiv, Nat.reduceMod, Int.reduceToNat, Int.reduceNeg, Int.reduceAdd, Int.reduceSub, Int.reduceMul, Int.reduceEq, Int.reduceNe, Int.reduceLT, Int.reduceLE, Int.reduceGT, Int.reduceGE, trA]
    refine newI_intro fun id1 hid1 => ?_
    simp -implicitDefEqProofs (maxSteps := 1000000) (disch := omega) only [↓xsP, ↓vc_seq, xsQ, xsT, xsR, xsD, ↓reduceIte, reduceCtorEq, eq_self, ne_eq, imp_self, forall_const, Nat.reduceEqDiff, Nat.reduceAdd, Nat.reduceSub, Nat.reduceMul, Nat.reduceLT, Nat.reduceLeDiff, Nat.reduceBEq, Nat.reduceDiv, Nat.reduceMod, Int.reduceToNat, Int.reduceNeg, Int.reduceAdd, Int.reduceSub, Int.reduceMul, Int.reduceEq, Int.reduceNe, Int.reduceLT, Int.reduceLE, Int.reduceGT, Int.reduceGE, h]
    refine newI_intro fun id2 hid2 => ?_
    obtain ⟨k12, hid2'⟩ := bnd_new hid2
    have hro : (forkN k l r).route = true := rfl
    have hle : (forkN k l r).left = l := rfl
    have hri : (forkN k l r).right = r := rfl
    simp -implicitDefEqProofs (maxSteps := 1000000) (disch := omega) only [↓xsP, ↓vc_seq, xsQ, xsT, xsR, xsD, ↓reduceIte, reduceCtorEq, eq_self, ne_eq, imp_self, forall_const, Nat.reduceEqDiff, Nat.reduceAdd, Nat.reduceSub, Nat.reduceMul, Nat.reduceLT, Nat.reduceLeDiff, Nat.reduceBEq, Nat.reduceDiv, Nat.reduceMod, Int.reduceToNat, Int.reduceNeg, Int.reduceAdd, Int.reduceSub, Int.reduceMul, Int.reduceEq, Int.reduceNe, Int.reduceLT, Int.reduceLE, Int.reduceGT, Int.reduceGE, h, hro]
    refine xquiet (by kernel_rfl) (by kernel_rfl) (by kernel_rfl) ?_
    simp -implicitDefEqProofs (maxSteps := 1000000) (disch := omega) only [↓xsP, ↓vc_seq, xsQ, xsT, xsR, xsD, ↓reduceIte, reduceCtorEq, eq_self, ne_eq, imp_self, forall_const, Nat.reduceEqDiff, Nat.reduceAdd, Nat.reduceSub, Nat.reduceMul, Nat.reduceLT, Nat.reduceLeDiff, Nat.reduceBEq, Nat.reduceDiv, Nat.reduceMod, Int.reduceToNat, Int.reduceNeg, Int.reduceAdd, Int.reduceSub, Int.reduceMul, Int.reduceEq, Int.reduceNe, Int.reduceLT, Int.reduceLE, Int.reduceGT, Int.reduceGE, h, hle, hri]
    refine dcallI_of (ihl (by omega) _) ?_
    simp -implicitDefEqProofs (maxSteps := 1000000) (disch := omega) only [↓xsP, ↓vc_seq, xsQ, xsT, xsR, xsD, ↓reduceIte, reduceCtorEq, eq_self, ne_eq, imp_self, forall_const, Nat.reduceEqDiff, Nat.reduceAdd, Nat.reduceSub, Nat.reduceMul, Nat.reduceLT, Nat.reduceLeDiff, Nat.reduceBEq, Nat.reduceDiv, Nat.reduceMod, Int.reduceToNat, Int.reduceNeg, Int.reduceAdd, Int.reduceSub, Int.reduceMul, Int.reduceEq, Int.reduceNe, Int.reduceLT, Int.reduceLE, Int.reduceGT, Int.reduceGE, h, hle, hri]
    refine dcallI_of (ihr (by omega) _) ?_
    simp -implicitDefEqProofs (maxSteps := 1000000) (disch := omega) only [↓xsP, ↓vc_seq, xsQ, xsT, xsR, xsD, ↓reduceIte, reduceCtorEq, eq_self, ne_eq, imp_self, forall_const, Nat.reduceEqDiff, Nat.reduceAdd, Nat.reduceSub, Nat.reduceMul, Nat.reduceLT, Nat.reduceLeDiff, Nat.reduceBEq, Nat.reduceDiv, Nat.reduceMod, Int.reduceToNat, Int.reduceNeg, Int.reduceAdd, Int.reduceSub, Int.reduceMul, Int.reduceEq, Int.reduceNe, Int.reduceLT, Int.reduceLE, Int.reduceGT, Int.reduceGE, h, hle, hri, max_i]
    have he : (1 : Int) + ((max L.deep R.deep : Nat) : Int) = ((Tr.fork k L R).deep : Nat) := by simp only [Tr.deep]; omega
    rw [he]
    refine fin_ok (fun k bk hk => ?_) ⟨rfl, rfl⟩
    have := lt_of_bnd hid1 hk
    simp (disch := omega) only [Mem.set_ne, hk]

theorem rdeep_spec (root : Int) (ns : List Nd) (hl : ns.length ≤ 140737488355328) (hp : Pok ns) (M : Mem) :
    XCalls Go.Proofs.Tryd.prog 18 [trA root ns] M fun r M' => M' = M ∧ ((mayT root ns = false ∧ r = .l (.int .i64 0)) ∨ ∃ T, Good root ns T ∧ r = .l (.int .i64 T.deep)) := by
  refine xcalls_intro (rs := [.tmp 2]) Go.Proofs.Tryd.func18 rfl (by kernel_rfl) rfl rfl (by kernel_rfl) (by simp) ?_
  simp -implicitDefEqProofs (maxSteps := 1000000) (disch := omega) only [↓xsP, ↓vc_seq, xsQ, xsT, xsR, xsD, ↓reduceIte, reduceCtorEq, eq_self, ne_eq, imp_self, forall_const, Nat.reduceEqDiff, Nat.reduceAdd, Nat.reduceSub, Nat.reduceMul, Nat.reduceLT, Nat.reduceLeDiff, Nat.reduceBEq, Nat.reduceDiv, Nat.reduceMod, Int.reduceToNat, Int.reduceNeg, Int.reduceAdd, Int.reduceSub, Int.reduceMul, Int.reduceEq, Int.reduceNe, Int.reduceLT, Int.reduceLE, Int.reduceGT, Int.reduceGE, trA]
  refine newI_intro fun id1 hid1 => ?_
  simp -implicitDefEqProofs (maxSteps := 1000000) (disch := omega) only [↓xsP, ↓vc_seq, xsQ, xsT, xsR, xsD, ↓reduceIte, reduceCtorEq, eq_self, ne_eq, imp_self, forall_const, Nat.reduceEqDiff, Nat.reduceAdd, Nat.reduceSub, Nat.reduceMul, Nat.reduceLT, Nat.reduceLeDiff, Nat.reduceBEq, Nat.reduceDiv, Nat.reduceMod, Int.reduceToNat, Int.reduceNeg, Int.reduceAdd, Int.reduceSub, Int.reduceMul, Int.reduceEq, Int.reduceNe, Int.reduceLT, Int.reduceLE, Int.reduceGT, Int.reduceGE, trA]
  refine callI_of ((rplain_spec root ns hl hp _).mono ?_)
  rintro _ _ ⟨rfl, (⟨hT, rfl⟩ | ⟨T, hT, rfl⟩)⟩
  · simp -implicitDefEqProofs (maxSteps := 1000000) (disch := omega) only [↓xsP, ↓vc_seq, xsQ, xsT, xsR, xsD, ↓reduceIte, reduceCtorEq, eq_self, ne_eq, imp_self, forall_const, Nat.reduceEqDiff, Nat.reduceAdd, Nat.reduceSub, Nat.reduceMul, Nat.reduceLT, Nat.reduceLeDiff, Nat.reduceBEq, Nat.reduceDiv, Nat.reduceMod, Int.reduceToNat, Int.reduceNeg, Int.reduceAdd, Int.reduceSub, Int.reduceMul, Int.reduceEq, Int.reduceNe, Int.reduceLT, Int.reduceLE, Int.reduceGT, Int.reduceGE, trA]
    refine newI_intro fun id3 hid3 => ?_
    obtain ⟨k13, hid3'⟩ := bnd_new hid3
    simp -implicitDefEqProofs (maxSteps := 1000000) (disch := omega) only [↓xsP, ↓vc_seq, xsQ, xsT, xsR, xsD, ↓reduceIte, reduceCtorEq, eq_self, ne_eq, imp_self, forall_const, Nat.reduceEqDiff, Nat.reduceAdd, Nat.reduceSub, Nat.reduceMul, Nat.reduceLT, Nat.reduceLeDiff, Nat.reduceBEq, Nat.reduceDiv, Nat.reduceMod, Int.reduceToNat, Int.reduceNeg, Int.reduceAdd, Int.reduceSub, Int.reduceMul, Int.reduceEq, Int.reduceNe, Int.reduceLT, Int.reduceLE, Int.reduceGT, Int.reduceGE, trA]
    exact fin_ok (le_new (le_new (Mem.le_refl _) hid1) hid3') ⟨rfl, .inl ⟨hT, rfl⟩⟩
  · obtain ⟨pl, hH, -⟩ := hT.hang
    simp -implicitDefEqProofs (maxSteps := 1000000) (disch := omega) only [↓xsP, ↓vc_seq, xsQ, xsT, xsR, xsD, ↓reduceIte, reduceCtorEq, eq_self, ne_eq, imp_self, forall_const, Nat.reduceEqDiff, Nat.reduceAdd, Nat.reduceSub, Nat.reduceMul, Nat.reduceLT, Nat.reduceLeDiff, Nat.reduceBEq, Nat.reduceDiv, Nat.reduceMod, Int.reduceToNat, Int.reduceNeg, Int.reduceAdd, Int.reduceSub, Int.reduceMul, Int.reduceEq, Int.reduceNe, Int.reduceLT, Int.reduceLE, Int.reduceGT, Int.reduceGE, trA]
    refine newI_intro fun id3 hid3 => ?_
    obtain ⟨k13, hid3'⟩ := bnd_new hid3
    simp -implicitDefEqProofs (maxSteps := 1000000) (disch := omega) only [↓xsP, ↓vc_seq, xsQ, xsT, xsR, xsD, ↓reduceIte, reduceCtorEq, eq_self, ne_eq, imp_self, forall_const, Nat.reduceEqDiff, Nat.reduceAdd, Nat.reduceSub, Nat.reduceMul, Nat.reduceLT, Nat.reduceLeDiff, Nat.reduceBEq, Nat.reduceDiv, Nat.reduceMod, Int.reduceToNat, Int.reduceNeg, Int.reduceAdd, Int.reduceSub, Int.reduceMul, Int.reduceEq, Int.reduceNe, Int.reduceLT, Int.reduceLE, Int.reduceGT, Int.reduceGE, trA]
    refine call_of (rdeep_spec0 root ns hH (by have := hT.sz; omega) _) ?_
    simp -implicitDefEqProofs (maxSteps := 1000000) (disch := omega) only [↓xsP, ↓vc_seq, xsQ, xsT, xsR, xsD, ↓reduceIte, reduceCtorEq, eq_self, ne_eq, imp_self, forall_const, Nat.reduceEqDiff, Nat.reduceAdd, Nat.reduceSub, Nat.reduceMul, Nat.reduceLT, Nat.reduceLeDiff, Nat.reduceBEq, Nat.reduceDiv, Nat.reduceMod, Int.reduceToNat, Int.reduceNeg, Int.reduceAdd, Int.reduceSub, Int.reduceMul, Int.reduceEq, Int.reduceNe, Int.reduceLT, Int.reduceLE, Int.reduceGT, Int.reduceGE, trA]
    exact fin_ok (le_new (le_new (Mem.le_refl _) hid1) hid3') ⟨rfl, .inr ⟨T, hT, rfl⟩⟩
end Go.X
set_option linter.unusedVariables false
set_option linter.unusedSimpArgs false
set_option maxHeartbeats 20000000
set_option maxRecDepth 100000
namespace Go.X
open Go.Proofs.Tryd (prog)

theorem leaf_keys {T : Tr} (h : T.isLeaf = true) : T.keys = [] := by cases T with | leaf _ _ => rfl | fork _ _ _ => cases h
theorem srcRows_own {M : Mem} {t e : TypeId} {te : TI} {id n : Nat} {rows : List (List Lf)} (hM : M id = some (.cells e rows 0)) (hn : n = rows.length) : srcRows Go.Proofs.Tryd.prog M t t e te (.l (.ms id 0 n)) = some rows := by
  subst hn
  unfold srcRows
  rw [if_pos rfl]
  simp only [hM]
  rw [if_pos ⟨trivial, by simp⟩]
  simp
theorem srcRows_nil {M : Mem} {t e : TypeId} {te : TI} : srcRows Go.Proofs.Tryd.prog M t t e te (.l .nils) = some [] := by
  unfold srcRows
  rw [if_pos rfl]
theorem rkeys_spec0 (root : Int) (ns : List Nd) : ∀ {a : Int} {T : Tr} {pl : List Nat}, Hang ns a T pl → T.size ≤ 100000 → ∀ (M : Mem),
    XCalls Go.Proofs.Tryd.prog 29 [trA root ns, .l (.int .i64 a)] M fun r M' =>
      (T.isLeaf = true → r = .l .nils ∧ M' = M) ∧ (T.isLeaf = false → ∃ id', (∀ j, id' ≤ j → M j = none) ∧ r = .l (.ms id' 0 T.keys.length) ∧ M' = M.set id' (.cells 3 (T.keys.map irow) 0)) := by
  intro a T pl h
  induction h with
  | @leaf i ps st hi h =>
    intro hs M
    refine xcalls_intro (rs := [.tmp 4]) Go.Proofs.Tryd.func29 rfl (by kernel_rfl) rfl rfl (by kernel_rfl) (by simp) ?_
    simp -implicitDefEqProofs (maxSteps := 1000000) (disch := omega) only [↓xsP, ↓vc_seq, xsQ, xsT, xsR, xsD, ↓reduceIte, reduceCtorEq, eq_self, ne_eq, imp_self, forall_const, Nat.reduceEqDiff, Nat.reduceAdd, Nat.reduceSub, Nat.reduceMul, Nat.reduceLT, Nat.reduceLeDiff, Nat.reduceBEq, Nat.reduceDiv, Nat.reduceMod, Int.reduceToNat, Int.reduceNeg, Int.reduceAdd, Int.reduceSub, Int.reduceMul, Int.reduceEq, Int.reduceNe, Int.reduceLT, Int.reduceLE, Int.reduceGT, Int.reduceGE, trA]
    refine newI_intro fun id3 hid3 => ?_
    simp -implicitDefEqProofs (maxSteps := 1000000) (disch := omega) only [↓xsP, ↓vc_seq, xsQ, xsT, xsR, xsD, ↓reduceIte, reduceCtorEq, eq_self, ne_eq, imp_self, forall_const, Nat.reduceEqDiff, Nat.reduceAdd, Nat.reduceSub, Nat.reduceMul, Nat.reduceLT, Nat.reduceLeDiff, Nat.reduceBEq, Nat.reduceDiv, Nat.reduceMod, Int.reduceToNat, Int.reduceNeg, Int.reduceAdd, Int.reduceSub, Int.reduceMul, Int.reduceEq, Int.reduceNe, Int.reduceLT, Int.reduceLE, Int.reduceGT, Int.reduceGE, h]
    refine newI_intro fun id7 hid7 => ?_
    obtain ⟨k37, hid7'⟩ := bnd_new hid7
    have hro : (leafN ps st).route = false := rfl
    simp -implicitDefEqProofs (maxSteps := 1000000) (disch := omega) only [↓xsP, ↓vc_seq, xsQ, xsT, xsR, xsD, ↓reduceIte, reduceCtorEq, eq_self, ne_eq, imp_self, forall_const, Nat.reduceEqDiff, Nat.reduceAdd, Nat.reduceSub, Nat.reduceMul, Nat.reduceLT, Nat.reduceLeDiff, Nat.reduceBEq, Nat.reduceDiv, Nat.reduceMod, Int.reduceToNat, Int.reduceNeg, Int.reduceAdd, Int.reduceSub, Int.reduceMul, Int.reduceEq, Int.reduceNe, Int.reduceLT, Int.reduceLE, Int.reduceGT, Int.reduceGE, h, hro]
    refine fin_ok (fun k bk hk => ?_) ⟨fun _ => ⟨rfl, rfl⟩, fun h => by cases h⟩
    have := lt_of_bnd hid3 hk
    simp (disch := omega) only [Mem.set_ne, hk]
  | @fork i k l r L R pl pr hi h hL hR ihl ihr =>
    intro hs M
    simp only [Tr.size] at hs
    have h1 := ihl (by omega)
    have h2 := ihr (by omega)
    have s1 := L.keys_size
    have s2 := R.keys_size
    refine xcalls_intro (rs := [.tmp 4]) Go.Proofs.Tryd.func29 rfl (by kernel_rfl) rfl rfl (by kernel_rfl) (by simp) ?_
    simp -implicitDefEqProofs (maxSteps := 1000000) (disch := omega) only [↓xsP, ↓vc_seq, xsQ, xsT, xsR, xsD, ↓reduceIte, reduceCtorEq, eq_self, ne_eq, imp_self, forall_const, Nat.reduceEqDiff, Nat.reduceAdd, Nat.reduceSub, Nat.reduceMul, Nat.reduceLT, Nat.reduceLeDiff, Nat.reduceBEq, Nat.reduceDiv, Nat.reduceMod, Int.reduceToNat, Int.reduceNeg, Int.reduceAdd, Int.reduceSub, Int.reduceMul, Int.reduceEq, Int.reduceNe, Int.reduceLT, Int.reduceLE, Int.reduceGT, Int.reduceGE, trA]
    refine newI_intro fun id3 hid3 => ?_
    simp -implicitDefEqProofs (maxSteps := 1000000) (disch := omega) only [↓xsP, ↓vc_seq, xsQ, xsT, xsR, xsD, ↓reduceIte, reduceCtorEq, eq_self, ne_eq, imp_self, forall_const, Nat.reduceEqDiff, Nat.reduceAdd, Nat.reduceSub, Nat.reduceMul, Nat.reduceLT, Nat.reduceLeDiff, Nat.reduceBEq, Nat.reduceDiv, Nat.reduceMod, Int.reduceToNat, Int.reduceNeg, Int.reduceAdd, Int.reduceSub, Int.reduceMul, Int.reduceEq, Int.reduceNe, Int.reduceLT, Int.reduceLE, Int.reduceGT, Int.reduceGE, h]
    refine newI_intro fun id7 hid7 => ?_
    obtain ⟨k37, hid7'⟩ := bnd_new hid7
    have hro : (forkN k l r).route = true := rfl
    simp -implicitDefEqProofs (maxSteps := 1000000) (disch := omega) only [↓xsP, ↓vc_seq, xsQ, xsT, xsR, xsD, ↓reduceIte, reduceCtorEq, eq_self, ne_eq, imp_self, forall_const, Nat.reduceEqDiff, Nat.reduceAdd, Nat.reduceSub, Nat.reduceMul, Nat.reduceLT, Nat.reduceLeDiff, Nat.reduceBEq, Nat.reduceDiv, Nat.reduceMod, Int.reduceToNat, Int.reduceNeg, Int.reduceAdd, Int.reduceSub, Int.reduceMul, Int.reduceEq, Int.reduceNe, Int.reduceLT, Int.reduceLE, Int.reduceGT, Int.reduceGE, h, hro]
    generalize hN : (M.set id3 (.cells 24 [[.int .i64 root, .sl (ns.map Nd.row)]] 0)).set id7 _ = N
    have hN3 : N id3 = some (.cells 24 [[.int .i64 root, .sl (ns.map Nd.row)]] 0) := by rw [← hN, Mem.set_ne _ _ _ _ (by omega), Mem.set_eq]
    have hN7 : N id7 = some (.cells 46 [[.bool true, .int .i64 (forkN k l r).key, .int .i64 (forkN k l r).left, .int .i64 (forkN k l r).right, .sl ((forkN k l r).pairs.map Pr.row), .int .i64 (forkN k l r).stat]] 0) := by rw [← hN, Mem.set_eq]
    have hMN : ∀ k bk, M k = some bk → k < id3 ∧ N k = some bk := fun k bk hk => by
      have := lt_of_bnd hid3 hk
      refine ⟨this, ?_⟩
      rw [← hN, Mem.set_ne _ _ _ _ (by omega), Mem.set_ne _ _ _ _ (by omega)]
      exact hk
    have hNM : ∀ j, N j = none → M j = none := fun j hj => by
      cases hm : M j with
      | none => rfl
      | some bk => rw [(hMN _ _ hm).2] at hj; cases hj
    have hle : (forkN k l r).left = l := rfl
    have hri : (forkN k l r).right = r := rfl
    have hke : (forkN k l r).key = k := rfl
    clear hN hid7
    refine xwrite (fun n0 => [ (7, n0 + 3), (12, n0 + 7)]) [7, 12] [3, 6, 7, 11, 12] [[], [], [], [], [3], [3], [3], [], [7, 3, 6], [7, 3, 6], [7, 3, 6], [], [], []] (by kernel_rfl) (by kernel_rfl) (by kernel_rfl) (by kernel_rfl) (fun n0 hn0 => ⟨rfl, ?_, ?_⟩)
    · exact TOk_cons (.inr ⟨3, by decide, ⟨by decide, by decide⟩, rfl⟩) (TOk_cons (.inr ⟨7, by decide, ⟨by decide, by decide⟩, rfl⟩) (TOk_nil _ _))
    have z3 := lt_of_bnd hn0 hN3
    have z7 := lt_of_bnd hn0 hN7
    simp -implicitDefEqProofs (maxSteps := 1000000) (disch := omega) only [↓xsP, ↓vc_seq, xsQ, xsT, xsR, xsD, ↓reduceIte, reduceCtorEq, eq_self, ne_eq, imp_self, forall_const, Nat.reduceEqDiff, Nat.reduceAdd, Nat.reduceSub, Nat.reduceMul, Nat.reduceLT, Nat.reduceLeDiff, Nat.reduceBEq, Nat.reduceDiv, Nat.reduceMod, Int.reduceToNat, Int.reduceNeg, Int.reduceAdd, Int.reduceSub, Int.reduceMul, Int.reduceEq, Int.reduceNe, Int.reduceLT, Int.reduceLE, Int.reduceGT, Int.reduceGE, hN3, hN7, hle, hri]
    obtain ⟨Z, hZ⟩ : ∃ Z : List (List Lf), L.keys.map irow ++ [[.int .i64 k]] = Z := ⟨_, rfl⟩
    have hZl : Z.length = L.keys.length + 1 := by rw [← hZ]; simp
    cases hLl : L.isLeaf <;> cases hRl : R.isLeaf
    · -- L fork, R fork
      refine wcall_new (L.keys.length) (.cells 3 (L.keys.map irow) 0) [] (fun M' hle => (h1 M').mono ?_) ?_
      · rintro r' M2 ⟨-, hr⟩
        obtain ⟨id', hid', rfl, rfl⟩ := hr hLl
        exact ⟨id', hid', rfl, Mem.le_refl _⟩
      simp -implicitDefEqProofs (maxSteps := 1000000) (disch := omega) only [↓xsP, ↓vc_seq, xsQ, xsT, xsR, xsD, ↓reduceIte, reduceCtorEq, eq_self, ne_eq, imp_self, forall_const, Nat.reduceEqDiff, Nat.reduceAdd, Nat.reduceSub, Nat.reduceMul, Nat.reduceLT, Nat.reduceLeDiff, Nat.reduceBEq, Nat.reduceDiv, Nat.reduceMod, Int.reduceToNat, Int.reduceNeg, Int.reduceAdd, Int.reduceSub, Int.reduceMul, Int.reduceEq, Int.reduceNe, Int.reduceLT, Int.reduceLE, Int.reduceGT, Int.reduceGE, hN3, hN7, hle, hri, hke]
      refine ⟨.inl (by decide), ?_⟩
      refine ⟨.inl (by decide), ?_⟩
      refine wapp_ms _ _ _ _ _ 3 _ _ ti_30 rfl ti_3 (by kernel_rfl) (by decide) (n0 + 3) (L.keys.length) _ (rows := L.keys.map irow) (keep := 0) [[.int .i64 k]] (by simp (disch := omega) only [Mem.set_ne, Mem.set_eq]) (by unfold srcRows; rw [if_pos rfl]; simp only [Mem.set_eq]; rfl) (by simp) (Nat.zero_le _) (by show (L.keys.length + 1) * 8 ≤ _; omega) (by show L.keys.length + 1 ≤ _; omega) ?_
      rw [List.take_of_length_le (by simp)]
      rw [hZ]
      simp -implicitDefEqProofs (maxSteps := 1000000) (disch := omega) only [↓xsP, ↓vc_seq, xsQ, xsT, xsR, xsD, ↓reduceIte, reduceCtorEq, eq_self, ne_eq, imp_self, forall_const, Nat.reduceEqDiff, Nat.reduceAdd, Nat.reduceSub, Nat.reduceMul, Nat.reduceLT, Nat.reduceLeDiff, Nat.reduceBEq, Nat.reduceDiv, Nat.reduceMod, Int.reduceToNat, Int.reduceNeg, Int.reduceAdd, Int.reduceSub, Int.reduceMul, Int.reduceEq, Int.reduceNe, Int.reduceLT, Int.reduceLE, Int.reduceGT, Int.reduceGE, hN3, hN7, hle, hri, hke]
      refine ⟨.inl (by decide), ?_⟩
      refine wcall_new (R.keys.length) (.cells 3 (R.keys.map irow) 0) [] (fun M' hle => (h2 M').mono ?_) ?_
      · rintro r' M2 ⟨-, hr⟩
        obtain ⟨id', hid', rfl, rfl⟩ := hr hRl
        exact ⟨id', hid', rfl, Mem.le_refl _⟩
      simp -implicitDefEqProofs (maxSteps := 1000000) (disch := omega) only [↓xsP, ↓vc_seq, xsQ, xsT, xsR, xsD, ↓reduceIte, reduceCtorEq, eq_self, ne_eq, imp_self, forall_const, Nat.reduceEqDiff, Nat.reduceAdd, Nat.reduceSub, Nat.reduceMul, Nat.reduceLT, Nat.reduceLeDiff, Nat.reduceBEq, Nat.reduceDiv, Nat.reduceMod, Int.reduceToNat, Int.reduceNeg, Int.reduceAdd, Int.reduceSub, Int.reduceMul, Int.reduceEq, Int.reduceNe, Int.reduceLT, Int.reduceLE, Int.reduceGT, Int.reduceGE, hN3, hN7, hle, hri, hke]
      refine ⟨.inl (by decide), ?_⟩
      refine wapp_ms _ _ _ _ _ 3 _ _ ti_30 rfl ti_3 (by kernel_rfl) (by decide) (n0 + 7) (L.keys.length + 1) _ (rows := Z) (keep := 0) (R.keys.map irow) (by simp (disch := omega) only [Mem.set_ne, Mem.set_eq]) (srcRows_own (by simp (disch := omega) only [Mem.set_ne, Mem.set_eq]) (by rw [List.length_map])) (by omega) (Nat.zero_le _) ?_ ?_ ?_
      · simp only [List.length_map, List.length_nil]; show _ * 8 ≤ _; omega
      · simp only [List.length_map, List.length_nil]; omega
      simp -implicitDefEqProofs (maxSteps := 1000000) (disch := omega) only [↓xsP, ↓vc_seq, xsQ, xsT, xsR, xsD, ↓reduceIte, reduceCtorEq, eq_self, ne_eq, imp_self, forall_const, Nat.reduceEqDiff, Nat.reduceAdd, Nat.reduceSub, Nat.reduceMul, Nat.reduceLT, Nat.reduceLeDiff, Nat.reduceBEq, Nat.reduceDiv, Nat.reduceMod, Int.reduceToNat, Int.reduceNeg, Int.reduceAdd, Int.reduceSub, Int.reduceMul, Int.reduceEq, Int.reduceNe, Int.reduceLT, Int.reduceLE, Int.reduceGT, Int.reduceGE, hN3, hN7, hle, hri, hke]
      have hrow : (Z.take (L.keys.length + 1) ++ R.keys.map irow : List (List Lf)) = (Tr.fork k L R).keys.map irow := by rw [List.take_of_length_le (by omega), ← hZ]; simp [Tr.keys, irow]
      rw [hrow]
      refine ⟨.inl (by decide), fin_ok (fun j bk hj => ?_) ⟨fun h => (by cases h), fun _ => ⟨n0 + 12, fun j hj => hNM _ (hn0 j (by omega)), ?_, rfl⟩⟩⟩
      · rw [Mem.set_app] at hj ⊢
        split at hj
        · rename_i e
          rw [if_pos e]
          exact hj
        · rename_i e
          obtain ⟨b1, b2⟩ := hMN _ _ hj
          rw [if_neg e]
          simp (disch := omega) only [Mem.set_ne, Mem.del_ne, b2]
      · refine congrArg (fun n => AV.l (.ms (n0 + 12) 0 n)) ?_
        simp only [Tr.keys, List.length_append, List.length_cons]
        omega
    · -- L fork, R leaf
      refine wcall_new (L.keys.length) (.cells 3 (L.keys.map irow) 0) [] (fun M' hle => (h1 M').mono ?_) ?_
      · rintro r' M2 ⟨-, hr⟩
        obtain ⟨id', hid', rfl, rfl⟩ := hr hLl
        exact ⟨id', hid', rfl, Mem.le_refl _⟩
      simp -implicitDefEqProofs (maxSteps := 1000000) (disch := omega) only [↓xsP, ↓vc_seq, xsQ, xsT, xsR, xsD, ↓reduceIte, reduceCtorEq, eq_self, ne_eq, imp_self, forall_const, Nat.reduceEqDiff, Nat.reduceAdd, Nat.reduceSub, Nat.reduceMul, Nat.reduceLT, Nat.reduceLeDiff, Nat.reduceBEq, Nat.reduceDiv, Nat.reduceMod, Int.reduceToNat, Int.reduceNeg, Int.reduceAdd, Int.reduceSub, Int.reduceMul, Int.reduceEq, Int.reduceNe, Int.reduceLT, Int.reduceLE, Int.reduceGT, Int.reduceGE, hN3, hN7, hle, hri, hke]
      refine ⟨.inl (by decide), ?_⟩
      refine ⟨.inl (by decide), ?_⟩
      refine wapp_ms _ _ _ _ _ 3 _ _ ti_30 rfl ti_3 (by kernel_rfl) (by decide) (n0 + 3) (L.keys.length) _ (rows := L.keys.map irow) (keep := 0) [[.int .i64 k]] (by simp (disch := omega) only [Mem.set_ne, Mem.set_eq]) (by unfold srcRows; rw [if_pos rfl]; simp only [Mem.set_eq]; rfl) (by simp) (Nat.zero_le _) (by show (L.keys.length + 1) * 8 ≤ _; omega) (by show L.keys.length + 1 ≤ _; omega) ?_
      rw [List.take_of_length_le (by simp)]
      rw [hZ]
      simp -implicitDefEqProofs (maxSteps := 1000000) (disch := omega) only [↓xsP, ↓vc_seq, xsQ, xsT, xsR, xsD, ↓reduceIte, reduceCtorEq, eq_self, ne_eq, imp_self, forall_const, Nat.reduceEqDiff, Nat.reduceAdd, Nat.reduceSub, Nat.reduceMul, Nat.reduceLT, Nat.reduceLeDiff, Nat.reduceBEq, Nat.reduceDiv, Nat.reduceMod, Int.reduceToNat, Int.reduceNeg, Int.reduceAdd, Int.reduceSub, Int.reduceMul, Int.reduceEq, Int.reduceNe, Int.reduceLT, Int.reduceLE, Int.reduceGT, Int.reduceGE, hN3, hN7, hle, hri, hke]
      refine ⟨.inl (by decide), ?_⟩
      refine wcallI_of (fun M' _ => (h2 M').mono fun r' M2 hr => hr.1 hRl) ?_
      simp -implicitDefEqProofs (maxSteps := 1000000) (disch := omega) only [↓xsP, ↓vc_seq, xsQ, xsT, xsR, xsD, ↓reduceIte, reduceCtorEq, eq_self, ne_eq, imp_self, forall_const, Nat.reduceEqDiff, Nat.reduceAdd, Nat.reduceSub, Nat.reduceMul, Nat.reduceLT, Nat.reduceLeDiff, Nat.reduceBEq, Nat.reduceDiv, Nat.reduceMod, Int.reduceToNat, Int.reduceNeg, Int.reduceAdd, Int.reduceSub, Int.reduceMul, Int.reduceEq, Int.reduceNe, Int.reduceLT, Int.reduceLE, Int.reduceGT, Int.reduceGE, hN3, hN7, hle, hri, hke]
      refine wapp_ms _ _ _ _ _ 3 _ _ ti_30 rfl ti_3 (by kernel_rfl) (by decide) (n0 + 7) (L.keys.length + 1) _ (rows := Z) (keep := 0) [] (by simp (disch := omega) only [Mem.set_ne, Mem.set_eq]) srcRows_nil (by omega) (Nat.zero_le _) ?_ ?_ ?_
      · simp only [List.length_map, List.length_nil]; show _ * 8 ≤ _; omega
      · simp only [List.length_map, List.length_nil]; omega
      simp -implicitDefEqProofs (maxSteps := 1000000) (disch := omega) only [↓xsP, ↓vc_seq, xsQ, xsT, xsR, xsD, ↓reduceIte, reduceCtorEq, eq_self, ne_eq, imp_self, forall_const, Nat.reduceEqDiff, Nat.reduceAdd, Nat.reduceSub, Nat.reduceMul, Nat.reduceLT, Nat.reduceLeDiff, Nat.reduceBEq, Nat.reduceDiv, Nat.reduceMod, Int.reduceToNat, Int.reduceNeg, Int.reduceAdd, Int.reduceSub, Int.reduceMul, Int.reduceEq, Int.reduceNe, Int.reduceLT, Int.reduceLE, Int.reduceGT, Int.reduceGE, hN3, hN7, hle, hri, hke]
      have hrow : (Z.take (L.keys.length + 1) : List (List Lf)) = (Tr.fork k L R).keys.map irow := by rw [List.take_of_length_le (by omega), ← hZ]; simp [Tr.keys, irow, leaf_keys hRl]
      rw [hrow]
      have hzr : R.keys.length = 0 := by rw [leaf_keys hRl]; rfl
      refine ⟨.inl (by decide), fin_ok (fun j bk hj => ?_) ⟨fun h => (by cases h), fun _ => ⟨n0 + 12, fun j hj => hNM _ (hn0 j (by omega)), ?_, rfl⟩⟩⟩
      · rw [Mem.set_app] at hj ⊢
        split at hj
        · rename_i e
          rw [if_pos e]
          exact hj
        · rename_i e
          obtain ⟨b1, b2⟩ := hMN _ _ hj
          rw [if_neg e]
          simp (disch := omega) only [Mem.set_ne, Mem.del_ne, b2]
      · refine congrArg (fun n => AV.l (.ms (n0 + 12) 0 n)) ?_
        simp only [Tr.keys, List.length_append, List.length_cons]
        omega
    · -- L leaf, R fork
      refine wcallI_of (fun M' _ => (h1 M').mono fun r' M2 hr => hr.1 hLl) ?_
      simp -implicitDefEqProofs (maxSteps := 1000000) (disch := omega) only [↓xsP, ↓vc_seq, xsQ, xsT, xsR, xsD, ↓reduceIte, reduceCtorEq, eq_self, ne_eq, imp_self, forall_const, Nat.reduceEqDiff, Nat.reduceAdd, Nat.reduceSub, Nat.reduceMul, Nat.reduceLT, Nat.reduceLeDiff, Nat.reduceBEq, Nat.reduceDiv, Nat.reduceMod, Int.reduceToNat, Int.reduceNeg, Int.reduceAdd, Int.reduceSub, Int.reduceMul, Int.reduceEq, Int.reduceNe, Int.reduceLT, Int.reduceLE, Int.reduceGT, Int.reduceGE, hN3, hN7, hle, hri, hke]
      refine ⟨.inl (by decide), ?_⟩
      refine wapp_sb ti_30 rfl ti_3 (by kernel_rfl) (by decide) (by decide) SB.nil (bs := [[.int .i64 k]]) (by unfold srcRows; rw [if_pos rfl]; simp only [Mem.set_eq]; rfl) (by simp) (by simp) ?_
      simp only [dl, List.map_nil, List.map_cons, List.nil_append, List.cons_append]
      have hk0 := leaf_keys hLl
      simp -implicitDefEqProofs (maxSteps := 1000000) (disch := omega) only [↓xsP, ↓vc_seq, xsQ, xsT, xsR, xsD, ↓reduceIte, reduceCtorEq, eq_self, ne_eq, imp_self, forall_const, Nat.reduceEqDiff, Nat.reduceAdd, Nat.reduceSub, Nat.reduceMul, Nat.reduceLT, Nat.reduceLeDiff, Nat.reduceBEq, Nat.reduceDiv, Nat.reduceMod, Int.reduceToNat, Int.reduceNeg, Int.reduceAdd, Int.reduceSub, Int.reduceMul, Int.reduceEq, Int.reduceNe, Int.reduceLT, Int.reduceLE, Int.reduceGT, Int.reduceGE, hN3, hN7, hle, hri, hke]
      refine ⟨.inl (by decide), ?_⟩
      refine wcall_new (R.keys.length) (.cells 3 (R.keys.map irow) 0) [] (fun M' hle => (h2 M').mono ?_) ?_
      · rintro r' M2 ⟨-, hr⟩
        obtain ⟨id', hid', rfl, rfl⟩ := hr hRl
        exact ⟨id', hid', rfl, Mem.le_refl _⟩
      simp -implicitDefEqProofs (maxSteps := 1000000) (disch := omega) only [↓xsP, ↓vc_seq, xsQ, xsT, xsR, xsD, ↓reduceIte, reduceCtorEq, eq_self, ne_eq, imp_self, forall_const, Nat.reduceEqDiff, Nat.reduceAdd, Nat.reduceSub, Nat.reduceMul, Nat.reduceLT, Nat.reduceLeDiff, Nat.reduceBEq, Nat.reduceDiv, Nat.reduceMod, Int.reduceToNat, Int.reduceNeg, Int.reduceAdd, Int.reduceSub, Int.reduceMul, Int.reduceEq, Int.reduceNe, Int.reduceLT, Int.reduceLE, Int.reduceGT, Int.reduceGE, hN3, hN7, hle, hri, hke]
      refine ⟨.inl (by decide), ?_⟩
      refine wapp_ms _ _ _ _ _ 3 _ _ ti_30 rfl ti_3 (by kernel_rfl) (by decide) (n0 + 7) 1 _ (rows := [[.int .i64 k]]) (keep := 0) (R.keys.map irow) (by simp (disch := omega) only [Mem.set_ne, Mem.set_eq]) (srcRows_own (by simp (disch := omega) only [Mem.set_ne, Mem.set_eq]) (by rw [List.length_map])) (Nat.le_refl _) (Nat.zero_le _) ?_ ?_ ?_
      · simp only [List.length_map, List.length_nil]; show _ * 8 ≤ _; omega
      · simp only [List.length_map, List.length_nil]; omega
      simp -implicitDefEqProofs (maxSteps := 1000000) (disch := omega) only [↓xsP, ↓vc_seq, xsQ, xsT, xsR, xsD, ↓reduceIte, reduceCtorEq, eq_self, ne_eq, imp_self, forall_const, Nat.reduceEqDiff, Nat.reduceAdd, Nat.reduceSub, Nat.reduceMul, Nat.reduceLT, Nat.reduceLeDiff, Nat.reduceBEq, Nat.reduceDiv, Nat.reduceMod, Int.reduceToNat, Int.reduceNeg, Int.reduceAdd, Int.reduceSub, Int.reduceMul, Int.reduceEq, Int.reduceNe, Int.reduceLT, Int.reduceLE, Int.reduceGT, Int.reduceGE, hN3, hN7, hle, hri, hke]
      have hrow : ([.int .i64 k] :: R.keys.map irow : List (List Lf)) = (Tr.fork k L R).keys.map irow := by simp [Tr.keys, irow, leaf_keys hLl]
      rw [hrow]
      have hzl : L.keys.length = 0 := by rw [leaf_keys hLl]; rfl
      refine ⟨.inl (by decide), fin_ok (fun j bk hj => ?_) ⟨fun h => (by cases h), fun _ => ⟨n0 + 12, fun j hj => hNM _ (hn0 j (by omega)), ?_, rfl⟩⟩⟩
      · rw [Mem.set_app] at hj ⊢
        split at hj
        · rename_i e
          rw [if_pos e]
          exact hj
        · rename_i e
          obtain ⟨b1, b2⟩ := hMN _ _ hj
          rw [if_neg e]
          simp (disch := omega) only [Mem.set_ne, Mem.del_ne, b2]
      · refine congrArg (fun n => AV.l (.ms (n0 + 12) 0 n)) ?_
        simp only [Tr.keys, List.length_append, List.length_cons]
        omega
    · -- L leaf, R leaf
      refine wcallI_of (fun M' _ => (h1 M').mono fun r' M2 hr => hr.1 hLl) ?_
      simp -implicitDefEqProofs (maxSteps := 1000000) (disch := omega) only [↓xsP, ↓vc_seq, xsQ, xsT, xsR, xsD, ↓reduceIte, reduceCtorEq, eq_self, ne_eq, imp_self, forall_const, Nat.reduceEqDiff, Nat.reduceAdd, Nat.reduceSub, Nat.reduceMul, Nat.reduceLT, Nat.reduceLeDiff, Nat.reduceBEq, Nat.reduceDiv, Nat.reduceMod, Int.reduceToNat, Int.reduceNeg, Int.reduceAdd, Int.reduceSub, Int.reduceMul, Int.reduceEq, Int.reduceNe, Int.reduceLT, Int.reduceLE, Int.reduceGT, Int.reduceGE, hN3, hN7, hle, hri, hke]
      refine ⟨.inl (by decide), ?_⟩
      refine wapp_sb ti_30 rfl ti_3 (by kernel_rfl) (by decide) (by decide) SB.nil (bs := [[.int .i64 k]]) (by unfold srcRows; rw [if_pos rfl]; simp only [Mem.set_eq]; rfl) (by simp) (by simp) ?_
      simp only [dl, List.map_nil, List.map_cons, List.nil_append, List.cons_append]
      have hk0 := leaf_keys hLl
      simp -implicitDefEqProofs (maxSteps := 1000000) (disch := omega) only [↓xsP, ↓vc_seq, xsQ, xsT, xsR, xsD, ↓reduceIte, reduceCtorEq, eq_self, ne_eq, imp_self, forall_const, Nat.reduceEqDiff, Nat.reduceAdd, Nat.reduceSub, Nat.reduceMul, Nat.reduceLT, Nat.reduceLeDiff, Nat.reduceBEq, Nat.reduceDiv, Nat.reduceMod, Int.reduceToNat, Int.reduceNeg, Int.reduceAdd, Int.reduceSub, Int.reduceMul, Int.reduceEq, Int.reduceNe, Int.reduceLT, Int.reduceLE, Int.reduceGT, Int.reduceGE, hN3, hN7, hle, hri, hke]
      refine ⟨.inl (by decide), ?_⟩
      refine wcallI_of (fun M' _ => (h2 M').mono fun r' M2 hr => hr.1 hRl) ?_
      simp -implicitDefEqProofs (maxSteps := 1000000) (disch := omega) only [↓xsP, ↓vc_seq, xsQ, xsT, xsR, xsD, ↓reduceIte, reduceCtorEq, eq_self, ne_eq, imp_self, forall_const, Nat.reduceEqDiff, Nat.reduceAdd, Nat.reduceSub, Nat.reduceMul, Nat.reduceLT, Nat.reduceLeDiff, Nat.reduceBEq, Nat.reduceDiv, Nat.reduceMod, Int.reduceToNat, Int.reduceNeg, Int.reduceAdd, Int.reduceSub, Int.reduceMul, Int.reduceEq, Int.reduceNe, Int.reduceLT, Int.reduceLE, Int.reduceGT, Int.reduceGE, hN3, hN7, hle, hri, hke]
      refine wapp_ms _ _ _ _ _ 3 _ _ ti_30 rfl ti_3 (by kernel_rfl) (by decide) (n0 + 7) 1 _ (rows := [[.int .i64 k]]) (keep := 0) [] (by simp (disch := omega) only [Mem.set_ne, Mem.set_eq]) srcRows_nil (Nat.le_refl _) (Nat.zero_le _) ?_ ?_ ?_
      · simp only [List.length_map, List.length_nil]; show _ * 8 ≤ _; omega
      · simp only [List.length_map, List.length_nil]; omega
      simp -implicitDefEqProofs (maxSteps := 1000000) (disch := omega) only [↓xsP, ↓vc_seq, xsQ, xsT, xsR, xsD, ↓reduceIte, reduceCtorEq, eq_self, ne_eq, imp_self, forall_const, Nat.reduceEqDiff, Nat.reduceAdd, Nat.reduceSub, Nat.reduceMul, Nat.reduceLT, Nat.reduceLeDiff, Nat.reduceBEq, Nat.reduceDiv, Nat.reduceMod, Int.reduceToNat, Int.reduceNeg, Int.reduceAdd, Int.reduceSub, Int.reduceMul, Int.reduceEq, Int.reduceNe, Int.reduceLT, Int.reduceLE, Int.reduceGT, Int.reduceGE, hN3, hN7, hle, hri, hke]
      have hrow : ([[.int .i64 k]] : List (List Lf)) = (Tr.fork k L R).keys.map irow := by simp [Tr.keys, irow, leaf_keys hLl, leaf_keys hRl]
      rw [hrow]
      have hzl : L.keys.length = 0 := by rw [leaf_keys hLl]; rfl
      have hzr : R.keys.length = 0 := by rw [leaf_keys hRl]; rfl
      refine ⟨.inl (by decide), fin_ok (fun j bk hj => ?_) ⟨fun h => (by cases h), fun _ => ⟨n0 + 12, fun j hj => hNM _ (hn0 j (by omega)), ?_, rfl⟩⟩⟩
      · rw [Mem.set_app] at hj ⊢
        split at hj
        · rename_i e
          rw [if_pos e]
          exact hj
        · rename_i e
          obtain ⟨b1, b2⟩ := hMN _ _ hj
          rw [if_neg e]
          simp (disch := omega) only [Mem.set_ne, Mem.del_ne, b2]
      · refine congrArg (fun n => AV.l (.ms (n0 + 12) 0 n)) ?_
        simp only [Tr.keys, List.length_append, List.length_cons]
        omega
end Go.X
set_option linter.unusedVariables false
set_option linter.unusedSimpArgs false
set_option maxHeartbeats 20000000
set_option maxRecDepth 100000
namespace Go.X
open Go.Proofs.Tryd (prog)

theorem rkeys_spec (root : Int) (ns : List Nd) (hl : ns.length ≤ 140737488355328) (hp : Pok ns) (M : Mem) :
    XCalls Go.Proofs.Tryd.prog 13 [trA root ns] M fun r M' => M' = M ∧ ((mayT root ns = false ∧ r = .l (.sl [])) ∨ ∃ T, Good root ns T ∧ r = .l (.sl (T.keys.map irow))) := by
  refine xcalls_intro (rs := [.tmp 2]) Go.Proofs.Tryd.func13 rfl (by kernel_rfl) rfl rfl (by kernel_rfl) (by simp) ?_
  simp -implicitDefEqProofs (maxSteps := 1000000) (disch := omega) only [↓xsP, ↓vc_seq, xsQ, xsT, xsR, xsD, ↓reduceIte, reduceCtorEq, eq_self, ne_eq, imp_self, forall_const, Nat.reduceEqDiff, Nat.reduceAdd, Nat.reduceSub, Nat.reduceMul, Nat.reduceLT, Nat.reduceLeDiff, Nat.reduceBEq, Nat.reduceDiv, Nat.reduceMod, Int.reduceToNat, Int.reduceNeg, Int.reduceAdd, Int.reduceSub, Int.reduceMul, Int.reduceEq, Int.reduceNe, Int.reduceLT, Int.reduceLE, Int.reduceGT, Int.reduceGE, trA]
  refine newI_intro fun id1 hid1 => ?_
  simp -implicitDefEqProofs (maxSteps := 1000000) (disch := omega) only [↓xsP, ↓vc_seq, xsQ, xsT, xsR, xsD, ↓reduceIte, reduceCtorEq, eq_self, ne_eq, imp_self, forall_const, Nat.reduceEqDiff, Nat.reduceAdd, Nat.reduceSub, Nat.reduceMul, Nat.reduceLT, Nat.reduceLeDiff, Nat.reduceBEq, Nat.reduceDiv, Nat.reduceMod, Int.reduceToNat, Int.reduceNeg, Int.reduceAdd, Int.reduceSub, Int.reduceMul, Int.reduceEq, Int.reduceNe, Int.reduceLT, Int.reduceLE, Int.reduceGT, Int.reduceGE, trA]
  refine callI_of ((rplain_spec root ns hl hp _).mono ?_)
  rintro _ _ ⟨rfl, (⟨hT, rfl⟩ | ⟨T, hT, rfl⟩)⟩
  · simp -implicitDefEqProofs (maxSteps := 1000000) (disch := omega) only [↓xsP, ↓vc_seq, xsQ, xsT, xsR, xsD, ↓reduceIte, reduceCtorEq, eq_self, ne_eq, imp_self, forall_const, Nat.reduceEqDiff, Nat.reduceAdd, Nat.reduceSub, Nat.reduceMul, Nat.reduceLT, Nat.reduceLeDiff, Nat.reduceBEq, Nat.reduceDiv, Nat.reduceMod, Int.reduceToNat, Int.reduceNeg, Int.reduceAdd, Int.reduceSub, Int.reduceMul, Int.reduceEq, Int.reduceNe, Int.reduceLT, Int.reduceLE, Int.reduceGT, Int.reduceGE, trA]
    refine newI_intro fun id3 hid3 => ?_
    obtain ⟨k13, hid3'⟩ := bnd_new hid3
    simp -implicitDefEqProofs (maxSteps := 1000000) (disch := omega) only [↓xsP, ↓vc_seq, xsQ, xsT, xsR, xsD, ↓reduceIte, reduceCtorEq, eq_self, ne_eq, imp_self, forall_const, Nat.reduceEqDiff, Nat.reduceAdd, Nat.reduceSub, Nat.reduceMul, Nat.reduceLT, Nat.reduceLeDiff, Nat.reduceBEq, Nat.reduceDiv, Nat.reduceMod, Int.reduceToNat, Int.reduceNeg, Int.reduceAdd, Int.reduceSub, Int.reduceMul, Int.reduceEq, Int.reduceNe, Int.reduceLT, Int.reduceLE, Int.reduceGT, Int.reduceGE, trA]
    exact finI_of (XFin.wk (XFin.le (le_new (le_new (Mem.le_refl _) hid1) hid3') ⟨rfl, .inl ⟨hT, rfl⟩⟩))
  · obtain ⟨pl, hH, -⟩ := hT.hang
    simp -implicitDefEqProofs (maxSteps := 1000000) (disch := omega) only [↓xsP, ↓vc_seq, xsQ, xsT, xsR, xsD, ↓reduceIte, reduceCtorEq, eq_self, ne_eq, imp_self, forall_const, Nat.reduceEqDiff, Nat.reduceAdd, Nat.reduceSub, Nat.reduceMul, Nat.reduceLT, Nat.reduceLeDiff, Nat.reduceBEq, Nat.reduceDiv, Nat.reduceMod, Int.reduceToNat, Int.reduceNeg, Int.reduceAdd, Int.reduceSub, Int.reduceMul, Int.reduceEq, Int.reduceNe, Int.reduceLT, Int.reduceLE, Int.reduceGT, Int.reduceGE, trA]
    refine newI_intro fun id3 hid3 => ?_
    obtain ⟨k13, hid3'⟩ := bnd_new hid3
    simp -implicitDefEqProofs (maxSteps := 1000000) (disch := omega) only [↓xsP, ↓vc_seq, xsQ, xsT, xsR, xsD, ↓reduceIte, reduceCtorEq, eq_self, ne_eq, imp_self, forall_const, Nat.reduceEqDiff, Nat.reduceAdd, Nat.reduceSub, Nat.reduceMul, Nat.reduceLT, Nat.reduceLeDiff, Nat.reduceBEq, Nat.reduceDiv, Nat.reduceMod, Int.reduceToNat, Int.reduceNeg, Int.reduceAdd, Int.reduceSub, Int.reduceMul, Int.reduceEq, Int.reduceNe, Int.reduceLT, Int.reduceLE, Int.reduceGT, Int.reduceGE, trA]
    refine callI_of ((rkeys_spec0 root ns hH (by have := hT.sz; omega) _).mono ?_)
    rintro r' M2 ⟨h1, h2⟩
    cases hL : T.isLeaf with
    | true =>
      obtain ⟨rfl, rfl⟩ := h1 hL
      simp -implicitDefEqProofs (maxSteps := 1000000) (disch := omega) only [↓xsP, ↓vc_seq, xsQ, xsT, xsR, xsD, ↓reduceIte, reduceCtorEq, eq_self, ne_eq, imp_self, forall_const, Nat.reduceEqDiff, Nat.reduceAdd, Nat.reduceSub, Nat.reduceMul, Nat.reduceLT, Nat.reduceLeDiff, Nat.reduceBEq, Nat.reduceDiv, Nat.reduceMod, Int.reduceToNat, Int.reduceNeg, Int.reduceAdd, Int.reduceSub, Int.reduceMul, Int.reduceEq, Int.reduceNe, Int.reduceLT, Int.reduceLE, Int.reduceGT, Int.reduceGE]
      refine finI_of (XFin.wk (XFin.le (le_new (le_new (Mem.le_refl _) hid1) hid3') ⟨rfl, .inr ⟨T, hT, ?_⟩⟩))
      rw [leaf_keys hL]
      rfl
    | false =>
      obtain ⟨id2, hid2, rfl, rfl⟩ := h2 hL
      obtain ⟨k32, hid2'⟩ := bnd_new hid2
      simp -implicitDefEqProofs (maxSteps := 1000000) (disch := omega) only [↓xsP, ↓vc_seq, xsQ, xsT, xsR, xsD, ↓reduceIte, reduceCtorEq, eq_self, ne_eq, imp_self, forall_const, Nat.reduceEqDiff, Nat.reduceAdd, Nat.reduceSub, Nat.reduceMul, Nat.reduceLT, Nat.reduceLeDiff, Nat.reduceBEq, Nat.reduceDiv, Nat.reduceMod, Int.reduceToNat, Int.reduceNeg, Int.reduceAdd, Int.reduceSub, Int.reduceMul, Int.reduceEq, Int.reduceNe, Int.reduceLT, Int.reduceLE, Int.reduceGT, Int.reduceGE]
      refine finI_of (XFin.frz id2 (Mem.set_eq _ _ _) (XFin.le (M' := M) (fun k bk hk => ?_) ⟨rfl, .inr ⟨T, hT, ?_⟩⟩))
      · have := lt_of_bnd hid1 hk
        simp (disch := omega) only [Mem.set_ne, hk]
      · simp only [frzA, frz1, frzL, List.length_map, Nat.zero_add, Nat.le_refl, and_self, if_true, List.drop_zero]
        rw [List.take_of_length_le (by rw [List.length_map]; exact Nat.le_refl _)]
theorem add_tx (P : Program) (t : TypeId) (x y : Operand) (a b : List UInt8) (K : AV → Prop) : @binI P .add t x y (.l (txt a)) (.l (txt b)) ⟨K⟩ = (a.length + b.length ≤ 9223372036854775807 ∧ K (.l (txt (a ++ b)))) := by
  rw [txt, txt, add_str0, ba_size, ba_size, ba_app]
  rfl
theorem add_txc (P : Program) (t : TypeId) (x y : Operand) (a : List UInt8) (c : UInt8) (K : AV → Prop) : @binI P .add t x y (.l (txt a)) (.l (.str { data := #[c] })) ⟨K⟩ = (a.length + 1 ≤ 9223372036854775807 ∧ K (.l (txt (a ++ [c])))) := add_tx P t x y a [c] K
theorem add_ctx (P : Program) (t : TypeId) (x y : Operand) (a : List UInt8) (c : UInt8) (K : AV → Prop) : @binI P .add t x y (.l (.str { data := #[c] })) (.l (txt a)) ⟨K⟩ = (1 + a.length ≤ 9223372036854775807 ∧ K (.l (txt (c :: a)))) := add_tx P t x y [c] a K
theorem rtext_spec0 (root : Int) (ns : List Nd) : ∀ {a : Int} {T : Tr} {pl : List Nat}, Hang ns a T pl → T.ints → T.txt.length ≤ 1000000 → ∀ (M : Mem),
    XCalls Go.Proofs.Tryd.prog 32 [trA root ns, .l (.int .i64 a)] M fun r M' => r = .l (txt T.txt) ∧ M' = M := by
  intro a T pl h
  induction h with
  | @leaf i ps st hi h =>
    intro hint hs M
    refine xcalls_intro (rs := [.tmp 4]) Go.Proofs.Tryd.func32 rfl (by kernel_rfl) rfl rfl (by kernel_rfl) (by simp) ?_
    simp -implicitDefEqProofs (maxSteps := 1000000) (disch := omega) only [↓xsP, ↓vc_seq, xsQ, xsT, xsR, xsD, ↓reduceIte, reduceCtorEq, eq_self, ne_eq, imp_self, forall_const, Nat.reduceEqDiff, Nat.reduceAdd, Nat.reduceSub, Nat.reduceMul, Nat.reduceLT, Nat.reduceLeDiff, Nat.reduceBEq, Nat.reduceDiv, Nat.reduceMod, Int.reduceToNat, Int.reduceNeg, Int.reduceAdd, Int.reduceSub, Int.reduceMul, Int.reduceEq, Int.reduceNe, Int.reduceLT, Int.reduceLE, Int.reduceGT, Int.reduceGE, trA]
    refine newI_intro fun id2 hid2 => ?_
    simp -implicitDefEqProofs (maxSteps := 1000000) (disch := omega) only [↓xsP, ↓vc_seq, xsQ, xsT, xsR, xsD, ↓reduceIte, reduceCtorEq, eq_self, ne_eq, imp_self, forall_const, Nat.reduceEqDiff, Nat.reduceAdd, Nat.reduceSub, Nat.reduceMul, Nat.reduceLT, Nat.reduceLeDiff, Nat.reduceBEq, Nat.reduceDiv, Nat.reduceMod, Int.reduceToNat, Int.reduceNeg, Int.reduceAdd, Int.reduceSub, Int.reduceMul, Int.reduceEq, Int.reduceNe, Int.reduceLT, Int.reduceLE, Int.reduceGT, Int.reduceGE, h]
    refine newI_intro fun id5 hid5 => ?_
    obtain ⟨k25, hid5'⟩ := bnd_new hid5
    have hro : (leafN ps st).route = false := rfl
    have hps : (leafN ps st).pairs = ps := rfl
    have hst : (leafN ps st).stat = st := rfl
    simp -implicitDefEqProofs (maxSteps := 1000000) (disch := omega) only [↓xsP, ↓vc_seq, xsQ, xsT, xsR, xsD, ↓reduceIte, reduceCtorEq, eq_self, ne_eq, imp_self, forall_const, Nat.reduceEqDiff, Nat.reduceAdd, Nat.reduceSub, Nat.reduceMul, Nat.reduceLT, Nat.reduceLeDiff, Nat.reduceBEq, Nat.reduceDiv, Nat.reduceMod, Int.reduceToNat, Int.reduceNeg, Int.reduceAdd, Int.reduceSub, Int.reduceMul, Int.reduceEq, Int.reduceNe, Int.reduceLT, Int.reduceLE, Int.reduceGT, Int.reduceGE, h, hro, hps, hst]
    have htl : (Tr.leaf ps st).txt.length = 1 + (prsT ps).length + (1 + (Lib.itoa st).length) + 1 := by
      simp [Tr.txt]
      omega
    rw [htl] at hs
    obtain ⟨hst1, hps1⟩ := hint
    have ist := Lib.itoa_length_le st hst1.1 hst1.2
    obtain ⟨N, hN⟩ : ∃ N, N = (M.set id2 (.cells 24 [[.int .i64 root, .sl (ns.map Nd.row)]] 0)).set id5 (.cells 46 [[.bool false, .int .i64 (leafN ps st).key, .int .i64 (leafN ps st).left, .int .i64 (leafN ps st).right, .sl (ps.map Pr.row), .int .i64 st]] 0) := ⟨_, rfl⟩
    have hMN : M.le N := by rw [hN]; exact le_new (le_new (Mem.le_refl _) hid2) hid5'
    have hN5 : N id5 = some (.cells 46 [[.bool false, .int .i64 (leafN ps st).key, .int .i64 (leafN ps st).left, .int .i64 (leafN ps st).right, .sl (ps.map Pr.row), .int .i64 st]] 0) := by rw [hN, Mem.set_eq]
    rw [← hN]
    clear hN
    refine loopI_of (xloop (by kernel_rfl) (fun k fr M2 => ∃ (j : Nat), j ≤ ps.length ∧ k = ps.length - j ∧ fr 6 = .l (txt (91 :: prsT (ps.take j))) ∧ fr 5 = .l (.ptr id5 0 0) ∧ fr 34 = .l (.sl (ps.map Pr.row)) ∧ fr 35 = .l (.int .i64 ps.length) ∧ fr 36 = .l (.int .i64 j) ∧ M2 = N) ps.length ?_ ?_)
    · exact ⟨0, Nat.zero_le _, rfl, by simp -implicitDefEqProofs (maxSteps := 1000000) (disch := omega) only [↓xsP, ↓vc_seq, xsQ, xsT, xsR, xsD, ↓reduceIte, reduceCtorEq, eq_self, ne_eq, imp_self, forall_const, Nat.reduceEqDiff, Nat.reduceAdd, Nat.reduceSub, Nat.reduceMul, Nat.reduceLT, Nat.reduceLeDiff, Nat.reduceBEq, Nat.reduceDiv, Nat.reduceMod, Int.reduceToNat, Int.reduceNeg, Int.reduceAdd, Int.reduceSub, Int.reduceMul, Int.reduceEq, Int.reduceNe, Int.reduceLT, Int.reduceLE, Int.reduceGT, Int.reduceGE]; rfl, by simp -implicitDefEqProofs (maxSteps := 1000000) (disch := omega) only [↓xsP, ↓vc_seq, xsQ, xsT, xsR, xsD, ↓reduceIte, reduceCtorEq, eq_self, ne_eq, imp_self, forall_const, Nat.reduceEqDiff, Nat.reduceAdd, Nat.reduceSub, Nat.reduceMul, Nat.reduceLT, Nat.reduceLeDiff, Nat.reduceBEq, Nat.reduceDiv, Nat.reduceMod, Int.reduceToNat, Int.reduceNeg, Int.reduceAdd, Int.reduceSub, Int.reduceMul, Int.reduceEq, Int.reduceNe, Int.reduceLT, Int.reduceLE, Int.reduceGT, Int.reduceGE], by simp -implicitDefEqProofs (maxSteps := 1000000) (disch := omega) only [↓xsP, ↓vc_seq, xsQ, xsT, xsR, xsD, ↓reduceIte, reduceCtorEq, eq_self, ne_eq, imp_self, forall_const, Nat.reduceEqDiff, Nat.reduceAdd, Nat.reduceSub, Nat.reduceMul, Nat.reduceLT, Nat.reduceLeDiff, Nat.reduceBEq, Nat.reduceDiv, Nat.reduceMod, Int.reduceToNat, Int.reduceNeg, Int.reduceAdd, Int.reduceSub, Int.reduceMul, Int.reduceEq, Int.reduceNe, Int.reduceLT, Int.reduceLE, Int.reduceGT, Int.reduceGE], by simp -implicitDefEqProofs (maxSteps := 1000000) (disch := omega) only [↓xsP, ↓vc_seq, xsQ, xsT, xsR, xsD, ↓reduceIte, reduceCtorEq, eq_self, ne_eq, imp_self, forall_const, Nat.reduceEqDiff, Nat.reduceAdd, Nat.reduceSub, Nat.reduceMul, Nat.reduceLT, Nat.reduceLeDiff, Nat.reduceBEq, Nat.reduceDiv, Nat.reduceMod, Int.reduceToNat, Int.reduceNeg, Int.reduceAdd, Int.reduceSub, Int.reduceMul, Int.reduceEq, Int.reduceNe, Int.reduceLT, Int.reduceLE, Int.reduceGT, Int.reduceGE], by simp -implicitDefEqProofs (maxSteps := 1000000) (disch := omega) only [↓xsP, ↓vc_seq, xsQ, xsT, xsR, xsD, ↓reduceIte, reduceCtorEq, eq_self, ne_eq, imp_self, forall_const, Nat.reduceEqDiff, Nat.reduceAdd, Nat.reduceSub, Nat.reduceMul, Nat.reduceLT, Nat.reduceLeDiff, Nat.reduceBEq, Nat.reduceDiv, Nat.reduceMod, Int.reduceToNat, Int.reduceNeg, Int.reduceAdd, Int.reduceSub, Int.reduceMul, Int.reduceEq, Int.reduceNe, Int.reduceLT, Int.reduceLE, Int.reduceGT, Int.reduceGE, Int.cast_ofNat_Int], rfl⟩
    rintro k fr M2 ⟨j, hj, rfl, f6, f5, f34, f35, f36, rfl⟩
    have htk := prsT_take_len ps j
    have hge := prsT_ge ps
    simp -implicitDefEqProofs (maxSteps := 1000000) (disch := omega) only [↓xsP, ↓vc_seq, xsQ, xsT, xsR, xsD, ↓reduceIte, reduceCtorEq, eq_self, ne_eq, imp_self, forall_const, Nat.reduceEqDiff, Nat.reduceAdd, Nat.reduceSub, Nat.reduceMul, Nat.reduceLT, Nat.reduceLeDiff, Nat.reduceBEq, Nat.reduceDiv, Nat.reduceMod, Int.reduceToNat, Int.reduceNeg, Int.reduceAdd, Int.reduceSub, Int.reduceMul, Int.reduceEq, Int.reduceNe, Int.reduceLT, Int.reduceLE, Int.reduceGT, Int.reduceGE, f5, f6, f34, f35, f36]
    refine condI_prop (fun hlt => ?_) (fun hlt => ?_)
    · have hjl : j < ps.length := by omega
      obtain ⟨p, hp⟩ : ∃ p, ps.getD j default = p := ⟨_, rfl⟩
      have hpj : ps[j]? = some p := by
        rw [← hp, List.getD_eq_getElem?_getD, List.getElem?_eq_getElem hjl]
        rfl
      have hpm : p ∈ ps := List.mem_of_getElem? hpj
      obtain ⟨hk1, hv1⟩ := hps1 p hpm
      have hts : ps.take (j + 1) = ps.take j ++ [p] := by rw [List.take_add_one, hpj]; rfl
      have htk1 := prsT_take_len ps (j + 1)
      rw [hts, prsT_snoc] at htk1
      have hpt : prT p = Lib.itoa p.key ++ 58 :: Lib.itoa p.val := rfl
      have ik := Lib.itoa_length_le p.key hk1.1 hk1.2
      have iv := Lib.itoa_length_le p.val hv1.1 hv1.2
      have hnil : ps.take j = [] ↔ j = 0 := by
        rw [List.take_eq_nil_iff]
        constructor
        · rintro (h | h)
          · exact h
          · rw [h] at hjl; simp at hjl
        · exact .inl
      simp -implicitDefEqProofs (maxSteps := 1000000) (disch := omega) only [↓xsP, ↓vc_seq, xsQ, xsT, xsR, xsD, ↓reduceIte, reduceCtorEq, eq_self, ne_eq, imp_self, forall_const, Nat.reduceEqDiff, Nat.reduceAdd, Nat.reduceSub, Nat.reduceMul, Nat.reduceLT, Nat.reduceLeDiff, Nat.reduceBEq, Nat.reduceDiv, Nat.reduceMod, Int.reduceToNat, Int.reduceNeg, Int.reduceAdd, Int.reduceSub, Int.reduceMul, Int.reduceEq, Int.reduceNe, Int.reduceLT, Int.reduceLE, Int.reduceGT, Int.reduceGE, f5, f6, f34, f35, f36, hp]
      refine newI_intro fun id8 hid8 => ?_
      have k58 := lt_of_bnd hid8 hN5
      simp -implicitDefEqProofs (maxSteps := 1000000) (disch := omega) only [↓xsP, ↓vc_seq, xsQ, xsT, xsR, xsD, ↓reduceIte, reduceCtorEq, eq_self, ne_eq, imp_self, forall_const, Nat.reduceEqDiff, Nat.reduceAdd, Nat.reduceSub, Nat.reduceMul, Nat.reduceLT, Nat.reduceLeDiff, Nat.reduceBEq, Nat.reduceDiv, Nat.reduceMod, Int.reduceToNat, Int.reduceNeg, Int.reduceAdd, Int.reduceSub, Int.reduceMul, Int.reduceEq, Int.reduceNe, Int.reduceLT, Int.reduceLE, Int.reduceGT, Int.reduceGE, f5, f6, f34, f35, f36, hp]
      by_cases hj0 : j = 0
      · have w0 : decide ((j : Int) > 0) = false := decide_eq_false (by omega)
        simp -implicitDefEqProofs (maxSteps := 1000000) (disch := omega) only [↓xsP, ↓vc_seq, xsQ, xsT, xsR, xsD, ↓reduceIte, reduceCtorEq, eq_self, ne_eq, imp_self, forall_const, Nat.reduceEqDiff, Nat.reduceAdd, Nat.reduceSub, Nat.reduceMul, Nat.reduceLT, Nat.reduceLeDiff, Nat.reduceBEq, Nat.reduceDiv, Nat.reduceMod, Int.reduceToNat, Int.reduceNeg, Int.reduceAdd, Int.reduceSub, Int.reduceMul, Int.reduceEq, Int.reduceNe, Int.reduceLT, Int.reduceLE, Int.reduceGT, Int.reduceGE, f5, f6, f34, f35, f36, hp, w0]
        refine xquiet (by kernel_rfl) (by kernel_rfl) (by kernel_rfl) ?_
        simp -implicitDefEqProofs (maxSteps := 1000000) (disch := omega) only [↓xsP, ↓vc_seq, xsQ, xsT, xsR, xsD, ↓reduceIte, reduceCtorEq, eq_self, ne_eq, imp_self, forall_const, Nat.reduceEqDiff, Nat.reduceAdd, Nat.reduceSub, Nat.reduceMul, Nat.reduceLT, Nat.reduceLeDiff, Nat.reduceBEq, Nat.reduceDiv, Nat.reduceMod, Int.reduceToNat, Int.reduceNeg, Int.reduceAdd, Int.reduceSub, Int.reduceMul, Int.reduceEq, Int.reduceNe, Int.reduceLT, Int.reduceLE, Int.reduceGT, Int.reduceGE, f5, f6, f34, f35, f36, hp]
        refine dcallI_of (itoa_spec p.key hk1.1 hk1.2 _) ?_
        simp -implicitDefEqProofs (maxSteps := 1000000) (disch := omega) only [↓xsP, ↓vc_seq, xsQ, xsT, xsR, xsD, ↓reduceIte, reduceCtorEq, eq_self, ne_eq, imp_self, forall_const, Nat.reduceEqDiff, Nat.reduceAdd, Nat.reduceSub, Nat.reduceMul, Nat.reduceLT, Nat.reduceLeDiff, Nat.reduceBEq, Nat.reduceDiv, Nat.reduceMod, Int.reduceToNat, Int.reduceNeg, Int.reduceAdd, Int.reduceSub, Int.reduceMul, Int.reduceEq, Int.reduceNe, Int.reduceLT, Int.reduceLE, Int.reduceGT, Int.reduceGE, f5, f6, f34, f35, f36, hp, add_tx, add_txc, List.length_append, List.length_cons]
        refine ⟨by omega, ?_⟩
        refine dcallI_of (itoa_spec p.val hv1.1 hv1.2 _) ?_
        simp -implicitDefEqProofs (maxSteps := 1000000) (disch := omega) only [↓xsP, ↓vc_seq, xsQ, xsT, xsR, xsD, ↓reduceIte, reduceCtorEq, eq_self, ne_eq, imp_self, forall_const, Nat.reduceEqDiff, Nat.reduceAdd, Nat.reduceSub, Nat.reduceMul, Nat.reduceLT, Nat.reduceLeDiff, Nat.reduceBEq, Nat.reduceDiv, Nat.reduceMod, Int.reduceToNat, Int.reduceNeg, Int.reduceAdd, Int.reduceSub, Int.reduceMul, Int.reduceEq, Int.reduceNe, Int.reduceLT, Int.reduceLE, Int.reduceGT, Int.reduceGE, f5, f6, f34, f35, f36, hp, add_tx, add_txc, List.length_append, List.length_cons]
        refine ⟨by omega, by omega, ps.length - (j + 1), M2, by omega, le_new (Mem.le_refl _) hid8, j + 1, by omega, rfl, ?_, by simp, rfl⟩
        rw [hts, prsT_snoc, if_pos (hnil.2 hj0)]
        simp [prT]
      · have w0 : decide ((j : Int) > 0) = true := decide_eq_true (by omega)
        simp -implicitDefEqProofs (maxSteps := 1000000) (disch := omega) only [↓xsP, ↓vc_seq, xsQ, xsT, xsR, xsD, ↓reduceIte, reduceCtorEq, eq_self, ne_eq, imp_self, forall_const, Nat.reduceEqDiff, Nat.reduceAdd, Nat.reduceSub, Nat.reduceMul, Nat.reduceLT, Nat.reduceLeDiff, Nat.reduceBEq, Nat.reduceDiv, Nat.reduceMod, Int.reduceToNat, Int.reduceNeg, Int.reduceAdd, Int.reduceSub, Int.reduceMul, Int.reduceEq, Int.reduceNe, Int.reduceLT, Int.reduceLE, Int.reduceGT, Int.reduceGE, f5, f6, f34, f35, f36, hp, w0]
        simp -implicitDefEqProofs (maxSteps := 1000000) (disch := omega) only [↓xsP, ↓vc_seq, xsQ, xsT, xsR, xsD, ↓reduceIte, reduceCtorEq, eq_self, ne_eq, imp_self, forall_const, Nat.reduceEqDiff, Nat.reduceAdd, Nat.reduceSub, Nat.reduceMul, Nat.reduceLT, Nat.reduceLeDiff, Nat.reduceBEq, Nat.reduceDiv, Nat.reduceMod, Int.reduceToNat, Int.reduceNeg, Int.reduceAdd, Int.reduceSub, Int.reduceMul, Int.reduceEq, Int.reduceNe, Int.reduceLT, Int.reduceLE, Int.reduceGT, Int.reduceGE, f5, f6, f34, f35, f36, hp, w0, add_tx, add_txc, List.length_append, List.length_cons]
        refine ⟨by omega, ?_⟩
        refine xquiet (by kernel_rfl) (by kernel_rfl) (by kernel_rfl) ?_
        simp -implicitDefEqProofs (maxSteps := 1000000) (disch := omega) only [↓xsP, ↓vc_seq, xsQ, xsT, xsR, xsD, ↓reduceIte, reduceCtorEq, eq_self, ne_eq, imp_self, forall_const, Nat.reduceEqDiff, Nat.reduceAdd, Nat.reduceSub, Nat.reduceMul, Nat.reduceLT, Nat.reduceLeDiff, Nat.reduceBEq, Nat.reduceDiv, Nat.reduceMod, Int.reduceToNat, Int.reduceNeg, Int.reduceAdd, Int.reduceSub, Int.reduceMul, Int.reduceEq, Int.reduceNe, Int.reduceLT, Int.reduceLE, Int.reduceGT, Int.reduceGE, f5, f6, f34, f35, f36, hp]
        refine dcallI_of (itoa_spec p.key hk1.1 hk1.2 _) ?_
        simp -implicitDefEqProofs (maxSteps := 1000000) (disch := omega) only [↓xsP, ↓vc_seq, xsQ, xsT, xsR, xsD, ↓reduceIte, reduceCtorEq, eq_self, ne_eq, imp_self, forall_const, Nat.reduceEqDiff, Nat.reduceAdd, Nat.reduceSub, Nat.reduceMul, Nat.reduceLT, Nat.reduceLeDiff, Nat.reduceBEq, Nat.reduceDiv, Nat.reduceMod, Int.reduceToNat, Int.reduceNeg, Int.reduceAdd, Int.reduceSub, Int.reduceMul, Int.reduceEq, Int.reduceNe, Int.reduceLT, Int.reduceLE, Int.reduceGT, Int.reduceGE, f5, f6, f34, f35, f36, hp, add_tx, add_txc, List.length_append, List.length_cons]
        refine ⟨by omega, ?_⟩
        refine dcallI_of (itoa_spec p.val hv1.1 hv1.2 _) ?_
        simp -implicitDefEqProofs (maxSteps := 1000000) (disch := omega) only [↓xsP, ↓vc_seq, xsQ, xsT, xsR, xsD, ↓reduceIte, reduceCtorEq, eq_self, ne_eq, imp_self, forall_const, Nat.reduceEqDiff, Nat.reduceAdd, Nat.reduceSub, Nat.reduceMul, Nat.reduceLT, Nat.reduceLeDiff, Nat.reduceBEq, Nat.reduceDiv, Nat.reduceMod, Int.reduceToNat, Int.reduceNeg, Int.reduceAdd, Int.reduceSub, Int.reduceMul, Int.reduceEq, Int.reduceNe, Int.reduceLT, Int.reduceLE, Int.reduceGT, Int.reduceGE, f5, f6, f34, f35, f36, hp, add_tx, add_txc, List.length_append, List.length_cons]
        refine ⟨by omega, by omega, ps.length - (j + 1), M2, by omega, le_new (Mem.le_refl _) hid8, j + 1, by omega, rfl, ?_, by simp, rfl⟩
        rw [hts, prsT_snoc, if_neg (fun h => hj0 (hnil.1 h))]
        simp [prT]
    · have hjl : j = ps.length := by omega
      subst hjl
      rw [List.take_of_length_le (Nat.le_refl _)] at f6
      simp -implicitDefEqProofs (maxSteps := 1000000) (disch := omega) only [↓xsP, ↓vc_seq, xsQ, xsT, xsR, xsD, ↓reduceIte, reduceCtorEq, eq_self, ne_eq, imp_self, forall_const, Nat.reduceEqDiff, Nat.reduceAdd, Nat.reduceSub, Nat.reduceMul, Nat.reduceLT, Nat.reduceLeDiff, Nat.reduceBEq, Nat.reduceDiv, Nat.reduceMod, Int.reduceToNat, Int.reduceNeg, Int.reduceAdd, Int.reduceSub, Int.reduceMul, Int.reduceEq, Int.reduceNe, Int.reduceLT, Int.reduceLE, Int.reduceGT, Int.reduceGE, f5, f6, f34, f35, f36, hN5]
      simp -implicitDefEqProofs (maxSteps := 1000000) (disch := omega) only [↓xsP, ↓vc_seq, xsQ, xsT, xsR, xsD, ↓reduceIte, reduceCtorEq, eq_self, ne_eq, imp_self, forall_const, Nat.reduceEqDiff, Nat.reduceAdd, Nat.reduceSub, Nat.reduceMul, Nat.reduceLT, Nat.reduceLeDiff, Nat.reduceBEq, Nat.reduceDiv, Nat.reduceMod, Int.reduceToNat, Int.reduceNeg, Int.reduceAdd, Int.reduceSub, Int.reduceMul, Int.reduceEq, Int.reduceNe, Int.reduceLT, Int.reduceLE, Int.reduceGT, Int.reduceGE, f5, f6, f34, f35, f36, hN5, add_tx, add_txc, List.length_append, List.length_cons]
      refine ⟨by omega, ?_⟩
      refine call_of (itoa_spec st hst1.1 hst1.2 _) ?_
      simp -implicitDefEqProofs (maxSteps := 1000000) (disch := omega) only [↓xsP, ↓vc_seq, xsQ, xsT, xsR, xsD, ↓reduceIte, reduceCtorEq, eq_self, ne_eq, imp_self, forall_const, Nat.reduceEqDiff, Nat.reduceAdd, Nat.reduceSub, Nat.reduceMul, Nat.reduceLT, Nat.reduceLeDiff, Nat.reduceBEq, Nat.reduceDiv, Nat.reduceMod, Int.reduceToNat, Int.reduceNeg, Int.reduceAdd, Int.reduceSub, Int.reduceMul, Int.reduceEq, Int.reduceNe, Int.reduceLT, Int.reduceLE, Int.reduceGT, Int.reduceGE, f5, f6, f34, f35, f36, hN5, add_tx, add_txc, List.length_append, List.length_cons]
      refine ⟨by omega, by omega, fin_ok hMN ⟨?_, rfl⟩⟩
      simp [Tr.txt]
  | @fork i k l r L R pl pr hi h hL hR ihl ihr =>
    intro hint hs M
    obtain ⟨hk, hLi, hRi⟩ := hint
    have htl : (Tr.fork k L R).txt.length = 1 + L.txt.length + (1 + (Lib.itoa k).length) + (1 + R.txt.length) + 1 := by
      simp [Tr.txt]
      omega
    rw [htl] at hs
    have h1 := ihl hLi (by omega)
    have ik := Lib.itoa_length_le k hk.1 hk.2
    have h2 := ihr hRi (by omega)
    refine xcalls_intro (rs := [.tmp 4]) Go.Proofs.Tryd.func32 rfl (by kernel_rfl) rfl rfl (by kernel_rfl) (by simp) ?_
    simp -implicitDefEqProofs (maxSteps := 1000000) (disch := omega) only [↓xsP, ↓vc_seq, xsQ, xsT, xsR, xsD, ↓reduceIte, reduceCtorEq, eq_self, ne_eq, imp_self, forall_const, Nat.reduceEqDiff, Nat.reduceAdd, Nat.reduceSub, Nat.reduceMul, Nat.reduceLT, Nat.reduceLeDiff, Nat.reduceBEq, Nat.reduceDiv, Nat.reduceMod, Int.reduceToNat, Int.reduceNeg, Int.reduceAdd, Int.reduceSub, Int.reduceMul, Int.reduceEq, Int.reduceNe, Int.reduceLT, Int.reduceLE, Int.reduceGT, Int.reduceGE, trA]
    refine newI_intro fun id2 hid2 => ?_
    simp -implicitDefEqProofs (maxSteps := 1000000) (disch := omega) only [↓xsP, ↓vc_seq, xsQ, xsT, xsR, xsD, ↓reduceIte, reduceCtorEq, eq_self, ne_eq, imp_self, forall_const, Nat.reduceEqDiff, Nat.reduceAdd, Nat.reduceSub, Nat.reduceMul, Nat.reduceLT, Nat.reduceLeDiff, Nat.reduceBEq, Nat.reduceDiv, Nat.reduceMod, Int.reduceToNat, Int.reduceNeg, Int.reduceAdd, Int.reduceSub, Int.reduceMul, Int.reduceEq, Int.reduceNe, Int.reduceLT, Int.reduceLE, Int.reduceGT, Int.reduceGE, h]
    refine newI_intro fun id5 hid5 => ?_
    obtain ⟨k25, hid5'⟩ := bnd_new hid5
    have hro : (forkN k l r).route = true := rfl
    have hle : (forkN k l r).left = l := rfl
    have hri : (forkN k l r).right = r := rfl
    have hke : (forkN k l r).key = k := rfl
    simp -implicitDefEqProofs (maxSteps := 1000000) (disch := omega) only [↓xsP, ↓vc_seq, xsQ, xsT, xsR, xsD, ↓reduceIte, reduceCtorEq, eq_self, ne_eq, imp_self, forall_const, Nat.reduceEqDiff, Nat.reduceAdd, Nat.reduceSub, Nat.reduceMul, Nat.reduceLT, Nat.reduceLeDiff, Nat.reduceBEq, Nat.reduceDiv, Nat.reduceMod, Int.reduceToNat, Int.reduceNeg, Int.reduceAdd, Int.reduceSub, Int.reduceMul, Int.reduceEq, Int.reduceNe, Int.reduceLT, Int.reduceLE, Int.reduceGT, Int.reduceGE, h, hro]
    refine xquiet (by kernel_rfl) (by kernel_rfl) (by kernel_rfl) ?_
    simp -implicitDefEqProofs (maxSteps := 1000000) (disch := omega) only [↓xsP, ↓vc_seq, xsQ, xsT, xsR, xsD, ↓reduceIte, reduceCtorEq, eq_self, ne_eq, imp_self, forall_const, Nat.reduceEqDiff, Nat.reduceAdd, Nat.reduceSub, Nat.reduceMul, Nat.reduceLT, Nat.reduceLeDiff, Nat.reduceBEq, Nat.reduceDiv, Nat.reduceMod, Int.reduceToNat, Int.reduceNeg, Int.reduceAdd, Int.reduceSub, Int.reduceMul, Int.reduceEq, Int.reduceNe, Int.reduceLT, Int.reduceLE, Int.reduceGT, Int.reduceGE, h, hle, hri, hke]
    refine dcallI_of (h1 _) ?_
    simp -implicitDefEqProofs (maxSteps := 1000000) (disch := omega) only [↓xsP, ↓vc_seq, xsQ, xsT, xsR, xsD, ↓reduceIte, reduceCtorEq, eq_self, ne_eq, imp_self, forall_const, Nat.reduceEqDiff, Nat.reduceAdd, Nat.reduceSub, Nat.reduceMul, Nat.reduceLT, Nat.reduceLeDiff, Nat.reduceBEq, Nat.reduceDiv, Nat.reduceMod, Int.reduceToNat, Int.reduceNeg, Int.reduceAdd, Int.reduceSub, Int.reduceMul, Int.reduceEq, Int.reduceNe, Int.reduceLT, Int.reduceLE, Int.reduceGT, Int.reduceGE, h, hle, hri, hke, add_ctx, add_tx, add_txc, List.length_append, List.length_cons]
    refine ⟨by omega, by omega, ?_⟩
    refine dcallI_of (itoa_spec k hk.1 hk.2 _) ?_
    simp -implicitDefEqProofs (maxSteps := 1000000) (disch := omega) only [↓xsP, ↓vc_seq, xsQ, xsT, xsR, xsD, ↓reduceIte, reduceCtorEq, eq_self, ne_eq, imp_self, forall_const, Nat.reduceEqDiff, Nat.reduceAdd, Nat.reduceSub, Nat.reduceMul, Nat.reduceLT, Nat.reduceLeDiff, Nat.reduceBEq, Nat.reduceDiv, Nat.reduceMod, Int.reduceToNat, Int.reduceNeg, Int.reduceAdd, Int.reduceSub, Int.reduceMul, Int.reduceEq, Int.reduceNe, Int.reduceLT, Int.reduceLE, Int.reduceGT, Int.reduceGE, h, hle, hri, hke, add_ctx, add_tx, add_txc, List.length_append, List.length_cons]
    refine ⟨by omega, by omega, ?_⟩
    refine dcallI_of (h2 _) ?_
    simp -implicitDefEqProofs (maxSteps := 1000000) (disch := omega) only [↓xsP, ↓vc_seq, xsQ, xsT, xsR, xsD, ↓reduceIte, reduceCtorEq, eq_self, ne_eq, imp_self, forall_const, Nat.reduceEqDiff, Nat.reduceAdd, Nat.reduceSub, Nat.reduceMul, Nat.reduceLT, Nat.reduceLeDiff, Nat.reduceBEq, Nat.reduceDiv, Nat.reduceMod, Int.reduceToNat, Int.reduceNeg, Int.reduceAdd, Int.reduceSub, Int.reduceMul, Int.reduceEq, Int.reduceNe, Int.reduceLT, Int.reduceLE, Int.reduceGT, Int.reduceGE, h, hle, hri, hke, add_ctx, add_tx, add_txc, List.length_append, List.length_cons]
    refine ⟨by omega, by omega, fin_ok (fun k bk hk => ?_) ⟨?_, rfl⟩⟩
    · have := lt_of_bnd hid2 hk
      simp (disch := omega) only [Mem.set_ne, hk]
    · simp [Tr.txt]
theorem rtext_spec (root : Int) (ns : List Nd) (hl : ns.length ≤ 140737488355328) (hp : Pok ns) (hi : ∀ T, Good root ns T → T.ints ∧ T.txt.length ≤ 1000000) (M : Mem) :
    XCalls Go.Proofs.Tryd.prog 16 [trA root ns] M fun r M' => M' = M ∧ ((mayT root ns = false ∧ r = .l (txt [])) ∨ ∃ T, Good root ns T ∧ r = .l (txt T.txt)) := by
  refine xcalls_intro (rs := [.tmp 2]) Go.Proofs.Tryd.func16 rfl (by kernel_rfl) rfl rfl (by kernel_rfl) (by simp) ?_
  simp -implicitDefEqProofs (maxSteps := 1000000) (disch := omega) only [↓xsP, ↓vc_seq, xsQ, xsT, xsR, xsD, ↓reduceIte, reduceCtorEq, eq_self, ne_eq, imp_self, forall_const, Nat.reduceEqDiff, Nat.reduceAdd, Nat.reduceSub, Nat.reduceMul, Nat.reduceLT, Nat.reduceLeDiff, Nat.reduceBEq, Nat.reduceDiv, Nat.reduceMod, Int.reduceToNat, Int.reduceNeg, Int.reduceAdd, Int.reduceSub, Int.reduceMul, Int.reduceEq, Int.reduceNe, Int.reduceLT, Int.reduceLE, Int.reduceGT, Int.reduceGE, trA]
  refine newI_intro fun id1 hid1 => ?_
  simp -implicitDefEqProofs (maxSteps := 1000000) (disch := omega) only [↓xsP, ↓vc_seq, xsQ, xsT, xsR, xsD, ↓reduceIte, reduceCtorEq, eq_self, ne_eq, imp_self, forall_const, Nat.reduceEqDiff, Nat.reduceAdd, Nat.reduceSub, Nat.reduceMul, Nat.reduceLT, Nat.reduceLeDiff, Nat.reduceBEq, Nat.reduceDiv, Nat.reduceMod, Int.reduceToNat, Int.reduceNeg, Int.reduceAdd, Int.reduceSub, Int.reduceMul, Int.reduceEq, Int.reduceNe, Int.reduceLT, Int.reduceLE, Int.reduceGT, Int.reduceGE, trA]
  refine callI_of ((rplain_spec root ns hl hp _).mono ?_)
  rintro _ _ ⟨rfl, (⟨hT, rfl⟩ | ⟨T, hT, rfl⟩)⟩
  · simp -implicitDefEqProofs (maxSteps := 1000000) (disch := omega) only [↓xsP, ↓vc_seq, xsQ, xsT, xsR, xsD, ↓reduceIte, reduceCtorEq, eq_self, ne_eq, imp_self, forall_const, Nat.reduceEqDiff, Nat.reduceAdd, Nat.reduceSub, Nat.reduceMul, Nat.reduceLT, Nat.reduceLeDiff, Nat.reduceBEq, Nat.reduceDiv, Nat.reduceMod, Int.reduceToNat, Int.reduceNeg, Int.reduceAdd, Int.reduceSub, Int.reduceMul, Int.reduceEq, Int.reduceNe, Int.reduceLT, Int.reduceLE, Int.reduceGT, Int.reduceGE, trA]
    refine newI_intro fun id3 hid3 => ?_
    obtain ⟨k13, hid3'⟩ := bnd_new hid3
    simp -implicitDefEqProofs (maxSteps := 1000000) (disch := omega) only [↓xsP, ↓vc_seq, xsQ, xsT, xsR, xsD, ↓reduceIte, reduceCtorEq, eq_self, ne_eq, imp_self, forall_const, Nat.reduceEqDiff, Nat.reduceAdd, Nat.reduceSub, Nat.reduceMul, Nat.reduceLT, Nat.reduceLeDiff, Nat.reduceBEq, Nat.reduceDiv, Nat.reduceMod, Int.reduceToNat, Int.reduceNeg, Int.reduceAdd, Int.reduceSub, Int.reduceMul, Int.reduceEq, Int.reduceNe, Int.reduceLT, Int.reduceLE, Int.reduceGT, Int.reduceGE, trA]
    exact fin_ok (le_new (le_new (Mem.le_refl _) hid1) hid3') ⟨rfl, .inl ⟨hT, rfl⟩⟩
  · obtain ⟨pl, hH, -⟩ := hT.hang
    simp -implicitDefEqProofs (maxSteps := 1000000) (disch := omega) only [↓xsP, ↓vc_seq, xsQ, xsT, xsR, xsD, ↓reduceIte, reduceCtorEq, eq_self, ne_eq, imp_self, forall_const, Nat.reduceEqDiff, Nat.reduceAdd, Nat.reduceSub, Nat.reduceMul, Nat.reduceLT, Nat.reduceLeDiff, Nat.reduceBEq, Nat.reduceDiv, Nat.reduceMod, Int.reduceToNat, Int.reduceNeg, Int.reduceAdd, Int.reduceSub, Int.reduceMul, Int.reduceEq, Int.reduceNe, Int.reduceLT, Int.reduceLE, Int.reduceGT, Int.reduceGE, trA]
    refine newI_intro fun id3 hid3 => ?_
    obtain ⟨k13, hid3'⟩ := bnd_new hid3
    simp -implicitDefEqProofs (maxSteps := 1000000) (disch := omega) only [↓xsP, ↓vc_seq, xsQ, xsT, xsR, xsD, ↓reduceIte, reduceCtorEq, eq_self, ne_eq, imp_self, forall_const, Nat.reduceEqDiff, Nat.reduceAdd, Nat.reduceSub, Nat.reduceMul, Nat.reduceLT, Nat.reduceLeDiff, Nat.reduceBEq, Nat.reduceDiv, Nat.reduceMod, Int.reduceToNat, Int.reduceNeg, Int.reduceAdd, Int.reduceSub, Int.reduceMul, Int.reduceEq, Int.reduceNe, Int.reduceLT, Int.reduceLE, Int.reduceGT, Int.reduceGE, trA]
    refine call_of (rtext_spec0 root ns hH (hi T hT).1 (hi T hT).2 _) ?_
    simp -implicitDefEqProofs (maxSteps := 1000000) (disch := omega) only [↓xsP, ↓vc_seq, xsQ, xsT, xsR, xsD, ↓reduceIte, reduceCtorEq, eq_self, ne_eq, imp_self, forall_const, Nat.reduceEqDiff, Nat.reduceAdd, Nat.reduceSub, Nat.reduceMul, Nat.reduceLT, Nat.reduceLeDiff, Nat.reduceBEq, Nat.reduceDiv, Nat.reduceMod, Int.reduceToNat, Int.reduceNeg, Int.reduceAdd, Int.reduceSub, Int.reduceMul, Int.reduceEq, Int.reduceNe, Int.reduceLT, Int.reduceLE, Int.reduceGT, Int.reduceGE, trA]
    exact fin_ok (le_new (le_new (Mem.le_refl _) hid1) hid3') ⟨rfl, .inr ⟨T, hT, rfl⟩⟩
end Go.X
set_option linter.unusedVariables false
set_option linter.unusedSimpArgs false
set_option maxHeartbeats 20000000
set_option maxRecDepth 100000
namespace Go.X
open Go.Proofs.Tryd (prog)

/-! ### plain -/
theorem dec_len : ∀ (n u : Nat), u < 10 ^ (n + 1) → (Lib.decDigits u).length ≤ n + 1
  | n, u, h => by
    rw [Lib.decDigits]
    split
    · simp
    · rename_i hu
      cases n with
      | zero => omega
      | succ n =>
        have := dec_len n (u / 10) (by rw [Nat.pow_succ] at h; omega)
        simp only [List.length_append, List.length_cons, List.length_nil]
        omega
theorem itoa_len20 {v : Int} (h : IntOk' v) : (Lib.itoa v).length ≤ 20 := by
  obtain ⟨h0, h1⟩ := h
  by_cases hv : v < 0
  · rw [itoa_neg hv, List.length_cons]
    have := dec_len 18 v.natAbs (by omega)
    omega
  · rw [itoa_nonneg hv]
    have := dec_len 18 v.toNat (by omega)
    omega
theorem wrap_step (D k : Int) : IntKind.i64.wrap (IntKind.i64.wrap (IntKind.i64.wrap D * 10) + k) = IntKind.i64.wrap (D * 10 + k) := by
  simp only [IntKind.wrap_i64]
  omega
/-- What scan.number makes of the signs it has read. -/
def numV (sg : Bool) (ds : List UInt8) : Int := if sg = true then IntKind.i64.wrap (0 - (IntKind.i64.wrap (dv 0 ds))) else IntKind.i64.wrap (dv 0 ds)
def numT (sg : Bool) (ds : List UInt8) : List UInt8 := if sg = true then 45 :: ds else ds
theorem numV_ok (sg : Bool) (ds : List UInt8) : IntOk' (numV sg ds) := by
  unfold numV IntOk'
  split <;> (rw [IntKind.wrap_i64]; omega)
theorem numT_tk {sg : Bool} {ds : List UInt8} (h : ∀ d ∈ ds, dg d = true) : Tk (numT sg ds) := by
  unfold numT
  cases sg with
  | true => exact .inr ⟨45, ds, rfl, .inl rfl, h⟩
  | false =>
    cases ds with
    | nil => exact .inl rfl
    | cons c r => exact .inr ⟨c, r, rfl, .inr (h c (by simp)), fun d hd => h d (by simp [hd])⟩
theorem num_tok {sg : Bool} {ds t : List UInt8} (h : ∀ d ∈ ds, dg d = true) (h0 : sg = false → ds = [] → t.head? ≠ some 45) :
    tok (numT sg ds ++ t) = numT sg (ds ++ t.takeWhile dg) := by
  have e : numT sg ds ++ t = numT sg (ds ++ t.takeWhile dg) ++ t.drop (t.takeWhile dg).length := by
    have key : t = t.takeWhile dg ++ t.drop (t.takeWhile dg).length := by
      clear h h0
      induction t with
      | nil => rfl
      | cons c a ih =>
        rw [List.takeWhile_cons]
        split
        · simpa using ih
        · rfl
    unfold numT
    split
    · conv => lhs; rw [key]
      simp
    · conv => lhs; rw [key]
      simp
  rw [e]
  have hall : ∀ d ∈ ds ++ t.takeWhile dg, dg d = true := fun d hd => by
    rcases List.mem_append.1 hd with hd | hd
    · exact h d hd
    · exact (List.all_takeWhile (p := dg) (l := t)) |> fun q => List.all_eq_true.1 q d hd
  refine tok_at (numT_tk hall) (fun hn c hc => ?_) (fun _ => takeWhile_rest t)
  refine ⟨fun e45 => ?_, takeWhile_rest t c hc⟩
  unfold numT at hn
  cases sg with
  | true => simp at hn
  | false =>
    simp only [Bool.false_eq_true, if_false, List.append_eq_nil_iff] at hn
    have := h0 rfl hn.1
    rw [hn.2, List.length_nil, List.drop_zero, e45] at hc
    exact this hc
theorem num_of {sg : Bool} {ds t : List UInt8} (h : ∀ d ∈ ds, dg d = true) (h0 : sg = false → ds = [] → t.head? ≠ some 45) (h20 : nd t ∨ 20 ≤ (numT sg ds).length) {v : Int} {t' : List UInt8} (hn : NumAt (numT sg ds ++ t) v t') :
    nd t ∧ v = numV sg ds ∧ Lib.itoa v = numT sg ds ∧ t' = t := by
  have hl := itoa_len20 hn.1
  obtain ⟨g1, g2, g3⟩ := numAt_iff.1 hn
  rw [num_tok h h0] at g2 g3
  have hlen : ∀ x, (numT sg (ds ++ x)).length = (numT sg ds).length + x.length := fun x => by unfold numT; split <;> simp; omega
  have hnd : nd t := by
    rcases h20 with h20 | h20
    · exact h20
    · intro c hc
      cases hd : dg c with
      | false => rfl
      | true =>
        exfalso
        cases t with
        | nil => cases hc
        | cons d r =>
          simp only [List.head?_cons, Option.some.injEq] at hc
          subst hc
          rw [g2, hlen, List.takeWhile_cons, if_pos hd, List.length_cons] at hl
          omega
  have ht0 : t.takeWhile dg = [] := by
    cases t with
    | nil => rfl
    | cons d r => rw [List.takeWhile_cons, if_neg (by rw [hnd d rfl]; decide)]
  rw [ht0, List.append_nil] at g2 g3
  refine ⟨hnd, ?_, g2, by rw [g3]; simp⟩
  obtain ⟨i0, i1⟩ := hn.1
  by_cases hv : v < 0
  · rw [itoa_neg hv] at g2
    cases sg with
    | true =>
      have e : Lib.decDigits v.natAbs = ds := by simpa [numT] using g2
      have : dv 0 ds = v.natAbs := by rw [← e]; exact dval_dec _
      rw [numV, if_pos rfl, this, IntKind.wrap_i64, IntKind.wrap_i64]
      omega
    | false =>
      have e : 45 :: Lib.decDigits v.natAbs = ds := by simpa [numT] using g2
      have := h 45 (by rw [← e]; simp)
      exact absurd this (by decide)
  · rw [itoa_nonneg hv] at g2
    cases sg with
    | true =>
      have e : Lib.decDigits v.toNat = 45 :: ds := by simpa [numT] using g2
      have := dec_dg v.toNat 45 (by rw [e]; simp)
      exact absurd this (by decide)
    | false =>
      have e : Lib.decDigits v.toNat = ds := by simpa [numT] using g2
      have : dv 0 ds = v.toNat := by rw [← e]; exact dval_dec _
      rw [numV, if_neg (by decide), this, IntKind.wrap_i64]
      omega
theorem num_at {sg : Bool} {ds t : List UInt8} (hi : Lib.itoa (numV sg ds) = numT sg ds) (hnd : nd t) : NumAt (numT sg ds ++ t) (numV sg ds) t :=
  ⟨numV_ok _ _, by rw [hi], hnd⟩

theorem takeWhile_split (t : List UInt8) : t = t.takeWhile dg ++ t.drop (t.takeWhile dg).length := by
  induction t with
  | nil => rfl
  | cons c a ih =>
    rw [List.takeWhile_cons]
    split
    · simpa using ih
    · rfl
/-- What scan.number reads: its signs end at p. -/
structure NumR (s : List UInt8) (a : Nat) (sg : Bool) (p : Nat) (ds : List UInt8) : Prop where
  hp : p ≤ s.length
  hpa : p = a + (numT sg ds).length
  h20 : p ≤ a + 20
  hds : ∀ d ∈ ds, dg d = true
  hsp : s.drop a = numT sg ds ++ s.drop p
  hend : nd (s.drop p) ∨ 20 ≤ (numT sg ds).length
def sgO (s : List UInt8) (a : Nat) : Bool := decide ((s.drop a).head? = some 45)
theorem sgO_z {s : List UInt8} {a p : Nat} {ds : List UInt8} (hsp : s.drop a = numT (sgO s a) ds ++ s.drop p) : sgO s a = false → ds = [] → (s.drop p).head? ≠ some 45 := fun h h' => by
  rw [h, h'] at hsp
  have := of_decide_eq_false h
  rw [hsp] at this
  exact this
theorem numR_tok {s : List UInt8} {a p : Nat} {ds : List UInt8} (h : NumR s a (sgO s a) p ds) : numT (sgO s a) ds = (tok (s.drop a)).take 20 := by
  have h1 := num_tok h.hds (sgO_z h.hsp)
  rw [← h.hsp] at h1
  rw [h1]
  have hl : ∀ x, numT (sgO s a) (ds ++ x) = numT (sgO s a) ds ++ x := fun x => by unfold numT; split <;> simp
  have h2 := h.hpa
  have h3 := h.h20
  rw [hl]
  by_cases hnd : nd (s.drop p)
  · have ht0 : (s.drop p).takeWhile dg = [] := by
      cases ht : s.drop p with
      | nil => rfl
      | cons d r => rw [List.takeWhile_cons, if_neg (by rw [hnd d (by rw [ht]; rfl)]; decide)]
    rw [ht0, List.append_nil, List.take_of_length_le (by omega)]
  · have h4 := h.hend.resolve_left hnd
    rw [List.take_left' (by omega)]
theorem numT_inj {sg : Bool} {a b : List UInt8} (h : numT sg a = numT sg b) : a = b := by
  unfold numT at h
  cases sg <;> simpa using h
theorem numR_uq {s : List UInt8} {a p q : Nat} {ds es : List UInt8} (h : NumR s a (sgO s a) p ds) (h' : NumR s a (sgO s a) q es) : p = q ∧ ds = es := by
  have e := (numR_tok h).trans (numR_tok h').symm
  have e2 := numT_inj e
  refine ⟨?_, e2⟩
  rw [h.hpa, h'.hpa, e2]
theorem numR_ex (s : List UInt8) (a : Nat) (ha : a ≤ s.length) : ∃ p ds, NumR s a (sgO s a) p ds := by
  obtain ⟨D, R, h1, h2, h3⟩ : ∃ D R, s.drop a = numT (sgO s a) (D ++ R) ∧ (∀ d ∈ D, dg d = true) ∧ nd R := by
    cases hsg : sgO s a with
    | true =>
      have h := of_decide_eq_true hsg
      cases hd : s.drop a with
      | nil => rw [hd] at h; cases h
      | cons c r =>
        rw [hd] at h
        simp only [List.head?_cons, Option.some.injEq] at h
        refine ⟨r.takeWhile dg, r.drop (r.takeWhile dg).length, ?_, fun d hd => List.all_eq_true.1 (List.all_takeWhile (p := dg) (l := r)) d hd, takeWhile_rest r⟩
        rw [← takeWhile_split r, h]
        rfl
    | false =>
      refine ⟨(s.drop a).takeWhile dg, (s.drop a).drop ((s.drop a).takeWhile dg).length, ?_, fun d hd => List.all_eq_true.1 (List.all_takeWhile (p := dg) (l := s.drop a)) d hd, takeWhile_rest _⟩
      rw [← takeWhile_split]
      rfl
  have hl : ∀ x y, numT (sgO s a) (x ++ y) = numT (sgO s a) x ++ y := fun x y => by unfold numT; split <;> simp
  have hnt : ∀ l, (numT (sgO s a) l).length = (sgO s a).toNat + l.length := fun l => by unfold numT; cases sgO s a <;> simp; omega
  have hsgl : (sgO s a).toNat ≤ 1 := by cases sgO s a <;> decide
  have hlen := congrArg List.length h1
  rw [List.length_drop, hnt, List.length_append] at hlen
  obtain ⟨m, hm⟩ : ∃ m, m = 20 - (sgO s a).toNat := ⟨_, rfl⟩
  have hdr : s.drop (a + (numT (sgO s a) (D.take m)).length) = D.drop m ++ R := by
    rw [← List.drop_drop, h1]
    have : D = D.take m ++ D.drop m := (List.take_append_drop m D).symm
    conv => lhs; arg 2; rw [this, List.append_assoc, hl]
    rw [List.drop_left]
  refine ⟨a + (numT (sgO s a) (D.take m)).length, D.take m, ?_, rfl, ?_, fun d hd => h2 d (List.mem_of_mem_take hd), ?_, ?_⟩
  · rw [hnt, List.length_take]; omega
  · rw [hnt, List.length_take]; omega
  · rw [hdr, h1, ← hl, ← List.append_assoc, List.take_append_drop]
  · rw [hdr]
    by_cases hD : D.length ≤ m
    · rw [List.drop_of_length_le hD]
      exact .inl h3
    · right
      rw [hnt, List.length_take]
      omega

/-! ### sees, must -/
def scB (s : List UInt8) (a : Nat) (x : Lf) (bad : Bool) : Blk := .cells 56 [[txt s, .int .i64 a, x, .bool bad]] 0
theorem sees_spec (s : List UInt8) (hs : s.length ≤ 1000000) (a : Nat) (ha : a ≤ s.length) (x : Lf) (bad : Bool) (c : UInt8) (id : Nat) (M : Mem) (hM : M id = some (scB s a x bad)) :
    XCalls Go.Proofs.Tryd.prog 43 [.l (.ptr id 0 0), .l (.int .u8 c.toNat)] M fun r M' => r = .l (.bool (decide ((s.drop a).head? = some c))) ∧ M' = M := by
  refine xcalls_intro (rs := [.tmp 4]) Go.Proofs.Tryd.func43 rfl (by kernel_rfl) rfl rfl (by kernel_rfl) (by simp) ?_
  rw [scB, txt] at hM
  simp -implicitDefEqProofs (maxSteps := 1000000) (disch := omega) only [↓xsP, ↓vc_seq, xsQ, xsT, xsR, xsD, ↓reduceIte, reduceCtorEq, eq_self, ne_eq, imp_self, forall_const, Nat.reduceEqDiff, Nat.reduceAdd, Nat.reduceSub, Nat.reduceMul, Nat.reduceLT, Nat.reduceLeDiff, Nat.reduceBEq, Nat.reduceDiv, Nat.reduceMod, Int.reduceToNat, Int.reduceNeg, Int.reduceAdd, Int.reduceSub, Int.reduceMul, Int.reduceEq, Int.reduceNe, Int.reduceLT, Int.reduceLE, Int.reduceGT, Int.reduceGE, hM]
  refine xquiet (by kernel_rfl) (by kernel_rfl) (by kernel_rfl) ?_
  by_cases hal : a < s.length
  · have q1 : decide ((a : Int) < (s.length : Int)) = true := decide_eq_true (by omega)
    have i00 : (0 ≤ (a : Int)) = True := eq_true (by omega)
    obtain ⟨d, hc⟩ : ∃ d, s[a]? = some d := ⟨_, List.getElem?_eq_getElem hal⟩
    have hci : s.toArray[a]? = some d := by rw [List.getElem?_toArray]; exact hc
    have hd : (s.drop a).head? = some d := by rw [List.head?_drop]; exact hc
    simp -implicitDefEqProofs (maxSteps := 1000000) (disch := omega) only [↓xsP, ↓vc_seq, xsQ, xsT, xsR, xsD, ↓reduceIte, reduceCtorEq, eq_self, ne_eq, imp_self, forall_const, Nat.reduceEqDiff, Nat.reduceAdd, Nat.reduceSub, Nat.reduceMul, Nat.reduceLT, Nat.reduceLeDiff, Nat.reduceBEq, Nat.reduceDiv, Nat.reduceMod, Int.reduceToNat, Int.reduceNeg, Int.reduceAdd, Int.reduceSub, Int.reduceMul, Int.reduceEq, Int.reduceNe, Int.reduceLT, Int.reduceLE, Int.reduceGT, Int.reduceGE, hM, ba_size, q1, ba_get, hci, i00]
    refine fin_ok (Mem.le_refl _) ⟨?_, rfl⟩
    rw [hd]
    have : decide ((d.toNat : Int) = (c.toNat : Int)) = decide (some d = some c) := by
      rw [decide_eq_decide, Option.some.injEq]
      exact ⟨fun h => UInt8.toNat_inj.1 (by omega), fun h => by rw [h]⟩
    rw [this]
  · have q1 : decide ((a : Int) < (s.length : Int)) = false := decide_eq_false (by omega)
    have hd : (s.drop a).head? = none := by rw [List.head?_drop, List.getElem?_eq_none (by omega)]
    simp -implicitDefEqProofs (maxSteps := 1000000) (disch := omega) only [↓xsP, ↓vc_seq, xsQ, xsT, xsR, xsD, ↓reduceIte, reduceCtorEq, eq_self, ne_eq, imp_self, forall_const, Nat.reduceEqDiff, Nat.reduceAdd, Nat.reduceSub, Nat.reduceMul, Nat.reduceLT, Nat.reduceLeDiff, Nat.reduceBEq, Nat.reduceDiv, Nat.reduceMod, Int.reduceToNat, Int.reduceNeg, Int.reduceAdd, Int.reduceSub, Int.reduceMul, Int.reduceEq, Int.reduceNe, Int.reduceLT, Int.reduceLE, Int.reduceGT, Int.reduceGE, hM, ba_size, q1]
    exact fin_ok (Mem.le_refl _) ⟨by rw [hd]; rfl, rfl⟩
theorem must_spec (s : List UInt8) (hs : s.length ≤ 1000000) (a : Nat) (ha : a ≤ s.length) (x : Lf) (bad : Bool) (c : UInt8) (id : Nat) (M : Mem) (hM : M id = some (scB s a x bad)) :
    XCalls Go.Proofs.Tryd.prog 44 [.l (.ptr id 0 0), .l (.int .u8 c.toNat)] M fun r M' => ((s.drop a).head? = some c ∧ M' = M.set id (scB s (a + 1) x bad)) ∨ ((s.drop a).head? ≠ some c ∧ M' = M.set id (scB s a x true)) := by
  refine xcalls_intro (rs := []) Go.Proofs.Tryd.func44 rfl (by kernel_rfl) rfl rfl (by kernel_rfl) (by simp) ?_
  simp -implicitDefEqProofs (maxSteps := 1000000) (disch := omega) only [↓xsP, ↓vc_seq, xsQ, xsT, xsR, xsD, ↓reduceIte, reduceCtorEq, eq_self, ne_eq, imp_self, forall_const, Nat.reduceEqDiff, Nat.reduceAdd, Nat.reduceSub, Nat.reduceMul, Nat.reduceLT, Nat.reduceLeDiff, Nat.reduceBEq, Nat.reduceDiv, Nat.reduceMod, Int.reduceToNat, Int.reduceNeg, Int.reduceAdd, Int.reduceSub, Int.reduceMul, Int.reduceEq, Int.reduceNe, Int.reduceLT, Int.reduceLE, Int.reduceGT, Int.reduceGE]
  refine call_of (sees_spec s hs a ha x bad c id M hM) ?_
  rw [scB, txt] at hM
  by_cases h : (s.drop a).head? = some c
  · rw [decide_eq_true h]
    simp -implicitDefEqProofs (maxSteps := 1000000) (disch := omega) only [↓xsP, ↓vc_seq, xsQ, xsT, xsR, xsD, ↓reduceIte, reduceCtorEq, eq_self, ne_eq, imp_self, forall_const, Nat.reduceEqDiff, Nat.reduceAdd, Nat.reduceSub, Nat.reduceMul, Nat.reduceLT, Nat.reduceLeDiff, Nat.reduceBEq, Nat.reduceDiv, Nat.reduceMod, Int.reduceToNat, Int.reduceNeg, Int.reduceAdd, Int.reduceSub, Int.reduceMul, Int.reduceEq, Int.reduceNe, Int.reduceLT, Int.reduceLE, Int.reduceGT, Int.reduceGE, hM]
    exact fin_ok (Mem.le_refl _) (.inl ⟨h, by rw [scB, txt]; simp⟩)
  · rw [decide_eq_false h]
    simp -implicitDefEqProofs (maxSteps := 1000000) (disch := omega) only [↓xsP, ↓vc_seq, xsQ, xsT, xsR, xsD, ↓reduceIte, reduceCtorEq, eq_self, ne_eq, imp_self, forall_const, Nat.reduceEqDiff, Nat.reduceAdd, Nat.reduceSub, Nat.reduceMul, Nat.reduceLT, Nat.reduceLeDiff, Nat.reduceBEq, Nat.reduceDiv, Nat.reduceMod, Int.reduceToNat, Int.reduceNeg, Int.reduceAdd, Int.reduceSub, Int.reduceMul, Int.reduceEq, Int.reduceNe, Int.reduceLT, Int.reduceLE, Int.reduceGT, Int.reduceGE, hM]
    exact fin_ok (Mem.le_refl _) (.inr ⟨h, rfl⟩)
/-! ### number -/
theorem number18_walk (s : List UInt8) (hs : s.length ≤ 1000000) (a : Nat) (ha : a ≤ s.length) (p0 : Nat) (ds0 : List UInt8) (h0 : NumR s a (sgO s a) p0 ds0) (x : Lf) (bad : Bool) (id : Nat) (M : Mem) (hM : M id = some (scB s a x bad)) :
    XCalls Go.Proofs.Tryd.prog 45 [.l (.ptr id 0 0)] M fun r M' =>
      (Lib.itoa (numV (sgO s a) ds0) = numT (sgO s a) ds0 → r = .l (.int .i64 (numV (sgO s a) ds0)) ∧ M' = M.set id (scB s p0 x bad)) ∧ (Lib.itoa (numV (sgO s a) ds0) ≠ numT (sgO s a) ds0 → r = .l (.int .i64 0) ∧ M' = M.set id (scB s p0 x true)) := by
  refine xcalls_intro (rs := [.tmp 2]) Go.Proofs.Tryd.func45 rfl (by kernel_rfl) rfl rfl (by kernel_rfl) (by simp) ?_
  have hM0 := hM
  rw [scB, txt] at hM
  simp -implicitDefEqProofs (maxSteps := 1000000) (disch := omega) only [↓xsP, ↓vc_seq, xsQ, xsT, xsR, xsD, ↓reduceIte, reduceCtorEq, eq_self, ne_eq, imp_self, forall_const, Nat.reduceEqDiff, Nat.reduceAdd, Nat.reduceSub, Nat.reduceMul, Nat.reduceLT, Nat.reduceLeDiff, Nat.reduceBEq, Nat.reduceDiv, Nat.reduceMod, Int.reduceToNat, Int.reduceNeg, Int.reduceAdd, Int.reduceSub, Int.reduceMul, Int.reduceEq, Int.reduceNe, Int.reduceLT, Int.reduceLE, Int.reduceGT, Int.reduceGE, hM]
  refine call_of (sees_spec s hs a ha x bad 45 id M hM0) ?_
  have hsg0 : decide ((s.drop a).head? = some 45) = sgO s a := rfl
  obtain ⟨sg, hsg⟩ : ∃ sg, sgO s a = sg := ⟨_, rfl⟩
  rw [hsg] at hsg0 h0 ⊢
  rw [hsg0]
  have huq : ∀ p ds, NumR s a sg p ds → p = p0 ∧ ds = ds0 := fun p ds h => by
    rw [← hsg] at h h0
    exact numR_uq h h0
  rw [← hsg0] at hsg
  replace hsg := hsg0
  clear hsg0
  obtain ⟨a1, ha1⟩ : ∃ a1, a1 = a + sg.toNat := ⟨_, rfl⟩
  have ha1l : a1 ≤ s.length := by
    cases sg with
    | false => simpa [ha1] using ha
    | true =>
      have h := of_decide_eq_true hsg
      rw [List.head?_drop] at h
      have := (List.getElem?_eq_some_iff.1 h).1
      rw [ha1]
      exact this
  refine vc_cut (fun fr' N' => N' = M.set id (scB s a1 x bad) ∧ fr' 0 = .l (.ptr id 0 0) ∧ fr' 3 = .l (.int .i64 a)) ?_ ?_
  · cases sg with
    | false =>
      simp -implicitDefEqProofs (maxSteps := 1000000) (disch := omega) only [↓xsP, ↓vc_seq, xsQ, xsT, xsR, xsD, ↓reduceIte, reduceCtorEq, eq_self, ne_eq, imp_self, forall_const, Nat.reduceEqDiff, Nat.reduceAdd, Nat.reduceSub, Nat.reduceMul, Nat.reduceLT, Nat.reduceLeDiff, Nat.reduceBEq, Nat.reduceDiv, Nat.reduceMod, Int.reduceToNat, Int.reduceNeg, Int.reduceAdd, Int.reduceSub, Int.reduceMul, Int.reduceEq, Int.reduceNe, Int.reduceLT, Int.reduceLE, Int.reduceGT, Int.reduceGE]
      rw [ha1]
      exact (Mem.set_selfT hM0).symm
    | true =>
      simp -implicitDefEqProofs (maxSteps := 1000000) (disch := omega) only [↓xsP, ↓vc_seq, xsQ, xsT, xsR, xsD, ↓reduceIte, reduceCtorEq, eq_self, ne_eq, imp_self, forall_const, Nat.reduceEqDiff, Nat.reduceAdd, Nat.reduceSub, Nat.reduceMul, Nat.reduceLT, Nat.reduceLeDiff, Nat.reduceBEq, Nat.reduceDiv, Nat.reduceMod, Int.reduceToNat, Int.reduceNeg, Int.reduceAdd, Int.reduceSub, Int.reduceMul, Int.reduceEq, Int.reduceNe, Int.reduceLT, Int.reduceLE, Int.reduceGT, Int.reduceGE, hM]
      rw [ha1, scB, txt]
      rfl
  rintro fr N ⟨rfl, f0, f3⟩
  simp -implicitDefEqProofs (maxSteps := 1000000) (disch := omega) only [↓xsP, ↓vc_seq, xsQ, xsT, xsR, xsD, ↓reduceIte, reduceCtorEq, eq_self, ne_eq, imp_self, forall_const, Nat.reduceEqDiff, Nat.reduceAdd, Nat.reduceSub, Nat.reduceMul, Nat.reduceLT, Nat.reduceLeDiff, Nat.reduceBEq, Nat.reduceDiv, Nat.reduceMod, Int.reduceToNat, Int.reduceNeg, Int.reduceAdd, Int.reduceSub, Int.reduceMul, Int.reduceEq, Int.reduceNe, Int.reduceLT, Int.reduceLE, Int.reduceGT, Int.reduceGE, f0, f3]
  have hsa : sg = true → (s.drop a).head? = some 45 ∧ a < s.length := fun h => by
    rw [h] at hsg
    have h := of_decide_eq_true hsg
    refine ⟨h, ?_⟩
    rw [List.head?_drop] at h
    exact (List.getElem?_eq_some_iff.1 h).1
  have hsn : sg = false → (s.drop a).head? ≠ some 45 := fun h => by
    rw [h] at hsg
    exact of_decide_eq_false hsg
  have hnt : ∀ l, (numT sg l).length = sg.toNat + l.length := fun l => by unfold numT; cases sg <;> simp; omega
  refine loopI_of (xloop (by kernel_rfl) (fun k fr M2 => ∃ (p : Nat) (ds : List UInt8), p ≤ s.length ∧ k = s.length - p ∧ p = a + (numT sg ds).length ∧ p ≤ a + 20 ∧ (∀ d ∈ ds, dg d = true) ∧ s.drop a = numT sg ds ++ s.drop p ∧ fr 0 = .l (.ptr id 0 0) ∧ fr 3 = .l (.int .i64 a) ∧ fr 4 = .l (.int .i64 (IntKind.i64.wrap (dv 0 ds))) ∧ M2 = M.set id (scB s p x bad)) (s.length - a1) ?_ ?_)
  · refine ⟨a1, [], ha1l, rfl, by rw [hnt]; simpa using ha1, ?_, (fun d hd => by cases hd), ?_, by simp -implicitDefEqProofs (maxSteps := 1000000) (disch := omega) only [↓xsP, ↓vc_seq, xsQ, xsT, xsR, xsD, ↓reduceIte, reduceCtorEq, eq_self, ne_eq, imp_self, forall_const, Nat.reduceEqDiff, Nat.reduceAdd, Nat.reduceSub, Nat.reduceMul, Nat.reduceLT, Nat.reduceLeDiff, Nat.reduceBEq, Nat.reduceDiv, Nat.reduceMod, Int.reduceToNat, Int.reduceNeg, Int.reduceAdd, Int.reduceSub, Int.reduceMul, Int.reduceEq, Int.reduceNe, Int.reduceLT, Int.reduceLE, Int.reduceGT, Int.reduceGE, f0], by simp -implicitDefEqProofs (maxSteps := 1000000) (disch := omega) only [↓xsP, ↓vc_seq, xsQ, xsT, xsR, xsD, ↓reduceIte, reduceCtorEq, eq_self, ne_eq, imp_self, forall_const, Nat.reduceEqDiff, Nat.reduceAdd, Nat.reduceSub, Nat.reduceMul, Nat.reduceLT, Nat.reduceLeDiff, Nat.reduceBEq, Nat.reduceDiv, Nat.reduceMod, Int.reduceToNat, Int.reduceNeg, Int.reduceAdd, Int.reduceSub, Int.reduceMul, Int.reduceEq, Int.reduceNe, Int.reduceLT, Int.reduceLE, Int.reduceGT, Int.reduceGE, f3], by simp -implicitDefEqProofs (maxSteps := 1000000) (disch := omega) only [↓xsP, ↓vc_seq, xsQ, xsT, xsR, xsD, ↓reduceIte, reduceCtorEq, eq_self, ne_eq, imp_self, forall_const, Nat.reduceEqDiff, Nat.reduceAdd, Nat.reduceSub, Nat.reduceMul, Nat.reduceLT, Nat.reduceLeDiff, Nat.reduceBEq, Nat.reduceDiv, Nat.reduceMod, Int.reduceToNat, Int.reduceNeg, Int.reduceAdd, Int.reduceSub, Int.reduceMul, Int.reduceEq, Int.reduceNe, Int.reduceLT, Int.reduceLE, Int.reduceGT, Int.reduceGE]; rfl, rfl⟩
    · cases sg with
      | false => simp [ha1]
      | true => simp [ha1]
    · cases sg with
      | false => simp [ha1, numT]
      | true =>
        obtain ⟨g1, g2⟩ := hsa rfl
        rw [ha1]
        cases hd : s.drop a with
        | nil => rw [hd] at g1; cases g1
        | cons c r =>
          rw [hd] at g1
          simp only [List.head?_cons, Option.some.injEq] at g1
          have : s.drop (a + true.toNat) = r := by
            show s.drop (a + 1) = r
            rw [← List.drop_drop, hd]
            rfl
          rw [this, g1]
          rfl
  rintro k fr M2 ⟨p, ds, hp, rfl, hpa, hp20, hds, hsp, f0, f3, f4, rfl⟩
  have hN : (M.set id (scB s p x bad)) id = some (.cells 56 [[.str ⟨s.toArray⟩, .int .i64 p, x, .bool bad]] 0) := Mem.set_eq M id (scB s p x bad)
  have hMN : (M.set id (scB s p x bad)).set id (.cells 56 [[txt s, .int .i64 p, x, .bool bad]] 0) = M.set id (scB s p x bad) := Mem.set_selfT (Mem.set_eq _ _ _)
  generalize hNd : M.set id (scB s p x bad) = N at hN hMN ⊢
  have ia0 : (0 ≤ (a : Int)) = True := eq_true (by omega)
  have ip0 : (0 ≤ (p : Int)) = True := eq_true (by omega)
  have ipl : (p ≤ s.length) = True := eq_true hp
  have iap : (a ≤ p) = True := eq_true (by omega)
  have htk : (s.drop a).take (p - a) = numT sg ds := by rw [hsp, List.take_left' (by omega)]
  have hvb := numV_ok sg ds
  have hz : sg = false → ds = [] → (s.drop p).head? ≠ some 45 := fun h h' => by
    have := hsn h
    rw [hsp, h, h'] at this
    exact this
  have hways : (sg = true ∧ ∃ d0, s.toArray[a]? = some d0 ∧ decide ((d0.toNat : Int) = 45) = true ∧ a < p) ∨ (sg = false ∧ ∃ d0, s.toArray[a]? = some d0 ∧ decide ((d0.toNat : Int) = 45) = false ∧ a < p) ∨ (sg = false ∧ ds = [] ∧ p = a) := by
    cases hg : sg with
    | true =>
      obtain ⟨g1, g2⟩ := hsa hg
      rw [List.head?_drop] at g1
      refine .inl ⟨rfl, 45, by rw [List.getElem?_toArray]; exact g1, rfl, ?_⟩
      rw [hnt, hg] at hpa
      simp at hpa
      omega
    | false =>
      have g1 := hsn hg
      rw [List.head?_drop] at g1
      rw [hnt, hg] at hpa
      cases hd : ds with
      | nil => rw [hd] at hpa; exact .inr (.inr ⟨rfl, rfl, by simpa using hpa⟩)
      | cons c r =>
        rw [hd] at hpa
        simp at hpa
        obtain ⟨d0, hd0⟩ : ∃ d0, s[a]? = some d0 := ⟨_, List.getElem?_eq_getElem (by omega)⟩
        refine .inr (.inl ⟨rfl, d0, by rw [List.getElem?_toArray]; exact hd0, decide_eq_false fun h => g1 ?_, by omega⟩)
        rw [hd0]
        have : d0 = 45 := UInt8.toNat_inj.1 (by show d0.toNat = 45; omega)
        rw [this]
  have hyes : Lib.itoa (numV sg ds) = numT sg ds → (nd (s.drop p) ∨ 20 ≤ (numT sg ds).length) → (Lib.itoa (numV sg ds0) = numT sg ds0 → AV.l (.int .i64 (numV sg ds)) = .l (.int .i64 (numV sg ds0)) ∧ N = M.set id (scB s p0 x bad)) ∧ (Lib.itoa (numV sg ds0) ≠ numT sg ds0 → AV.l (.int .i64 (numV sg ds)) = .l (.int .i64 0) ∧ N = M.set id (scB s p0 x true)) := fun he hend => by
    obtain ⟨rfl, rfl⟩ := huq p ds ⟨hp, hpa, hp20, hds, hsp, hend⟩
    exact ⟨fun _ => ⟨rfl, hNd.symm⟩, fun h => absurd he h⟩
  have hno : Lib.itoa (numV sg ds) ≠ numT sg ds → (nd (s.drop p) ∨ 20 ≤ (numT sg ds).length) → (Lib.itoa (numV sg ds0) = numT sg ds0 → AV.l (.int .i64 0) = .l (.int .i64 (numV sg ds0)) ∧ N.set id (.cells 56 [[.str ⟨s.toArray⟩, .int .i64 p, x, .bool true]] 0) = M.set id (scB s p0 x bad)) ∧ (Lib.itoa (numV sg ds0) ≠ numT sg ds0 → AV.l (.int .i64 0) = .l (.int .i64 0) ∧ N.set id (.cells 56 [[.str ⟨s.toArray⟩, .int .i64 p, x, .bool true]] 0) = M.set id (scB s p0 x true)) := fun he hend => by
    obtain ⟨rfl, rfl⟩ := huq p ds ⟨hp, hpa, hp20, hds, hsp, hend⟩
    exact ⟨fun h => absurd h he, fun _ => ⟨rfl, by rw [← hNd, Mem.set_set]; rfl⟩⟩
  simp -implicitDefEqProofs (maxSteps := 1000000) (disch := omega) only [↓xsP, ↓vc_seq, xsQ, xsT, xsR, xsD, ↓reduceIte, reduceCtorEq, eq_self, ne_eq, imp_self, forall_const, Nat.reduceEqDiff, Nat.reduceAdd, Nat.reduceSub, Nat.reduceMul, Nat.reduceLT, Nat.reduceLeDiff, Nat.reduceBEq, Nat.reduceDiv, Nat.reduceMod, Int.reduceToNat, Int.reduceNeg, Int.reduceAdd, Int.reduceSub, Int.reduceMul, Int.reduceEq, Int.reduceNe, Int.reduceLT, Int.reduceLE, Int.reduceGT, Int.reduceGE, f0, f3, f4, hN]
  refine xquiet (by kernel_rfl) (by kernel_rfl) (by kernel_rfl) ?_
  simp -implicitDefEqProofs (maxSteps := 1000000) (disch := omega) only [↓xsP, ↓vc_seq, xsQ, xsT, xsR, xsD, ↓reduceIte, reduceCtorEq, eq_self, ne_eq, imp_self, forall_const, Nat.reduceEqDiff, Nat.reduceAdd, Nat.reduceSub, Nat.reduceMul, Nat.reduceLT, Nat.reduceLeDiff, Nat.reduceBEq, Nat.reduceDiv, Nat.reduceMod, Int.reduceToNat, Int.reduceNeg, Int.reduceAdd, Int.reduceSub, Int.reduceMul, Int.reduceEq, Int.reduceNe, Int.reduceLT, Int.reduceLE, Int.reduceGT, Int.reduceGE, f0, f3, f4, hN, ba_size]
  by_cases hpl : p < s.length
  rotate_left
  · have q1 : decide ((p : Int) < (s.length : Int)) = false := decide_eq_false (by omega)
    have hend : nd (s.drop p) ∨ 20 ≤ (numT sg ds).length := .inl (by rw [List.drop_of_length_le (by omega)]; intro c hc; cases hc)
    rcases hways with ⟨hsg1, d0, hd0, hw0, hpg⟩ | ⟨hsg1, d0, hd0, hw0, hpg⟩ | ⟨hsg1, hds0, hpa0⟩
    · subst hsg1
      have v1 : decide ((p : Int) > (a : Int)) = true := decide_eq_true (by omega)
      simp -implicitDefEqProofs (maxSteps := 1000000) (disch := omega) only [↓xsP, ↓vc_seq, xsQ, xsT, xsR, xsD, ↓reduceIte, reduceCtorEq, eq_self, ne_eq, imp_self, forall_const, Nat.reduceEqDiff, Nat.reduceAdd, Nat.reduceSub, Nat.reduceMul, Nat.reduceLT, Nat.reduceLeDiff, Nat.reduceBEq, Nat.reduceDiv, Nat.reduceMod, Int.reduceToNat, Int.reduceNeg, Int.reduceAdd, Int.reduceSub, Int.reduceMul, Int.reduceEq, Int.reduceNe, Int.reduceLT, Int.reduceLE, Int.reduceGT, Int.reduceGE, f0, f3, f4, hN, ba_size, q1, v1, hd0, hw0, ia0]
      refine xquiet (by kernel_rfl) (by kernel_rfl) (by kernel_rfl) ?_
      simp -implicitDefEqProofs (maxSteps := 1000000) (disch := omega) only [↓xsP, ↓vc_seq, xsQ, xsT, xsR, xsD, ↓reduceIte, reduceCtorEq, eq_self, ne_eq, imp_self, forall_const, Nat.reduceEqDiff, Nat.reduceAdd, Nat.reduceSub, Nat.reduceMul, Nat.reduceLT, Nat.reduceLeDiff, Nat.reduceBEq, Nat.reduceDiv, Nat.reduceMod, Int.reduceToNat, Int.reduceNeg, Int.reduceAdd, Int.reduceSub, Int.reduceMul, Int.reduceEq, Int.reduceNe, Int.reduceLT, Int.reduceLE, Int.reduceGT, Int.reduceGE, f0, f3, f4, hN, ba_size, q1, v1, hd0, hw0, ba_ext, iap, ia0, ip0, ipl]
      rw [show IntKind.i64.wrap (0 - (IntKind.i64.wrap (dv 0 ds))) = numV true ds from rfl]
      refine dcallI_of (itoa_spec (numV true ds) hvb.1 hvb.2 _) ?_
      simp -implicitDefEqProofs (maxSteps := 1000000) (disch := omega) only [↓xsP, ↓vc_seq, xsQ, xsT, xsR, xsD, ↓reduceIte, reduceCtorEq, eq_self, ne_eq, imp_self, forall_const, Nat.reduceEqDiff, Nat.reduceAdd, Nat.reduceSub, Nat.reduceMul, Nat.reduceLT, Nat.reduceLeDiff, Nat.reduceBEq, Nat.reduceDiv, Nat.reduceMod, Int.reduceToNat, Int.reduceNeg, Int.reduceAdd, Int.reduceSub, Int.reduceMul, Int.reduceEq, Int.reduceNe, Int.reduceLT, Int.reduceLE, Int.reduceGT, Int.reduceGE, f0, f3, f4, hN, ba_size, q1, v1, hd0, hw0, ba_ext, iap, ia0, ip0, ipl, txt, htk, ba_eq]
      by_cases he : Lib.itoa (numV true ds) = numT true ds
      · simp -implicitDefEqProofs (maxSteps := 1000000) (disch := omega) only [↓xsP, ↓vc_seq, xsQ, xsT, xsR, xsD, ↓reduceIte, reduceCtorEq, eq_self, ne_eq, imp_self, forall_const, Nat.reduceEqDiff, Nat.reduceAdd, Nat.reduceSub, Nat.reduceMul, Nat.reduceLT, Nat.reduceLeDiff, Nat.reduceBEq, Nat.reduceDiv, Nat.reduceMod, Int.reduceToNat, Int.reduceNeg, Int.reduceAdd, Int.reduceSub, Int.reduceMul, Int.reduceEq, Int.reduceNe, Int.reduceLT, Int.reduceLE, Int.reduceGT, Int.reduceGE, f0, f3, f4, hN, ba_size, q1, v1, hd0, hw0, ba_ext, iap, ia0, ip0, ipl, txt, htk, ba_eq, decide_eq_true he]
        exact fin_ok (Mem.le_refl _) (hyes he hend)
      · simp -implicitDefEqProofs (maxSteps := 1000000) (disch := omega) only [↓xsP, ↓vc_seq, xsQ, xsT, xsR, xsD, ↓reduceIte, reduceCtorEq, eq_self, ne_eq, imp_self, forall_const, Nat.reduceEqDiff, Nat.reduceAdd, Nat.reduceSub, Nat.reduceMul, Nat.reduceLT, Nat.reduceLeDiff, Nat.reduceBEq, Nat.reduceDiv, Nat.reduceMod, Int.reduceToNat, Int.reduceNeg, Int.reduceAdd, Int.reduceSub, Int.reduceMul, Int.reduceEq, Int.reduceNe, Int.reduceLT, Int.reduceLE, Int.reduceGT, Int.reduceGE, f0, f3, f4, hN, ba_size, q1, v1, hd0, hw0, ba_ext, iap, ia0, ip0, ipl, txt, htk, ba_eq, decide_eq_false he]
        exact fin_ok (Mem.le_refl _) (hno he hend)
    · subst hsg1
      have v1 : decide ((p : Int) > (a : Int)) = true := decide_eq_true (by omega)
      simp -implicitDefEqProofs (maxSteps := 1000000) (disch := omega) only [↓xsP, ↓vc_seq, xsQ, xsT, xsR, xsD, ↓reduceIte, reduceCtorEq, eq_self, ne_eq, imp_self, forall_const, Nat.reduceEqDiff, Nat.reduceAdd, Nat.reduceSub, Nat.reduceMul, Nat.reduceLT, Nat.reduceLeDiff, Nat.reduceBEq, Nat.reduceDiv, Nat.reduceMod, Int.reduceToNat, Int.reduceNeg, Int.reduceAdd, Int.reduceSub, Int.reduceMul, Int.reduceEq, Int.reduceNe, Int.reduceLT, Int.reduceLE, Int.reduceGT, Int.reduceGE, f0, f3, f4, hN, ba_size, q1, v1, hd0, hw0, ia0]
      refine xquiet (by kernel_rfl) (by kernel_rfl) (by kernel_rfl) ?_
      simp -implicitDefEqProofs (maxSteps := 1000000) (disch := omega) only [↓xsP, ↓vc_seq, xsQ, xsT, xsR, xsD, ↓reduceIte, reduceCtorEq, eq_self, ne_eq, imp_self, forall_const, Nat.reduceEqDiff, Nat.reduceAdd, Nat.reduceSub, Nat.reduceMul, Nat.reduceLT, Nat.reduceLeDiff, Nat.reduceBEq, Nat.reduceDiv, Nat.reduceMod, Int.reduceToNat, Int.reduceNeg, Int.reduceAdd, Int.reduceSub, Int.reduceMul, Int.reduceEq, Int.reduceNe, Int.reduceLT, Int.reduceLE, Int.reduceGT, Int.reduceGE, f0, f3, f4, hN, ba_size, q1, v1, hd0, hw0, ba_ext, iap, ia0, ip0, ipl]
      rw [show IntKind.i64.wrap (dv 0 ds) = numV false ds from rfl]
      refine dcallI_of (itoa_spec (numV false ds) hvb.1 hvb.2 _) ?_
      simp -implicitDefEqProofs (maxSteps := 1000000) (disch := omega) only [↓xsP, ↓vc_seq, xsQ, xsT, xsR, xsD, ↓reduceIte, reduceCtorEq, eq_self, ne_eq, imp_self, forall_const, Nat.reduceEqDiff, Nat.reduceAdd, Nat.reduceSub, Nat.reduceMul, Nat.reduceLT, Nat.reduceLeDiff, Nat.reduceBEq, Nat.reduceDiv, Nat.reduceMod, Int.reduceToNat, Int.reduceNeg, Int.reduceAdd, Int.reduceSub, Int.reduceMul, Int.reduceEq, Int.reduceNe, Int.reduceLT, Int.reduceLE, Int.reduceGT, Int.reduceGE, f0, f3, f4, hN, ba_size, q1, v1, hd0, hw0, ba_ext, iap, ia0, ip0, ipl, txt, htk, ba_eq]
      by_cases he : Lib.itoa (numV false ds) = numT false ds
      · simp -implicitDefEqProofs (maxSteps := 1000000) (disch := omega) only [↓xsP, ↓vc_seq, xsQ, xsT, xsR, xsD, ↓reduceIte, reduceCtorEq, eq_self, ne_eq, imp_self, forall_const, Nat.reduceEqDiff, Nat.reduceAdd, Nat.reduceSub, Nat.reduceMul, Nat.reduceLT, Nat.reduceLeDiff, Nat.reduceBEq, Nat.reduceDiv, Nat.reduceMod, Int.reduceToNat, Int.reduceNeg, Int.reduceAdd, Int.reduceSub, Int.reduceMul, Int.reduceEq, Int.reduceNe, Int.reduceLT, Int.reduceLE, Int.reduceGT, Int.reduceGE, f0, f3, f4, hN, ba_size, q1, v1, hd0, hw0, ba_ext, iap, ia0, ip0, ipl, txt, htk, ba_eq, decide_eq_true he]
        exact fin_ok (Mem.le_refl _) (hyes he hend)
      · simp -implicitDefEqProofs (maxSteps := 1000000) (disch := omega) only [↓xsP, ↓vc_seq, xsQ, xsT, xsR, xsD, ↓reduceIte, reduceCtorEq, eq_self, ne_eq, imp_self, forall_const, Nat.reduceEqDiff, Nat.reduceAdd, Nat.reduceSub, Nat.reduceMul, Nat.reduceLT, Nat.reduceLeDiff, Nat.reduceBEq, Nat.reduceDiv, Nat.reduceMod, Int.reduceToNat, Int.reduceNeg, Int.reduceAdd, Int.reduceSub, Int.reduceMul, Int.reduceEq, Int.reduceNe, Int.reduceLT, Int.reduceLE, Int.reduceGT, Int.reduceGE, f0, f3, f4, hN, ba_size, q1, v1, hd0, hw0, ba_ext, iap, ia0, ip0, ipl, txt, htk, ba_eq, decide_eq_false he]
        exact fin_ok (Mem.le_refl _) (hno he hend)
    · subst hsg1
      have v1 : decide ((p : Int) > (a : Int)) = false := decide_eq_false (by omega)
      simp -implicitDefEqProofs (maxSteps := 1000000) (disch := omega) only [↓xsP, ↓vc_seq, xsQ, xsT, xsR, xsD, ↓reduceIte, reduceCtorEq, eq_self, ne_eq, imp_self, forall_const, Nat.reduceEqDiff, Nat.reduceAdd, Nat.reduceSub, Nat.reduceMul, Nat.reduceLT, Nat.reduceLeDiff, Nat.reduceBEq, Nat.reduceDiv, Nat.reduceMod, Int.reduceToNat, Int.reduceNeg, Int.reduceAdd, Int.reduceSub, Int.reduceMul, Int.reduceEq, Int.reduceNe, Int.reduceLT, Int.reduceLE, Int.reduceGT, Int.reduceGE, f0, f3, f4, hN, ba_size, q1, v1]
      refine xquiet (by kernel_rfl) (by kernel_rfl) (by kernel_rfl) ?_
      simp -implicitDefEqProofs (maxSteps := 1000000) (disch := omega) only [↓xsP, ↓vc_seq, xsQ, xsT, xsR, xsD, ↓reduceIte, reduceCtorEq, eq_self, ne_eq, imp_self, forall_const, Nat.reduceEqDiff, Nat.reduceAdd, Nat.reduceSub, Nat.reduceMul, Nat.reduceLT, Nat.reduceLeDiff, Nat.reduceBEq, Nat.reduceDiv, Nat.reduceMod, Int.reduceToNat, Int.reduceNeg, Int.reduceAdd, Int.reduceSub, Int.reduceMul, Int.reduceEq, Int.reduceNe, Int.reduceLT, Int.reduceLE, Int.reduceGT, Int.reduceGE, f0, f3, f4, hN, ba_size, q1, v1, ba_ext, iap, ia0, ip0, ipl]
      rw [show IntKind.i64.wrap (dv 0 ds) = numV false ds from rfl]
      refine dcallI_of (itoa_spec (numV false ds) hvb.1 hvb.2 _) ?_
      simp -implicitDefEqProofs (maxSteps := 1000000) (disch := omega) only [↓xsP, ↓vc_seq, xsQ, xsT, xsR, xsD, ↓reduceIte, reduceCtorEq, eq_self, ne_eq, imp_self, forall_const, Nat.reduceEqDiff, Nat.reduceAdd, Nat.reduceSub, Nat.reduceMul, Nat.reduceLT, Nat.reduceLeDiff, Nat.reduceBEq, Nat.reduceDiv, Nat.reduceMod, Int.reduceToNat, Int.reduceNeg, Int.reduceAdd, Int.reduceSub, Int.reduceMul, Int.reduceEq, Int.reduceNe, Int.reduceLT, Int.reduceLE, Int.reduceGT, Int.reduceGE, f0, f3, f4, hN, ba_size, q1, v1, ba_ext, iap, ia0, ip0, ipl, txt, htk, ba_eq]
      by_cases he : Lib.itoa (numV false ds) = numT false ds
      · simp -implicitDefEqProofs (maxSteps := 1000000) (disch := omega) only [↓xsP, ↓vc_seq, xsQ, xsT, xsR, xsD, ↓reduceIte, reduceCtorEq, eq_self, ne_eq, imp_self, forall_const, Nat.reduceEqDiff, Nat.reduceAdd, Nat.reduceSub, Nat.reduceMul, Nat.reduceLT, Nat.reduceLeDiff, Nat.reduceBEq, Nat.reduceDiv, Nat.reduceMod, Int.reduceToNat, Int.reduceNeg, Int.reduceAdd, Int.reduceSub, Int.reduceMul, Int.reduceEq, Int.reduceNe, Int.reduceLT, Int.reduceLE, Int.reduceGT, Int.reduceGE, f0, f3, f4, hN, ba_size, q1, v1, ba_ext, iap, ia0, ip0, ipl, txt, htk, ba_eq, decide_eq_true he]
        exact fin_ok (Mem.le_refl _) (hyes he hend)
      · simp -implicitDefEqProofs (maxSteps := 1000000) (disch := omega) only [↓xsP, ↓vc_seq, xsQ, xsT, xsR, xsD, ↓reduceIte, reduceCtorEq, eq_self, ne_eq, imp_self, forall_const, Nat.reduceEqDiff, Nat.reduceAdd, Nat.reduceSub, Nat.reduceMul, Nat.reduceLT, Nat.reduceLeDiff, Nat.reduceBEq, Nat.reduceDiv, Nat.reduceMod, Int.reduceToNat, Int.reduceNeg, Int.reduceAdd, Int.reduceSub, Int.reduceMul, Int.reduceEq, Int.reduceNe, Int.reduceLT, Int.reduceLE, Int.reduceGT, Int.reduceGE, f0, f3, f4, hN, ba_size, q1, v1, ba_ext, iap, ia0, ip0, ipl, txt, htk, ba_eq, decide_eq_false he]
        exact fin_ok (Mem.le_refl _) (hno he hend)
  have q1 : decide ((p : Int) < (s.length : Int)) = true := decide_eq_true (by omega)
  have i00 : (0 ≤ (p : Int)) = True := eq_true (by omega)
  obtain ⟨c, hc⟩ : ∃ c, s[p]? = some c := ⟨_, List.getElem?_eq_getElem hpl⟩
  have hci : s.toArray[p]? = some c := by rw [List.getElem?_toArray]; exact hc
  have hd : (s.drop p).head? = some c := by rw [List.head?_drop]; exact hc
  simp -implicitDefEqProofs (maxSteps := 1000000) (disch := omega) only [↓xsP, ↓vc_seq, xsQ, xsT, xsR, xsD, ↓reduceIte, reduceCtorEq, eq_self, ne_eq, imp_self, forall_const, Nat.reduceEqDiff, Nat.reduceAdd, Nat.reduceSub, Nat.reduceMul, Nat.reduceLT, Nat.reduceLeDiff, Nat.reduceBEq, Nat.reduceDiv, Nat.reduceMod, Int.reduceToNat, Int.reduceNeg, Int.reduceAdd, Int.reduceSub, Int.reduceMul, Int.reduceEq, Int.reduceNe, Int.reduceLT, Int.reduceLE, Int.reduceGT, Int.reduceGE, f0, f3, f4, hN, ba_size, q1, ba_get, hci, i00]
  by_cases d1 : 48 ≤ c.toNat
  rotate_left
  · have w1 : decide ((c.toNat : Int) ≥ 48) = false := decide_eq_false (by omega)
    have hend : nd (s.drop p) ∨ 20 ≤ (numT sg ds).length := .inl (fun d h => by rw [hd] at h; injection h with h; rw [← h, dg, decide_eq_false d1]; rfl)
    rcases hways with ⟨hsg1, d0, hd0, hw0, hpg⟩ | ⟨hsg1, d0, hd0, hw0, hpg⟩ | ⟨hsg1, hds0, hpa0⟩
    · subst hsg1
      have v1 : decide ((p : Int) > (a : Int)) = true := decide_eq_true (by omega)
      simp -implicitDefEqProofs (maxSteps := 1000000) (disch := omega) only [↓xsP, ↓vc_seq, xsQ, xsT, xsR, xsD, ↓reduceIte, reduceCtorEq, eq_self, ne_eq, imp_self, forall_const, Nat.reduceEqDiff, Nat.reduceAdd, Nat.reduceSub, Nat.reduceMul, Nat.reduceLT, Nat.reduceLeDiff, Nat.reduceBEq, Nat.reduceDiv, Nat.reduceMod, Int.reduceToNat, Int.reduceNeg, Int.reduceAdd, Int.reduceSub, Int.reduceMul, Int.reduceEq, Int.reduceNe, Int.reduceLT, Int.reduceLE, Int.reduceGT, Int.reduceGE, f0, f3, f4, hN, ba_size, q1, ba_get, hci, i00, w1, v1, hd0, hw0, ia0]
      refine xquiet (by kernel_rfl) (by kernel_rfl) (by kernel_rfl) ?_
      simp -implicitDefEqProofs (maxSteps := 1000000) (disch := omega) only [↓xsP, ↓vc_seq, xsQ, xsT, xsR, xsD, ↓reduceIte, reduceCtorEq, eq_self, ne_eq, imp_self, forall_const, Nat.reduceEqDiff, Nat.reduceAdd, Nat.reduceSub, Nat.reduceMul, Nat.reduceLT, Nat.reduceLeDiff, Nat.reduceBEq, Nat.reduceDiv, Nat.reduceMod, Int.reduceToNat, Int.reduceNeg, Int.reduceAdd, Int.reduceSub, Int.reduceMul, Int.reduceEq, Int.reduceNe, Int.reduceLT, Int.reduceLE, Int.reduceGT, Int.reduceGE, f0, f3, f4, hN, ba_size, q1, ba_get, hci, i00, w1, v1, hd0, hw0, ba_ext, iap, ia0, ip0, ipl]
      rw [show IntKind.i64.wrap (0 - (IntKind.i64.wrap (dv 0 ds))) = numV true ds from rfl]
      refine dcallI_of (itoa_spec (numV true ds) hvb.1 hvb.2 _) ?_
      simp -implicitDefEqProofs (maxSteps := 1000000) (disch := omega) only [↓xsP, ↓vc_seq, xsQ, xsT, xsR, xsD, ↓reduceIte, reduceCtorEq, eq_self, ne_eq, imp_self, forall_const, Nat.reduceEqDiff, Nat.reduceAdd, Nat.reduceSub, Nat.reduceMul, Nat.reduceLT, Nat.reduceLeDiff, Nat.reduceBEq, Nat.reduceDiv, Nat.reduceMod, Int.reduceToNat, Int.reduceNeg, Int.reduceAdd, Int.reduceSub, Int.reduceMul, Int.reduceEq, Int.reduceNe, Int.reduceLT, Int.reduceLE, Int.reduceGT, Int.reduceGE, f0, f3, f4, hN, ba_size, q1, ba_get, hci, i00, w1, v1, hd0, hw0, ba_ext, iap, ia0, ip0, ipl, txt, htk, ba_eq]
      by_cases he : Lib.itoa (numV true ds) = numT true ds
      · simp -implicitDefEqProofs (maxSteps := 1000000) (disch := omega) only [↓xsP, ↓vc_seq, xsQ, xsT, xsR, xsD, ↓reduceIte, reduceCtorEq, eq_self, ne_eq, imp_self, forall_const, Nat.reduceEqDiff, Nat.reduceAdd, Nat.reduceSub, Nat.reduceMul, Nat.reduceLT, Nat.reduceLeDiff, Nat.reduceBEq, Nat.reduceDiv, Nat.reduceMod, Int.reduceToNat, Int.reduceNeg, Int.reduceAdd, Int.reduceSub, Int.reduceMul, Int.reduceEq, Int.reduceNe, Int.reduceLT, Int.reduceLE, Int.reduceGT, Int.reduceGE, f0, f3, f4, hN, ba_size, q1, ba_get, hci, i00, w1, v1, hd0, hw0, ba_ext, iap, ia0, ip0, ipl, txt, htk, ba_eq, decide_eq_true he]
        exact fin_ok (Mem.le_refl _) (hyes he hend)
      · simp -implicitDefEqProofs (maxSteps := 1000000) (disch := omega) only [↓xsP, ↓vc_seq, xsQ, xsT, xsR, xsD, ↓reduceIte, reduceCtorEq, eq_self, ne_eq, imp_self, forall_const, Nat.reduceEqDiff, Nat.reduceAdd, Nat.reduceSub, Nat.reduceMul, Nat.reduceLT, Nat.reduceLeDiff, Nat.reduceBEq, Nat.reduceDiv, Nat.reduceMod, Int.reduceToNat, Int.reduceNeg, Int.reduceAdd, Int.reduceSub, Int.reduceMul, Int.reduceEq, Int.reduceNe, Int.reduceLT, Int.reduceLE, Int.reduceGT, Int.reduceGE, f0, f3, f4, hN, ba_size, q1, ba_get, hci, i00, w1, v1, hd0, hw0, ba_ext, iap, ia0, ip0, ipl, txt, htk, ba_eq, decide_eq_false he]
        exact fin_ok (Mem.le_refl _) (hno he hend)
    · subst hsg1
      have v1 : decide ((p : Int) > (a : Int)) = true := decide_eq_true (by omega)
      simp -implicitDefEqProofs (maxSteps := 1000000) (disch := omega) only [↓xsP, ↓vc_seq, xsQ, xsT, xsR, xsD, ↓reduceIte, reduceCtorEq, eq_self, ne_eq, imp_self, forall_const, Nat.reduceEqDiff, Nat.reduceAdd, Nat.reduceSub, Nat.reduceMul, Nat.reduceLT, Nat.reduceLeDiff, Nat.reduceBEq, Nat.reduceDiv, Nat.reduceMod, Int.reduceToNat, Int.reduceNeg, Int.reduceAdd, Int.reduceSub, Int.reduceMul, Int.reduceEq, Int.reduceNe, Int.reduceLT, Int.reduceLE, Int.reduceGT, Int.reduceGE, f0, f3, f4, hN, ba_size, q1, ba_get, hci, i00, w1, v1, hd0, hw0, ia0]
      refine xquiet (by kernel_rfl) (by kernel_rfl) (by kernel_rfl) ?_
      simp -implicitDefEqProofs (maxSteps := 1000000) (disch := omega) only [↓xsP, ↓vc_seq, xsQ, xsT, xsR, xsD, ↓reduceIte, reduceCtorEq, eq_self, ne_eq, imp_self, forall_const, Nat.reduceEqDiff, Nat.reduceAdd, Nat.reduceSub, Nat.reduceMul, Nat.reduceLT, Nat.reduceLeDiff, Nat.reduceBEq, Nat.reduceDiv, Nat.reduceMod, Int.reduceToNat, Int.reduceNeg, Int.reduceAdd, Int.reduceSub, Int.reduceMul, Int.reduceEq, Int.reduceNe, Int.reduceLT, Int.reduceLE, Int.reduceGT, Int.reduceGE, f0, f3, f4, hN, ba_size, q1, ba_get, hci, i00, w1, v1, hd0, hw0, ba_ext, iap, ia0, ip0, ipl]
      rw [show IntKind.i64.wrap (dv 0 ds) = numV false ds from rfl]
      refine dcallI_of (itoa_spec (numV false ds) hvb.1 hvb.2 _) ?_
      simp -implicitDefEqProofs (maxSteps := 1000000) (disch := omega) only [↓xsP, ↓vc_seq, xsQ, xsT, xsR, xsD, ↓reduceIte, reduceCtorEq, eq_self, ne_eq, imp_self, forall_const, Nat.reduceEqDiff, Nat.reduceAdd, Nat.reduceSub, Nat.reduceMul, Nat.reduceLT, Nat.reduceLeDiff, Nat.reduceBEq, Nat.reduceDiv, Nat.reduceMod, Int.reduceToNat, Int.reduceNeg, Int.reduceAdd, Int.reduceSub, Int.reduceMul, Int.reduceEq, Int.reduceNe, Int.reduceLT, Int.reduceLE, Int.reduceGT, Int.reduceGE, f0, f3, f4, hN, ba_size, q1, ba_get, hci, i00, w1, v1, hd0, hw0, ba_ext, iap, ia0, ip0, ipl, txt, htk, ba_eq]
      by_cases he : Lib.itoa (numV false ds) = numT false ds
      · simp -implicitDefEqProofs (maxSteps := 1000000) (disch := omega) only [↓xsP, ↓vc_seq, xsQ, xsT, xsR, xsD, ↓reduceIte, reduceCtorEq, eq_self, ne_eq, imp_self, forall_const, Nat.reduceEqDiff, Nat.reduceAdd, Nat.reduceSub, Nat.reduceMul, Nat.reduceLT, Nat.reduceLeDiff, Nat.reduceBEq, Nat.reduceDiv, Nat.reduceMod, Int.reduceToNat, Int.reduceNeg, Int.reduceAdd, Int.reduceSub, Int.reduceMul, Int.reduceEq, Int.reduceNe, Int.reduceLT, Int.reduceLE, Int.reduceGT, Int.reduceGE, f0, f3, f4, hN, ba_size, q1, ba_get, hci, i00, w1, v1, hd0, hw0, ba_ext, iap, ia0, ip0, ipl, txt, htk, ba_eq, decide_eq_true he]
        exact fin_ok (Mem.le_refl _) (hyes he hend)
      · simp -implicitDefEqProofs (maxSteps := 1000000) (disch := omega) only [↓xsP, ↓vc_seq, xsQ, xsT, xsR, xsD, ↓reduceIte, reduceCtorEq, eq_self, ne_eq, imp_self, forall_const, Nat.reduceEqDiff, Nat.reduceAdd, Nat.reduceSub, Nat.reduceMul, Nat.reduceLT, Nat.reduceLeDiff, Nat.reduceBEq, Nat.reduceDiv, Nat.reduceMod, Int.reduceToNat, Int.reduceNeg, Int.reduceAdd, Int.reduceSub, Int.reduceMul, Int.reduceEq, Int.reduceNe, Int.reduceLT, Int.reduceLE, Int.reduceGT, Int.reduceGE, f0, f3, f4, hN, ba_size, q1, ba_get, hci, i00, w1, v1, hd0, hw0, ba_ext, iap, ia0, ip0, ipl, txt, htk, ba_eq, decide_eq_false he]
        exact fin_ok (Mem.le_refl _) (hno he hend)
    · subst hsg1
      have v1 : decide ((p : Int) > (a : Int)) = false := decide_eq_false (by omega)
      simp -implicitDefEqProofs (maxSteps := 1000000) (disch := omega) only [↓xsP, ↓vc_seq, xsQ, xsT, xsR, xsD, ↓reduceIte, reduceCtorEq, eq_self, ne_eq, imp_self, forall_const, Nat.reduceEqDiff, Nat.reduceAdd, Nat.reduceSub, Nat.reduceMul, Nat.reduceLT, Nat.reduceLeDiff, Nat.reduceBEq, Nat.reduceDiv, Nat.reduceMod, Int.reduceToNat, Int.reduceNeg, Int.reduceAdd, Int.reduceSub, Int.reduceMul, Int.reduceEq, Int.reduceNe, Int.reduceLT, Int.reduceLE, Int.reduceGT, Int.reduceGE, f0, f3, f4, hN, ba_size, q1, ba_get, hci, i00, w1, v1]
      refine xquiet (by kernel_rfl) (by kernel_rfl) (by kernel_rfl) ?_
      simp -implicitDefEqProofs (maxSteps := 1000000) (disch := omega) only [↓xsP, ↓vc_seq, xsQ, xsT, xsR, xsD, ↓reduceIte, reduceCtorEq, eq_self, ne_eq, imp_self, forall_const, Nat.reduceEqDiff, Nat.reduceAdd, Nat.reduceSub, Nat.reduceMul, Nat.reduceLT, Nat.reduceLeDiff, Nat.reduceBEq, Nat.reduceDiv, Nat.reduceMod, Int.reduceToNat, Int.reduceNeg, Int.reduceAdd, Int.reduceSub, Int.reduceMul, Int.reduceEq, Int.reduceNe, Int.reduceLT, Int.reduceLE, Int.reduceGT, Int.reduceGE, f0, f3, f4, hN, ba_size, q1, ba_get, hci, i00, w1, v1, ba_ext, iap, ia0, ip0, ipl]
      rw [show IntKind.i64.wrap (dv 0 ds) = numV false ds from rfl]
      refine dcallI_of (itoa_spec (numV false ds) hvb.1 hvb.2 _) ?_
      simp -implicitDefEqProofs (maxSteps := 1000000) (disch := omega) only [↓xsP, ↓vc_seq, xsQ, xsT, xsR, xsD, ↓reduceIte, reduceCtorEq, eq_self, ne_eq, imp_self, forall_const, Nat.reduceEqDiff, Nat.reduceAdd, Nat.reduceSub, Nat.reduceMul, Nat.reduceLT, Nat.reduceLeDiff, Nat.reduceBEq, Nat.reduceDiv, Nat.reduceMod, Int.reduceToNat, Int.reduceNeg, Int.reduceAdd, Int.reduceSub, Int.reduceMul, Int.reduceEq, Int.reduceNe, Int.reduceLT, Int.reduceLE, Int.reduceGT, Int.reduceGE, f0, f3, f4, hN, ba_size, q1, ba_get, hci, i00, w1, v1, ba_ext, iap, ia0, ip0, ipl, txt, htk, ba_eq]
      by_cases he : Lib.itoa (numV false ds) = numT false ds
      · simp -implicitDefEqProofs (maxSteps := 1000000) (disch := omega) only [↓xsP, ↓vc_seq, xsQ, xsT, xsR, xsD, ↓reduceIte, reduceCtorEq, eq_self, ne_eq, imp_self, forall_const, Nat.reduceEqDiff, Nat.reduceAdd, Nat.reduceSub, Nat.reduceMul, Nat.reduceLT, Nat.reduceLeDiff, Nat.reduceBEq, Nat.reduceDiv, Nat.reduceMod, Int.reduceToNat, Int.reduceNeg, Int.reduceAdd, Int.reduceSub, Int.reduceMul, Int.reduceEq, Int.reduceNe, Int.reduceLT, Int.reduceLE, Int.reduceGT, Int.reduceGE, f0, f3, f4, hN, ba_size, q1, ba_get, hci, i00, w1, v1, ba_ext, iap, ia0, ip0, ipl, txt, htk, ba_eq, decide_eq_true he]
        exact fin_ok (Mem.le_refl _) (hyes he hend)
      · simp -implicitDefEqProofs (maxSteps := 1000000) (disch := omega) only [↓xsP, ↓vc_seq, xsQ, xsT, xsR, xsD, ↓reduceIte, reduceCtorEq, eq_self, ne_eq, imp_self, forall_const, Nat.reduceEqDiff, Nat.reduceAdd, Nat.reduceSub, Nat.reduceMul, Nat.reduceLT, Nat.reduceLeDiff, Nat.reduceBEq, Nat.reduceDiv, Nat.reduceMod, Int.reduceToNat, Int.reduceNeg, Int.reduceAdd, Int.reduceSub, Int.reduceMul, Int.reduceEq, Int.reduceNe, Int.reduceLT, Int.reduceLE, Int.reduceGT, Int.reduceGE, f0, f3, f4, hN, ba_size, q1, ba_get, hci, i00, w1, v1, ba_ext, iap, ia0, ip0, ipl, txt, htk, ba_eq, decide_eq_false he]
        exact fin_ok (Mem.le_refl _) (hno he hend)
  have w1 : decide ((c.toNat : Int) ≥ 48) = true := decide_eq_true (by omega)
  by_cases d2 : c.toNat ≤ 57
  rotate_left
  · have w2 : decide ((c.toNat : Int) ≤ 57) = false := decide_eq_false (by omega)
    have hend : nd (s.drop p) ∨ 20 ≤ (numT sg ds).length := .inl (fun d h => by rw [hd] at h; injection h with h; rw [← h, dg, decide_eq_false d2, Bool.and_false])
    rcases hways with ⟨hsg1, d0, hd0, hw0, hpg⟩ | ⟨hsg1, d0, hd0, hw0, hpg⟩ | ⟨hsg1, hds0, hpa0⟩
    · subst hsg1
      have v1 : decide ((p : Int) > (a : Int)) = true := decide_eq_true (by omega)
      simp -implicitDefEqProofs (maxSteps := 1000000) (disch := omega) only [↓xsP, ↓vc_seq, xsQ, xsT, xsR, xsD, ↓reduceIte, reduceCtorEq, eq_self, ne_eq, imp_self, forall_const, Nat.reduceEqDiff, Nat.reduceAdd, Nat.reduceSub, Nat.reduceMul, Nat.reduceLT, Nat.reduceLeDiff, Nat.reduceBEq, Nat.reduceDiv, Nat.reduceMod, Int.reduceToNat, Int.reduceNeg, Int.reduceAdd, Int.reduceSub, Int.reduceMul, Int.reduceEq, Int.reduceNe, Int.reduceLT, Int.reduceLE, Int.reduceGT, Int.reduceGE, f0, f3, f4, hN, ba_size, q1, ba_get, hci, i00, w1, w2, v1, hd0, hw0, ia0]
      refine xquiet (by kernel_rfl) (by kernel_rfl) (by kernel_rfl) ?_
      simp -implicitDefEqProofs (maxSteps := 1000000) (disch := omega) only [↓xsP, ↓vc_seq, xsQ, xsT, xsR, xsD, ↓reduceIte, reduceCtorEq, eq_self, ne_eq, imp_self, forall_const, Nat.reduceEqDiff, Nat.reduceAdd, Nat.reduceSub, Nat.reduceMul, Nat.reduceLT, Nat.reduceLeDiff, Nat.reduceBEq, Nat.reduceDiv, Nat.reduceMod, Int.reduceToNat, Int.reduceNeg, Int.reduceAdd, Int.reduceSub, Int.reduceMul, Int.reduceEq, Int.reduceNe, Int.reduceLT, Int.reduceLE, Int.reduceGT, Int.reduceGE, f0, f3, f4, hN, ba_size, q1, ba_get, hci, i00, w1, w2, v1, hd0, hw0, ba_ext, iap, ia0, ip0, ipl]
      rw [show IntKind.i64.wrap (0 - (IntKind.i64.wrap (dv 0 ds))) = numV true ds from rfl]
      refine dcallI_of (itoa_spec (numV true ds) hvb.1 hvb.2 _) ?_
      simp -implicitDefEqProofs (maxSteps := 1000000) (disch := omega) only [↓xsP, ↓vc_seq, xsQ, xsT, xsR, xsD, ↓reduceIte, reduceCtorEq, eq_self, ne_eq, imp_self, forall_const, Nat.reduceEqDiff, Nat.reduceAdd, Nat.reduceSub, Nat.reduceMul, Nat.reduceLT, Nat.reduceLeDiff, Nat.reduceBEq, Nat.reduceDiv, Nat.reduceMod, Int.reduceToNat, Int.reduceNeg, Int.reduceAdd, Int.reduceSub, Int.reduceMul, Int.reduceEq, Int.reduceNe, Int.reduceLT, Int.reduceLE, Int.reduceGT, Int.reduceGE, f0, f3, f4, hN, ba_size, q1, ba_get, hci, i00, w1, w2, v1, hd0, hw0, ba_ext, iap, ia0, ip0, ipl, txt, htk, ba_eq]
      by_cases he : Lib.itoa (numV true ds) = numT true ds
      · simp -implicitDefEqProofs (maxSteps := 1000000) (disch := omega) only [↓xsP, ↓vc_seq, xsQ, xsT, xsR, xsD, ↓reduceIte, reduceCtorEq, eq_self, ne_eq, imp_self, forall_const, Nat.reduceEqDiff, Nat.reduceAdd, Nat.reduceSub, Nat.reduceMul, Nat.reduceLT, Nat.reduceLeDiff, Nat.reduceBEq, Nat.reduceDiv, Nat.reduceMod, Int.reduceToNat, Int.reduceNeg, Int.reduceAdd, Int.reduceSub, Int.reduceMul, Int.reduceEq, Int.reduceNe, Int.reduceLT, Int.reduceLE, Int.reduceGT, Int.reduceGE, f0, f3, f4, hN, ba_size, q1, ba_get, hci, i00, w1, w2, v1, hd0, hw0, ba_ext, iap, ia0, ip0, ipl, txt, htk, ba_eq, decide_eq_true he]
        exact fin_ok (Mem.le_refl _) (hyes he hend)
      · simp -implicitDefEqProofs (maxSteps := 1000000) (disch := omega) only [↓xsP, ↓vc_seq, xsQ, xsT, xsR, xsD, ↓reduceIte, reduceCtorEq, eq_self, ne_eq, imp_self, forall_const, Nat.reduceEqDiff, Nat.reduceAdd, Nat.reduceSub, Nat.reduceMul, Nat.reduceLT, Nat.reduceLeDiff, Nat.reduceBEq, Nat.reduceDiv, Nat.reduceMod, Int.reduceToNat, Int.reduceNeg, Int.reduceAdd, Int.reduceSub, Int.reduceMul, Int.reduceEq, Int.reduceNe, Int.reduceLT, Int.reduceLE, Int.reduceGT, Int.reduceGE, f0, f3, f4, hN, ba_size, q1, ba_get, hci, i00, w1, w2, v1, hd0, hw0, ba_ext, iap, ia0, ip0, ipl, txt, htk, ba_eq, decide_eq_false he]
        exact fin_ok (Mem.le_refl _) (hno he hend)
    · subst hsg1
      have v1 : decide ((p : Int) > (a : Int)) = true := decide_eq_true (by omega)
      simp -implicitDefEqProofs (maxSteps := 1000000) (disch := omega) only [↓xsP, ↓vc_seq, xsQ, xsT, xsR, xsD, ↓reduceIte, reduceCtorEq, eq_self, ne_eq, imp_self, forall_const, Nat.reduceEqDiff, Nat.reduceAdd, Nat.reduceSub, Nat.reduceMul, Nat.reduceLT, Nat.reduceLeDiff, Nat.reduceBEq, Nat.reduceDiv, Nat.reduceMod, Int.reduceToNat, Int.reduceNeg, Int.reduceAdd, Int.reduceSub, Int.reduceMul, Int.reduceEq, Int.reduceNe, Int.reduceLT, Int.reduceLE, Int.reduceGT, Int.reduceGE, f0, f3, f4, hN, ba_size, q1, ba_get, hci, i00, w1, w2, v1, hd0, hw0, ia0]
      refine xquiet (by kernel_rfl) (by kernel_rfl) (by kernel_rfl) ?_
      simp -implicitDefEqProofs (maxSteps := 1000000) (disch := omega) only [↓xsP, ↓vc_seq, xsQ, xsT, xsR, xsD, ↓reduceIte, reduceCtorEq, eq_self, ne_eq, imp_self, forall_const, Nat.reduceEqDiff, Nat.reduceAdd, Nat.reduceSub, Nat.reduceMul, Nat.reduceLT, Nat.reduceLeDiff, Nat.reduceBEq, Nat.reduceDiv, Nat.reduceMod, Int.reduceToNat, Int.reduceNeg, Int.reduceAdd, Int.reduceSub, Int.reduceMul, Int.reduceEq, Int.reduceNe, Int.reduceLT, Int.reduceLE, Int.reduceGT, Int.reduceGE, f0, f3, f4, hN, ba_size, q1, ba_get, hci, i00, w1, w2, v1, hd0, hw0, ba_ext, iap, ia0, ip0, ipl]
      rw [show IntKind.i64.wrap (dv 0 ds) = numV false ds from rfl]
      refine dcallI_of (itoa_spec (numV false ds) hvb.1 hvb.2 _) ?_
      simp -implicitDefEqProofs (maxSteps := 1000000) (disch := omega) only [↓xsP, ↓vc_seq, xsQ, xsT, xsR, xsD, ↓reduceIte, reduceCtorEq, eq_self, ne_eq, imp_self, forall_const, Nat.reduceEqDiff, Nat.reduceAdd, Nat.reduceSub, Nat.reduceMul, Nat.reduceLT, Nat.reduceLeDiff, Nat.reduceBEq, Nat.reduceDiv, Nat.reduceMod, Int.reduceToNat, Int.reduceNeg, Int.reduceAdd, Int.reduceSub, Int.reduceMul, Int.reduceEq, Int.reduceNe, Int.reduceLT, Int.reduceLE, Int.reduceGT, Int.reduceGE, f0, f3, f4, hN, ba_size, q1, ba_get, hci, i00, w1, w2, v1, hd0, hw0, ba_ext, iap, ia0, ip0, ipl, txt, htk, ba_eq]
      by_cases he : Lib.itoa (numV false ds) = numT false ds
      · simp -implicitDefEqProofs (maxSteps := 1000000) (disch := omega) only [↓xsP, ↓vc_seq, xsQ, xsT, xsR, xsD, ↓reduceIte, reduceCtorEq, eq_self, ne_eq, imp_self, forall_const, Nat.reduceEqDiff, Nat.reduceAdd, Nat.reduceSub, Nat.reduceMul, Nat.reduceLT, Nat.reduceLeDiff, Nat.reduceBEq, Nat.reduceDiv, Nat.reduceMod, Int.reduceToNat, Int.reduceNeg, Int.reduceAdd, Int.reduceSub, Int.reduceMul, Int.reduceEq, Int.reduceNe, Int.reduceLT, Int.reduceLE, Int.reduceGT, Int.reduceGE, f0, f3, f4, hN, ba_size, q1, ba_get, hci, i00, w1, w2, v1, hd0, hw0, ba_ext, iap, ia0, ip0, ipl, txt, htk, ba_eq, decide_eq_true he]
        exact fin_ok (Mem.le_refl _) (hyes he hend)
      · simp -implicitDefEqProofs (maxSteps := 1000000) (disch := omega) only [↓xsP, ↓vc_seq, xsQ, xsT, xsR, xsD, ↓reduceIte, reduceCtorEq, eq_self, ne_eq, imp_self, forall_const, Nat.reduceEqDiff, Nat.reduceAdd, Nat.reduceSub, Nat.reduceMul, Nat.reduceLT, Nat.reduceLeDiff, Nat.reduceBEq, Nat.reduceDiv, Nat.reduceMod, Int.reduceToNat, Int.reduceNeg, Int.reduceAdd, Int.reduceSub, Int.reduceMul, Int.reduceEq, Int.reduceNe, Int.reduceLT, Int.reduceLE, Int.reduceGT, Int.reduceGE, f0, f3, f4, hN, ba_size, q1, ba_get, hci, i00, w1, w2, v1, hd0, hw0, ba_ext, iap, ia0, ip0, ipl, txt, htk, ba_eq, decide_eq_false he]
        exact fin_ok (Mem.le_refl _) (hno he hend)
    · subst hsg1
      have v1 : decide ((p : Int) > (a : Int)) = false := decide_eq_false (by omega)
      simp -implicitDefEqProofs (maxSteps := 1000000) (disch := omega) only [↓xsP, ↓vc_seq, xsQ, xsT, xsR, xsD, ↓reduceIte, reduceCtorEq, eq_self, ne_eq, imp_self, forall_const, Nat.reduceEqDiff, Nat.reduceAdd, Nat.reduceSub, Nat.reduceMul, Nat.reduceLT, Nat.reduceLeDiff, Nat.reduceBEq, Nat.reduceDiv, Nat.reduceMod, Int.reduceToNat, Int.reduceNeg, Int.reduceAdd, Int.reduceSub, Int.reduceMul, Int.reduceEq, Int.reduceNe, Int.reduceLT, Int.reduceLE, Int.reduceGT, Int.reduceGE, f0, f3, f4, hN, ba_size, q1, ba_get, hci, i00, w1, w2, v1]
      refine xquiet (by kernel_rfl) (by kernel_rfl) (by kernel_rfl) ?_
      simp -implicitDefEqProofs (maxSteps := 1000000) (disch := omega) only [↓xsP, ↓vc_seq, xsQ, xsT, xsR, xsD, ↓reduceIte, reduceCtorEq, eq_self, ne_eq, imp_self, forall_const, Nat.reduceEqDiff, Nat.reduceAdd, Nat.reduceSub, Nat.reduceMul, Nat.reduceLT, Nat.reduceLeDiff, Nat.reduceBEq, Nat.reduceDiv, Nat.reduceMod, Int.reduceToNat, Int.reduceNeg, Int.reduceAdd, Int.reduceSub, Int.reduceMul, Int.reduceEq, Int.reduceNe, Int.reduceLT, Int.reduceLE, Int.reduceGT, Int.reduceGE, f0, f3, f4, hN, ba_size, q1, ba_get, hci, i00, w1, w2, v1, ba_ext, iap, ia0, ip0, ipl]
      rw [show IntKind.i64.wrap (dv 0 ds) = numV false ds from rfl]
      refine dcallI_of (itoa_spec (numV false ds) hvb.1 hvb.2 _) ?_
      simp -implicitDefEqProofs (maxSteps := 1000000) (disch := omega) only [↓xsP, ↓vc_seq, xsQ, xsT, xsR, xsD, ↓reduceIte, reduceCtorEq, eq_self, ne_eq, imp_self, forall_const, Nat.reduceEqDiff, Nat.reduceAdd, Nat.reduceSub, Nat.reduceMul, Nat.reduceLT, Nat.reduceLeDiff, Nat.reduceBEq, Nat.reduceDiv, Nat.reduceMod, Int.reduceToNat, Int.reduceNeg, Int.reduceAdd, Int.reduceSub, Int.reduceMul, Int.reduceEq, Int.reduceNe, Int.reduceLT, Int.reduceLE, Int.reduceGT, Int.reduceGE, f0, f3, f4, hN, ba_size, q1, ba_get, hci, i00, w1, w2, v1, ba_ext, iap, ia0, ip0, ipl, txt, htk, ba_eq]
      by_cases he : Lib.itoa (numV false ds) = numT false ds
      · simp -implicitDefEqProofs (maxSteps := 1000000) (disch := omega) only [↓xsP, ↓vc_seq, xsQ, xsT, xsR, xsD, ↓reduceIte, reduceCtorEq, eq_self, ne_eq, imp_self, forall_const, Nat.reduceEqDiff, Nat.reduceAdd, Nat.reduceSub, Nat.reduceMul, Nat.reduceLT, Nat.reduceLeDiff, Nat.reduceBEq, Nat.reduceDiv, Nat.reduceMod, Int.reduceToNat, Int.reduceNeg, Int.reduceAdd, Int.reduceSub, Int.reduceMul, Int.reduceEq, Int.reduceNe, Int.reduceLT, Int.reduceLE, Int.reduceGT, Int.reduceGE, f0, f3, f4, hN, ba_size, q1, ba_get, hci, i00, w1, w2, v1, ba_ext, iap, ia0, ip0, ipl, txt, htk, ba_eq, decide_eq_true he]
        exact fin_ok (Mem.le_refl _) (hyes he hend)
      · simp -implicitDefEqProofs (maxSteps := 1000000) (disch := omega) only [↓xsP, ↓vc_seq, xsQ, xsT, xsR, xsD, ↓reduceIte, reduceCtorEq, eq_self, ne_eq, imp_self, forall_const, Nat.reduceEqDiff, Nat.reduceAdd, Nat.reduceSub, Nat.reduceMul, Nat.reduceLT, Nat.reduceLeDiff, Nat.reduceBEq, Nat.reduceDiv, Nat.reduceMod, Int.reduceToNat, Int.reduceNeg, Int.reduceAdd, Int.reduceSub, Int.reduceMul, Int.reduceEq, Int.reduceNe, Int.reduceLT, Int.reduceLE, Int.reduceGT, Int.reduceGE, f0, f3, f4, hN, ba_size, q1, ba_get, hci, i00, w1, w2, v1, ba_ext, iap, ia0, ip0, ipl, txt, htk, ba_eq, decide_eq_false he]
        exact fin_ok (Mem.le_refl _) (hno he hend)
  have w2 : decide ((c.toNat : Int) ≤ 57) = true := decide_eq_true (by omega)
  by_cases d3 : p < a + 20
  rotate_left
  · have w3 : decide ((p : Int) - (a : Int) < 20) = false := decide_eq_false (by omega)
    have hend : nd (s.drop p) ∨ 20 ≤ (numT sg ds).length := .inr (by omega)
    rcases hways with ⟨hsg1, d0, hd0, hw0, hpg⟩ | ⟨hsg1, d0, hd0, hw0, hpg⟩ | ⟨hsg1, hds0, hpa0⟩
    · subst hsg1
      have v1 : decide ((p : Int) > (a : Int)) = true := decide_eq_true (by omega)
      simp -implicitDefEqProofs (maxSteps := 1000000) (disch := omega) only [↓xsP, ↓vc_seq, xsQ, xsT, xsR, xsD, ↓reduceIte, reduceCtorEq, eq_self, ne_eq, imp_self, forall_const, Nat.reduceEqDiff, Nat.reduceAdd, Nat.reduceSub, Nat.reduceMul, Nat.reduceLT, Nat.reduceLeDiff, Nat.reduceBEq, Nat.reduceDiv, Nat.reduceMod, Int.reduceToNat, Int.reduceNeg, Int.reduceAdd, Int.reduceSub, Int.reduceMul, Int.reduceEq, Int.reduceNe, Int.reduceLT, Int.reduceLE, Int.reduceGT, Int.reduceGE, f0, f3, f4, hN, ba_size, q1, ba_get, hci, i00, w1, w2, w3, v1, hd0, hw0, ia0]
      refine xquiet (by kernel_rfl) (by kernel_rfl) (by kernel_rfl) ?_
      simp -implicitDefEqProofs (maxSteps := 1000000) (disch := omega) only [↓xsP, ↓vc_seq, xsQ, xsT, xsR, xsD, ↓reduceIte, reduceCtorEq, eq_self, ne_eq, imp_self, forall_const, Nat.reduceEqDiff, Nat.reduceAdd, Nat.reduceSub, Nat.reduceMul, Nat.reduceLT, Nat.reduceLeDiff, Nat.reduceBEq, Nat.reduceDiv, Nat.reduceMod, Int.reduceToNat, Int.reduceNeg, Int.reduceAdd, Int.reduceSub, Int.reduceMul, Int.reduceEq, Int.reduceNe, Int.reduceLT, Int.reduceLE, Int.reduceGT, Int.reduceGE, f0, f3, f4, hN, ba_size, q1, ba_get, hci, i00, w1, w2, w3, v1, hd0, hw0, ba_ext, iap, ia0, ip0, ipl]
      rw [show IntKind.i64.wrap (0 - (IntKind.i64.wrap (dv 0 ds))) = numV true ds from rfl]
      refine dcallI_of (itoa_spec (numV true ds) hvb.1 hvb.2 _) ?_
      simp -implicitDefEqProofs (maxSteps := 1000000) (disch := omega) only [↓xsP, ↓vc_seq, xsQ, xsT, xsR, xsD, ↓reduceIte, reduceCtorEq, eq_self, ne_eq, imp_self, forall_const, Nat.reduceEqDiff, Nat.reduceAdd, Nat.reduceSub, Nat.reduceMul, Nat.reduceLT, Nat.reduceLeDiff, Nat.reduceBEq, Nat.reduceDiv, Nat.reduceMod, Int.reduceToNat, Int.reduceNeg, Int.reduceAdd, Int.reduceSub, Int.reduceMul, Int.reduceEq, Int.reduceNe, Int.reduceLT, Int.reduceLE, Int.reduceGT, Int.reduceGE, f0, f3, f4, hN, ba_size, q1, ba_get, hci, i00, w1, w2, w3, v1, hd0, hw0, ba_ext, iap, ia0, ip0, ipl, txt, htk, ba_eq]
      by_cases he : Lib.itoa (numV true ds) = numT true ds
      · simp -implicitDefEqProofs (maxSteps := 1000000) (disch := omega) only [↓xsP, ↓vc_seq, xsQ, xsT, xsR, xsD, ↓reduceIte, reduceCtorEq, eq_self, ne_eq, imp_self, forall_const, Nat.reduceEqDiff, Nat.reduceAdd, Nat.reduceSub, Nat.reduceMul, Nat.reduceLT, Nat.reduceLeDiff, Nat.reduceBEq, Nat.reduceDiv, Nat.reduceMod, Int.reduceToNat, Int.reduceNeg, Int.reduceAdd, Int.reduceSub, Int.reduceMul, Int.reduceEq, Int.reduceNe, Int.reduceLT, Int.reduceLE, Int.reduceGT, Int.reduceGE, f0, f3, f4, hN, ba_size, q1, ba_get, hci, i00, w1, w2, w3, v1, hd0, hw0, ba_ext, iap, ia0, ip0, ipl, txt, htk, ba_eq, decide_eq_true he]
        exact fin_ok (Mem.le_refl _) (hyes he hend)
      · simp -implicitDefEqProofs (maxSteps := 1000000) (disch := omega) only [↓xsP, ↓vc_seq, xsQ, xsT, xsR, xsD, ↓reduceIte, reduceCtorEq, eq_self, ne_eq, imp_self, forall_const, Nat.reduceEqDiff, Nat.reduceAdd, Nat.reduceSub, Nat.reduceMul, Nat.reduceLT, Nat.reduceLeDiff, Nat.reduceBEq, Nat.reduceDiv, Nat.reduceMod, Int.reduceToNat, Int.reduceNeg, Int.reduceAdd, Int.reduceSub, Int.reduceMul, Int.reduceEq, Int.reduceNe, Int.reduceLT, Int.reduceLE, Int.reduceGT, Int.reduceGE, f0, f3, f4, hN, ba_size, q1, ba_get, hci, i00, w1, w2, w3, v1, hd0, hw0, ba_ext, iap, ia0, ip0, ipl, txt, htk, ba_eq, decide_eq_false he]
        exact fin_ok (Mem.le_refl _) (hno he hend)
    · subst hsg1
      have v1 : decide ((p : Int) > (a : Int)) = true := decide_eq_true (by omega)
      simp -implicitDefEqProofs (maxSteps := 1000000) (disch := omega) only [↓xsP, ↓vc_seq, xsQ, xsT, xsR, xsD, ↓reduceIte, reduceCtorEq, eq_self, ne_eq, imp_self, forall_const, Nat.reduceEqDiff, Nat.reduceAdd, Nat.reduceSub, Nat.reduceMul, Nat.reduceLT, Nat.reduceLeDiff, Nat.reduceBEq, Nat.reduceDiv, Nat.reduceMod, Int.reduceToNat, Int.reduceNeg, Int.reduceAdd, Int.reduceSub, Int.reduceMul, Int.reduceEq, Int.reduceNe, Int.reduceLT, Int.reduceLE, Int.reduceGT, Int.reduceGE, f0, f3, f4, hN, ba_size, q1, ba_get, hci, i00, w1, w2, w3, v1, hd0, hw0, ia0]
      refine xquiet (by kernel_rfl) (by kernel_rfl) (by kernel_rfl) ?_
      simp -implicitDefEqProofs (maxSteps := 1000000) (disch := omega) only [↓xsP, ↓vc_seq, xsQ, xsT, xsR, xsD, ↓reduceIte, reduceCtorEq, eq_self, ne_eq, imp_self, forall_const, Nat.reduceEqDiff, Nat.reduceAdd, Nat.reduceSub, Nat.reduceMul, Nat.reduceLT, Nat.reduceLeDiff, Nat.reduceBEq, Nat.reduceDiv, Nat.reduceMod, Int.reduceToNat, Int.reduceNeg, Int.reduceAdd, Int.reduceSub, Int.reduceMul, Int.reduceEq, Int.reduceNe, Int.reduceLT, Int.reduceLE, Int.reduceGT, Int.reduceGE, f0, f3, f4, hN, ba_size, q1, ba_get, hci, i00, w1, w2, w3, v1, hd0, hw0, ba_ext, iap, ia0, ip0, ipl]
      rw [show IntKind.i64.wrap (dv 0 ds) = numV false ds from rfl]
      refine dcallI_of (itoa_spec (numV false ds) hvb.1 hvb.2 _) ?_
      simp -implicitDefEqProofs (maxSteps := 1000000) (disch := omega) only [↓xsP, ↓vc_seq, xsQ, xsT, xsR, xsD, ↓reduceIte, reduceCtorEq, eq_self, ne_eq, imp_self, forall_const, Nat.reduceEqDiff, Nat.reduceAdd, Nat.reduceSub, Nat.reduceMul, Nat.reduceLT, Nat.reduceLeDiff, Nat.reduceBEq, Nat.reduceDiv, Nat.reduceMod, Int.reduceToNat, Int.reduceNeg, Int.reduceAdd, Int.reduceSub, Int.reduceMul, Int.reduceEq, Int.reduceNe, Int.reduceLT, Int.reduceLE, Int.reduceGT, Int.reduceGE, f0, f3, f4, hN, ba_size, q1, ba_get, hci, i00, w1, w2, w3, v1, hd0, hw0, ba_ext, iap, ia0, ip0, ipl, txt, htk, ba_eq]
      by_cases he : Lib.itoa (numV false ds) = numT false ds
      · simp -implicitDefEqProofs (maxSteps := 1000000) (disch := omega) only [↓xsP, ↓vc_seq, xsQ, xsT, xsR, xsD, ↓reduceIte, reduceCtorEq, eq_self, ne_eq, imp_self, forall_const, Nat.reduceEqDiff, Nat.reduceAdd, Nat.reduceSub, Nat.reduceMul, Nat.reduceLT, Nat.reduceLeDiff, Nat.reduceBEq, Nat.reduceDiv, Nat.reduceMod, Int.reduceToNat, Int.reduceNeg, Int.reduceAdd, Int.reduceSub, Int.reduceMul, Int.reduceEq, Int.reduceNe, Int.reduceLT, Int.reduceLE, Int.reduceGT, Int.reduceGE, f0, f3, f4, hN, ba_size, q1, ba_get, hci, i00, w1, w2, w3, v1, hd0, hw0, ba_ext, iap, ia0, ip0, ipl, txt, htk, ba_eq, decide_eq_true he]
        exact fin_ok (Mem.le_refl _) (hyes he hend)
      · simp -implicitDefEqProofs (maxSteps := 1000000) (disch := omega) only [↓xsP, ↓vc_seq, xsQ, xsT, xsR, xsD, ↓reduceIte, reduceCtorEq, eq_self, ne_eq, imp_self, forall_const, Nat.reduceEqDiff, Nat.reduceAdd, Nat.reduceSub, Nat.reduceMul, Nat.reduceLT, Nat.reduceLeDiff, Nat.reduceBEq, Nat.reduceDiv, Nat.reduceMod, Int.reduceToNat, Int.reduceNeg, Int.reduceAdd, Int.reduceSub, Int.reduceMul, Int.reduceEq, Int.reduceNe, Int.reduceLT, Int.reduceLE, Int.reduceGT, Int.reduceGE, f0, f3, f4, hN, ba_size, q1, ba_get, hci, i00, w1, w2, w3, v1, hd0, hw0, ba_ext, iap, ia0, ip0, ipl, txt, htk, ba_eq, decide_eq_false he]
        exact fin_ok (Mem.le_refl _) (hno he hend)
    · omega
  have w3 : decide ((p : Int) - (a : Int) < 20) = true := decide_eq_true (by omega)
  simp -implicitDefEqProofs (maxSteps := 1000000) (disch := omega) only [↓xsP, ↓vc_seq, xsQ, xsT, xsR, xsD, ↓reduceIte, reduceCtorEq, eq_self, ne_eq, imp_self, forall_const, Nat.reduceEqDiff, Nat.reduceAdd, Nat.reduceSub, Nat.reduceMul, Nat.reduceLT, Nat.reduceLeDiff, Nat.reduceBEq, Nat.reduceDiv, Nat.reduceMod, Int.reduceToNat, Int.reduceNeg, Int.reduceAdd, Int.reduceSub, Int.reduceMul, Int.reduceEq, Int.reduceNe, Int.reduceLT, Int.reduceLE, Int.reduceGT, Int.reduceGE, f0, f3, f4, hN, ba_size, q1, ba_get, hci, i00, w1, w2, w3]
  refine xquiet (by kernel_rfl) (by kernel_rfl) (by kernel_rfl) ?_
  have hcw : IntKind.u8.wrap ((c.toNat : Int) - 48) = ((c.toNat - 48 : Nat) : Int) := by rw [IntKind.wrap_u8]; omega
  have hstep : IntKind.i64.wrap (IntKind.i64.wrap (IntKind.i64.wrap (dv 0 ds) * 10) + ((c.toNat - 48 : Nat) : Int)) = IntKind.i64.wrap (dv 0 (ds ++ [c])) := by
    have : dv 0 (ds ++ [c]) = dv 0 ds * 10 + (c.toNat - 48) := by simp [dv]
    rw [this, wrap_step]
    rfl
  simp -implicitDefEqProofs (maxSteps := 1000000) (disch := omega) only [↓xsP, ↓vc_seq, xsQ, xsT, xsR, xsD, ↓reduceIte, reduceCtorEq, eq_self, ne_eq, imp_self, forall_const, Nat.reduceEqDiff, Nat.reduceAdd, Nat.reduceSub, Nat.reduceMul, Nat.reduceLT, Nat.reduceLeDiff, Nat.reduceBEq, Nat.reduceDiv, Nat.reduceMod, Int.reduceToNat, Int.reduceNeg, Int.reduceAdd, Int.reduceSub, Int.reduceMul, Int.reduceEq, Int.reduceNe, Int.reduceLT, Int.reduceLE, Int.reduceGT, Int.reduceGE, f0, f3, f4, hN, ba_size, q1, ba_get, hci, i00, w1, w2, w3, hcw, hstep]
  have hsp1 : s.drop p = c :: s.drop (p + 1) := by
    obtain ⟨h1, h2⟩ := List.getElem?_eq_some_iff.1 hc
    rw [← h2, ← List.drop_eq_getElem_cons]
  have hnt1 : numT sg (ds ++ [c]) = numT sg ds ++ [c] := by unfold numT; split <;> simp
  refine ⟨s.length - (p + 1), N.set id (scB s (p + 1) x bad), by omega, Mem.le_refl _, p + 1, ds ++ [c], by omega, rfl, by rw [hnt1, List.length_append, List.length_cons, List.length_nil]; omega, by omega, fun d hd => ?_, ?_, rfl, by rw [← hNd, Mem.set_set]⟩
  · rcases List.mem_append.1 hd with hd | hd
    · exact hds d hd
    · rw [List.mem_singleton.1 hd]; exact dg_iff.2 ⟨d1, d2⟩
  · rw [hnt1, hsp, hsp1]
    simp
theorem number18_spec (s : List UInt8) (hs : s.length ≤ 1000000) (a : Nat) (ha : a ≤ s.length) : ∃ (v : Int) (b : Nat) (ok : Bool), a ≤ b ∧ b ≤ s.length ∧ IntOk' v ∧
    ((ok = true ∧ NumAt (s.drop a) v (s.drop b)) ∨ (ok = true ∧ (∀ v t, ¬ NumAt (s.drop a) v t) ∧ ¬ nd (s.drop b)) ∨ (ok = false ∧ ∀ v t, ¬ NumAt (s.drop a) v t)) ∧
    ∀ (x : Lf) (bad : Bool) (id : Nat) (M : Mem), M id = some (scB s a x bad) → XCalls Go.Proofs.Tryd.prog 45 [.l (.ptr id 0 0)] M fun r M' => r = .l (.int .i64 v) ∧ M' = M.set id (scB s b x (bad || !ok)) := by
  obtain ⟨p, ds, h⟩ := numR_ex s a ha
  have hw := number18_walk s hs a ha p ds h
  have hpa := h.hpa
  by_cases he : Lib.itoa (numV (sgO s a) ds) = numT (sgO s a) ds
  · refine ⟨numV (sgO s a) ds, p, true, by omega, h.hp, numV_ok _ _, ?_, fun x bad id M hM => (hw x bad id M hM).mono fun r M' hr => by simpa using hr.1 he⟩
    by_cases hnd : nd (s.drop p)
    · exact .inl ⟨rfl, by rw [h.hsp]; exact num_at he hnd⟩
    · refine .inr (.inl ⟨rfl, fun v t hn => ?_, hnd⟩)
      rw [h.hsp] at hn
      exact hnd (num_of h.hds (sgO_z h.hsp) h.hend hn).1
  · refine ⟨0, p, false, by omega, h.hp, ⟨by decide, by decide⟩, .inr (.inr ⟨rfl, fun v t hn => ?_⟩), fun x bad id M hM => (hw x bad id M hM).mono fun r M' hr => by simpa using hr.2 he⟩
    rw [h.hsp] at hn
    obtain ⟨-, e1, e2, -⟩ := num_of h.hds (sgO_z h.hsp) h.hend hn
    rw [e1] at e2
    exact he e2
end Go.X
set_option linter.unusedVariables false
set_option linter.unusedSimpArgs false
set_option maxHeartbeats 20000000
set_option maxRecDepth 100000
namespace Go.X
open Go.Proofs.Tryd (prog)

theorem mem_ne_ty {N : Mem} {i j T T' : Nat} {r r' : List (List Lf)} {k k' : Nat} (h : N i = some (.cells T r k)) (h' : N j = some (.cells T' r' k')) (hT : T ≠ T') : i ≠ j := fun e => by
  rw [e, h'] at h
  injection h with h
  injection h with h
  exact hT h.symm
/-- A scan's state. -/
structure SSt (B N : Mem) (id : Nat) (s : List UInt8) (a : Nat) (rows : List (List Lf)) (xn : Lf) (bad : Bool) : Prop where
  own : N id = some (scB s a xn bad)
  bid : B id = none
  le : B.le N
  nds : (rows = [] ∧ xn = .nils) ∨ ∃ idn, xn = .ms idn 0 rows.length ∧ N idn = some (.cells 46 rows 0) ∧ B idn = none
/-- A scan's state, while it reads a leaf. -/
structure Sc (B N : Mem) (id id2 : Nat) (Y : List Lf) (s : List UInt8) (a : Nat) (rows : List (List Lf)) (xn : Lf) (bad : Bool) : Prop where
  own : N id = some (scB s a xn bad)
  nod : N id2 = some (.cells 46 [Y] 0)
  nds : ∃ idn, xn = .ms idn 0 rows.length ∧ N idn = some (.cells 46 rows 0) ∧ B idn = none ∧ idn ≠ id2
  bid : B id = none
  bid2 : B id2 = none
  le : B.le N
theorem scB_ne {N : Mem} {i j : Nat} {s : List UInt8} {a : Nat} {x : Lf} {bad : Bool} {rows : List (List Lf)} {k : Nat} (h : N i = some (scB s a x bad)) (h' : N j = some (.cells 46 rows k)) : i ≠ j := mem_ne_ty h h' (by decide)
theorem SSt.set {B N : Mem} {id : Nat} {s : List UInt8} {a : Nat} {rows : List (List Lf)} {xn : Lf} {bad : Bool} (h : SSt B N id s a rows xn bad) (a' : Nat) (bad' : Bool) : SSt B (N.set id (scB s a' xn bad')) id s a' rows xn bad' := by
  refine ⟨Mem.set_eq _ _ _, h.bid, Mem.le_set h.le h.bid, ?_⟩
  rcases h.nds with h' | ⟨idn, h1, h2, h3⟩
  · exact .inl h'
  · exact .inr ⟨idn, h1, by rw [Mem.set_ne _ _ _ _ (scB_ne h.own h2)]; exact h2, h3⟩
theorem SSt.new {B N : Mem} {id : Nat} {s : List UInt8} {a : Nat} {rows : List (List Lf)} {xn : Lf} {bad : Bool} (h : SSt B N id s a rows xn bad) {i : Nat} (hi : ∀ j, i ≤ j → N j = none) (X : Blk) : SSt B (N.set i X) id s a rows xn bad := by
  have k1 := lt_of_bnd hi h.own
  refine ⟨by rw [Mem.set_ne _ _ _ _ (by omega)]; exact h.own, h.bid, le_new h.le (fun j hj => by
    cases hm : B j with
    | none => rfl
    | some bk => have := hi j hj; rw [h.le _ _ hm] at this; cases this), ?_⟩
  rcases h.nds with h' | ⟨idn, h1, h2, h3⟩
  · exact .inl h'
  · have := lt_of_bnd hi h2
    exact .inr ⟨idn, h1, by rw [Mem.set_ne _ _ _ _ (by omega)]; exact h2, h3⟩
theorem SSt.ms {B N : Mem} {id : Nat} {s : List UInt8} {a : Nat} {rows : List (List Lf)} {xn : Lf} {bad : Bool} (h : SSt B N id s a rows xn bad) (hr : rows ≠ []) : ∃ idn, xn = .ms idn 0 rows.length ∧ N idn = some (.cells 46 rows 0) ∧ B idn = none ∧ id ≠ idn := by
  rcases h.nds with h' | ⟨idn, h1, h2, h3⟩
  · exact absurd h'.1 hr
  · exact ⟨idn, h1, h2, h3, scB_ne h.own h2⟩
theorem SSt.sb {B N : Mem} {id : Nat} {s : List UInt8} {a : Nat} {rows : List (List Lf)} {xn : Lf} {bad : Bool} (h : SSt B N id s a rows xn bad) : ∃ N0, SB 46 N xn rows N0 ∧ B.le N0 ∧ N0 id = some (scB s a xn bad) := by
  rcases h.nds with ⟨rfl, rfl⟩ | ⟨idn, h1, h2, h3⟩
  · exact ⟨N, .nil, h.le, h.own⟩
  · rw [h1]
    refine ⟨_, .ms h2, fun k bk hk => ?_, ?_⟩
    · rw [Mem.del_ne _ _ _ (fun e => by rw [← e, h3] at hk; cases hk)]
      exact h.le _ _ hk
    · rw [Mem.del_ne _ _ _ (Ne.symm (scB_ne h.own h2)), h.own, h1]
theorem Sc.set {B N : Mem} {id id2 : Nat} {Y : List Lf} {s : List UInt8} {a : Nat} {rows : List (List Lf)} {xn : Lf} {bad : Bool} (h : Sc B N id id2 Y s a rows xn bad) (a' : Nat) (bad' : Bool) : Sc B (N.set id (scB s a' xn bad')) id id2 Y s a' rows xn bad' := by
  obtain ⟨idn, h1, h2, h3, h4⟩ := h.nds
  exact ⟨Mem.set_eq _ _ _, by rw [Mem.set_ne _ _ _ _ (scB_ne h.own h.nod)]; exact h.nod, ⟨idn, h1, by rw [Mem.set_ne _ _ _ _ (scB_ne h.own h2)]; exact h2, h3, h4⟩, h.bid, h.bid2, Mem.le_set h.le h.bid⟩
theorem Sc.put {B N : Mem} {id id2 : Nat} {Y : List Lf} {s : List UInt8} {a : Nat} {rows : List (List Lf)} {xn : Lf} {bad : Bool} (h : Sc B N id id2 Y s a rows xn bad) (Y' : List Lf) : Sc B (N.set id2 (.cells 46 [Y'] 0)) id id2 Y' s a rows xn bad := by
  obtain ⟨idn, h1, h2, h3, h4⟩ := h.nds
  exact ⟨by rw [Mem.set_ne _ _ _ _ (Ne.symm (scB_ne h.own h.nod))]; exact h.own, Mem.set_eq _ _ _, ⟨idn, h1, by rw [Mem.set_ne _ _ _ _ (Ne.symm h4)]; exact h2, h3, h4⟩, h.bid, h.bid2, Mem.le_set h.le h.bid2⟩
/-- What is kept goes on. -/
theorem Sc.to {B N N' : Mem} {id id2 : Nat} {Y Y' : List Lf} {s : List UInt8} {a : Nat} {rows : List (List Lf)} {xn : Lf} {bad : Bool} (h : Sc B N id id2 Y s a rows xn bad) (hk : ∀ k, k ≠ id2 → (∀ T r q, N k = some (.cells T r q) → T ≠ 79 ∨ B k ≠ none) → ∀ bk, N k = some bk → N' k = some bk) (h2 : N' id2 = some (.cells 46 [Y'] 0)) : Sc B N' id id2 Y' s a rows xn bad := by
  obtain ⟨idn, g1, g2, g3, g4⟩ := h.nds
  refine ⟨hk _ (scB_ne h.own h.nod) (fun T r q e => .inl ?_) _ h.own, h2, ⟨idn, g1, hk _ g4 (fun T r q e => .inl ?_) _ g2, g3, g4⟩, h.bid, h.bid2, fun k bk hb => hk _ (fun e => by rw [e, h.bid2] at hb; cases hb) (fun T r q e => .inr (by rw [hb]; simp)) _ (h.le _ _ hb)⟩
  · have := h.own.symm.trans e
    injection this with this
    injection this with this
    rw [← this]
    decide
  · have := g2.symm.trans e
    injection this with this
    injection this with this
    rw [← this]
    decide
/-- The pairs read so far. -/
def Pq (B N : Mem) (xp : Lf) (ps : List Pr) : Prop := (ps = [] ∧ xp = .nils) ∨ ∃ idp, xp = .ms idp 0 ps.length ∧ N idp = some (.cells 79 (ps.map Pr.row) 0) ∧ B idp = none
theorem Pq.set {B N : Mem} {xp : Lf} {ps : List Pr} (h : Pq B N xp ps) {i T : Nat} {r : List (List Lf)} {k : Nat} (hi : N i = some (.cells T r k)) (hT : T ≠ 79) (X : Blk) : Pq B (N.set i X) xp ps := by
  rcases h with h | ⟨idp, h1, h2, h3⟩
  · exact .inl h
  · exact .inr ⟨idp, h1, by rw [Mem.set_ne _ _ _ _ (mem_ne_ty hi h2 hT)]; exact h2, h3⟩
theorem Pq.frz {B N : Mem} {id id2 : Nat} {xp : Lf} {ps : List Pr} {s : List UInt8} {a : Nat} {rows : List (List Lf)} {xn : Lf} {bad : Bool} (hp : Pq B N xp ps) (h : Sc B N id id2 [.bool false, .int .i64 0, .int .i64 0, .int .i64 0, xp, .int .i64 0] s a rows xn bad) :
    ∃ N', GStep N N' ∧ Sc B N' id id2 [.bool false, .int .i64 0, .int .i64 0, .int .i64 0, .sl (ps.map Pr.row), .int .i64 0] s a rows xn bad := by
  rcases hp with ⟨rfl, rfl⟩ | ⟨idp, rfl, h2, h3⟩
  · exact ⟨_, GStep.wk h.nod, h.put _⟩
  · have hne : idp ≠ id2 := mem_ne_ty h2 h.nod (by decide)
    have hg := GStep.frz_in h2 h.nod hne
    refine ⟨_, hg, h.to (fun k hk hk' bk hb => ?_) ?_⟩
    · have hkp : idp ≠ k := fun e => by
        rcases hk' _ _ _ (e ▸ h2) with h | h
        · exact h rfl
        · rw [e] at h3; exact h h3
      rw [Mem.set_ne _ _ _ _ (Ne.symm hk), Mem.set_ne _ _ _ _ hkp]
      exact hb
    · rw [Mem.set_eq]
      simp only [frzL, List.map_cons, List.map_nil, Nat.zero_add, List.length_map, Nat.le_refl, and_self, if_true, List.drop_zero]
      rw [List.take_of_length_le (by rw [List.length_map]; exact Nat.le_refl _)]
end Go.X
