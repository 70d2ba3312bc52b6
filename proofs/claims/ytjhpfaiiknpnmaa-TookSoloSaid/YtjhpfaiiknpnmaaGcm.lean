/- Witnesses: Ret, Order, Pairs. -/
import Derived.Test.YtjhpfaiiknpnmaaGbm
import Derived.Test.YtjhpfaiiknpnmaaZ5
set_option linter.unusedVariables false
set_option linter.unusedSimpArgs false
set_option maxHeartbeats 20000000
set_option maxRecDepth 100000
namespace Go.X
open Go.Proofs.Try (prog)

noncomputable def retB (W : Wit) (t : Nat) (a : Ans) : Bool := (W.ws.getD t default).busy && (if (W.ws.getD t default).took = true then bof ((W.ws.getD t default).ans = a) else !decide (a.err = 0))
def retW (W : Wit) (t : Nat) : Wit := if (W.ws.getD t default).busy = true then { W with ws := W.ws.set t wk0 } else W
theorem ret_nil (t : Int) (a : Ans) (M : Mem) : XCalls Go.Proofs.Try.prog 16 [.l .nilp, .l (.int .i64 t), .agg a.row] M fun r M' => r = .l (.bool false) ∧ M' = M := by
  refine xcalls_intro (rs := [.tmp 6]) Go.Proofs.Try.func16 rfl (by kernel_rfl) rfl rfl (by kernel_rfl) (by simp) ?_
  simp -implicitDefEqProofs (maxSteps := 1000000) (disch := omega) only [↓xsP, ↓vc_seq, xsQ, xsT, xsR, xsD, ↓reduceIte, reduceCtorEq, eq_self, ne_eq, imp_self, forall_const, Nat.reduceEqDiff, Nat.reduceAdd, Nat.reduceSub, Nat.reduceMul, Nat.reduceLT, Nat.reduceLeDiff, Nat.reduceBEq, Nat.reduceDiv, Nat.reduceMod, Int.reduceToNat, Int.reduceNeg, Int.reduceAdd, Int.reduceSub, Int.reduceMul, Int.reduceEq, Int.reduceNe, Int.reduceLT, Int.reduceLE, Int.reduceGT, Int.reduceGE]
  refine newI_intro fun id hid => ?_
  simp -implicitDefEqProofs (maxSteps := 1000000) (disch := omega) only [↓xsP, ↓vc_seq, xsQ, xsT, xsR, xsD, ↓reduceIte, reduceCtorEq, eq_self, ne_eq, imp_self, forall_const, Nat.reduceEqDiff, Nat.reduceAdd, Nat.reduceSub, Nat.reduceMul, Nat.reduceLT, Nat.reduceLeDiff, Nat.reduceBEq, Nat.reduceDiv, Nat.reduceMod, Int.reduceToNat, Int.reduceNeg, Int.reduceAdd, Int.reduceSub, Int.reduceMul, Int.reduceEq, Int.reduceNe, Int.reduceLT, Int.reduceLE, Int.reduceGT, Int.reduceGE]
  refine call_of (busy_nil t _) ?_
  simp -implicitDefEqProofs (maxSteps := 1000000) (disch := omega) only [↓xsP, ↓vc_seq, xsQ, xsT, xsR, xsD, ↓reduceIte, reduceCtorEq, eq_self, ne_eq, imp_self, forall_const, Nat.reduceEqDiff, Nat.reduceAdd, Nat.reduceSub, Nat.reduceMul, Nat.reduceLT, Nat.reduceLeDiff, Nat.reduceBEq, Nat.reduceDiv, Nat.reduceMod, Int.reduceToNat, Int.reduceNeg, Int.reduceAdd, Int.reduceSub, Int.reduceMul, Int.reduceEq, Int.reduceNe, Int.reduceLT, Int.reduceLE, Int.reduceGT, Int.reduceGE]
  exact fin_ok (le_new (Mem.le_refl _) hid) ⟨rfl, rfl⟩
theorem ret_out (id : Nat) (t : Int) (a : Ans) (M : Mem) (h : t < 0 ∨ 6 ≤ t) : XCalls Go.Proofs.Try.prog 16 [.l (.ptr id 0 0), .l (.int .i64 t), .agg a.row] M fun r M' => r = .l (.bool false) ∧ M' = M := by
  refine xcalls_intro (rs := [.tmp 6]) Go.Proofs.Try.func16 rfl (by kernel_rfl) rfl rfl (by kernel_rfl) (by simp) ?_
  simp -implicitDefEqProofs (maxSteps := 1000000) (disch := omega) only [↓xsP, ↓vc_seq, xsQ, xsT, xsR, xsD, ↓reduceIte, reduceCtorEq, eq_self, ne_eq, imp_self, forall_const, Nat.reduceEqDiff, Nat.reduceAdd, Nat.reduceSub, Nat.reduceMul, Nat.reduceLT, Nat.reduceLeDiff, Nat.reduceBEq, Nat.reduceDiv, Nat.reduceMod, Int.reduceToNat, Int.reduceNeg, Int.reduceAdd, Int.reduceSub, Int.reduceMul, Int.reduceEq, Int.reduceNe, Int.reduceLT, Int.reduceLE, Int.reduceGT, Int.reduceGE]
  refine newI_intro fun id hid => ?_
  simp -implicitDefEqProofs (maxSteps := 1000000) (disch := omega) only [↓xsP, ↓vc_seq, xsQ, xsT, xsR, xsD, ↓reduceIte, reduceCtorEq, eq_self, ne_eq, imp_self, forall_const, Nat.reduceEqDiff, Nat.reduceAdd, Nat.reduceSub, Nat.reduceMul, Nat.reduceLT, Nat.reduceLeDiff, Nat.reduceBEq, Nat.reduceDiv, Nat.reduceMod, Int.reduceToNat, Int.reduceNeg, Int.reduceAdd, Int.reduceSub, Int.reduceMul, Int.reduceEq, Int.reduceNe, Int.reduceLT, Int.reduceLE, Int.reduceGT, Int.reduceGE]
  refine call_of (busy_out _ t _ h) ?_
  simp -implicitDefEqProofs (maxSteps := 1000000) (disch := omega) only [↓xsP, ↓vc_seq, xsQ, xsT, xsR, xsD, ↓reduceIte, reduceCtorEq, eq_self, ne_eq, imp_self, forall_const, Nat.reduceEqDiff, Nat.reduceAdd, Nat.reduceSub, Nat.reduceMul, Nat.reduceLT, Nat.reduceLeDiff, Nat.reduceBEq, Nat.reduceDiv, Nat.reduceMod, Int.reduceToNat, Int.reduceNeg, Int.reduceAdd, Int.reduceSub, Int.reduceMul, Int.reduceEq, Int.reduceNe, Int.reduceLT, Int.reduceLE, Int.reduceGT, Int.reduceGE]
  exact fin_ok (le_new (Mem.le_refl _) hid) ⟨rfl, rfl⟩
theorem WIn.new {B M : Mem} {id mid : Nat} {o : Lf} {W : Wit} (hW : WIn B M id mid o W) {i : Nat} (hi : ∀ j, i ≤ j → M j = none) (X : Blk) : WIn B (M.set i X) id mid o W := by
  have keep : ∀ k bk, M k = some bk → (M.set i X) k = some bk := fun k bk hk => by
    have := lt_of_bnd hi hk
    rw [Mem.set_ne _ _ _ _ (by omega)]
    exact hk
  exact hW.upd (keep _ _ hW.own) (fun k bk _ hk => keep _ _ hk) hW.six rfl rfl
theorem ret_in {B M : Mem} {id mid : Nat} {o : Lf} {W : Wit} (hW : WIn B M id mid o W) (t : Nat) (ht : t < 6) (a : Ans) (hp : (W.ws.getD t default).ans.pairs.length ≤ 1000000) :
    XCalls Go.Proofs.Try.prog 16 [.l (.ptr id 0 0), .l (.int .i64 t), .agg a.row] M fun r M' => r = .l (.bool (retB W t a)) ∧ WIn B M' id mid o (retW W t) := by
  refine xcalls_intro (rs := [.tmp 6]) Go.Proofs.Try.func16 rfl (by kernel_rfl) rfl rfl (by kernel_rfl) (by simp) ?_
  have hM := hW.own
  rw [wB] at hM
  have ht6 : t < W.ws.length := by have := hW.six; omega
  have hd := w_drop (W := W) (mid := mid) (o := o) ht6
  have hln := w_len (W := W) (mid := mid) (o := o) hW.six
  have hso := w_set (W := W) (mid := mid) (o := o) ht6 wk0
  rw [row_wk] at hd hso
  simp only [wk0, Bool.false_eq_true, if_false, ans0] at hso
  have hle1 : (1 + t * 13 + 13 ≤ 81) = True := eq_true (by omega)
  simp -implicitDefEqProofs (maxSteps := 1000000) (disch := omega) only [↓xsP, ↓vc_seq, xsQ, xsT, xsR, xsD, ↓reduceIte, reduceCtorEq, eq_self, ne_eq, imp_self, forall_const, Nat.reduceEqDiff, Nat.reduceAdd, Nat.reduceSub, Nat.reduceMul, Nat.reduceLT, Nat.reduceLeDiff, Nat.reduceBEq, Nat.reduceDiv, Nat.reduceMod, Int.reduceToNat, Int.reduceNeg, Int.reduceAdd, Int.reduceSub, Int.reduceMul, Int.reduceEq, Int.reduceNe, Int.reduceLT, Int.reduceLE, Int.reduceGT, Int.reduceGE]
  refine newI_intro fun id5 hid5 => ?_
  have k5 := lt_of_bnd hid5 hM
  have hW5 := hW.new hid5 (.cells 29 [a.row] 0)
  simp -implicitDefEqProofs (maxSteps := 1000000) (disch := omega) only [↓xsP, ↓vc_seq, xsQ, xsT, xsR, xsD, ↓reduceIte, reduceCtorEq, eq_self, ne_eq, imp_self, forall_const, Nat.reduceEqDiff, Nat.reduceAdd, Nat.reduceSub, Nat.reduceMul, Nat.reduceLT, Nat.reduceLeDiff, Nat.reduceBEq, Nat.reduceDiv, Nat.reduceMod, Int.reduceToNat, Int.reduceNeg, Int.reduceAdd, Int.reduceSub, Int.reduceMul, Int.reduceEq, Int.reduceNe, Int.reduceLT, Int.reduceLE, Int.reduceGT, Int.reduceGE]
  refine call_of (busy_in hW5 t ht) ?_
  rw [retB, retW]
  cases hb : (W.ws.getD t default).busy with
  | false =>
    simp -implicitDefEqProofs (maxSteps := 1000000) (disch := omega) only [↓xsP, ↓vc_seq, xsQ, xsT, xsR, xsD, ↓reduceIte, reduceCtorEq, eq_self, ne_eq, imp_self, forall_const, Nat.reduceEqDiff, Nat.reduceAdd, Nat.reduceSub, Nat.reduceMul, Nat.reduceLT, Nat.reduceLeDiff, Nat.reduceBEq, Nat.reduceDiv, Nat.reduceMod, Int.reduceToNat, Int.reduceNeg, Int.reduceAdd, Int.reduceSub, Int.reduceMul, Int.reduceEq, Int.reduceNe, Int.reduceLT, Int.reduceLE, Int.reduceGT, Int.reduceGE]
    refine fin_ok (Mem.le_refl _) ⟨rfl, ?_⟩
    simp only [Bool.false_eq_true, if_false]
    exact hW5
  | true =>
    have hq : (0 ≤ (t : Int) ∧ (t : Int) < ((6 : Nat) : Int)) = True := eq_true ⟨by omega, by omega⟩
    simp -implicitDefEqProofs (maxSteps := 1000000) (disch := omega) only [↓xsP, ↓vc_seq, xsQ, xsT, xsR, xsD, ↓reduceIte, reduceCtorEq, eq_self, ne_eq, imp_self, forall_const, Nat.reduceEqDiff, Nat.reduceAdd, Nat.reduceSub, Nat.reduceMul, Nat.reduceLT, Nat.reduceLeDiff, Nat.reduceBEq, Nat.reduceDiv, Nat.reduceMod, Int.reduceToNat, Int.reduceNeg, Int.reduceAdd, Int.reduceSub, Int.reduceMul, Int.reduceEq, Int.reduceNe, Int.reduceLT, Int.reduceLE, Int.reduceGT, Int.reduceGE, hM]
    rw [if_pos ⟨by omega, by omega⟩]
    simp -implicitDefEqProofs (maxSteps := 1000000) (disch := omega) only [↓xsP, ↓vc_seq, xsQ, xsT, xsR, xsD, ↓reduceIte, reduceCtorEq, eq_self, ne_eq, imp_self, forall_const, Nat.reduceEqDiff, Nat.reduceAdd, Nat.reduceSub, Nat.reduceMul, Nat.reduceLT, Nat.reduceLeDiff, Nat.reduceBEq, Nat.reduceDiv, Nat.reduceMod, Int.reduceToNat, Int.reduceNeg, Int.reduceAdd, Int.reduceSub, Int.reduceMul, Int.reduceEq, Int.reduceNe, Int.reduceLT, Int.reduceLE, Int.reduceGT, Int.reduceGE, hM, hd]
    refine newI_intro fun id7 hid7 => ?_
    simp -implicitDefEqProofs (maxSteps := 1000000) (disch := omega) only [↓xsP, ↓vc_seq, xsQ, xsT, xsR, xsD, ↓reduceIte, reduceCtorEq, eq_self, ne_eq, imp_self, forall_const, Nat.reduceEqDiff, Nat.reduceAdd, Nat.reduceSub, Nat.reduceMul, Nat.reduceLT, Nat.reduceLeDiff, Nat.reduceBEq, Nat.reduceDiv, Nat.reduceMod, Int.reduceToNat, Int.reduceNeg, Int.reduceAdd, Int.reduceSub, Int.reduceMul, Int.reduceEq, Int.reduceNe, Int.reduceLT, Int.reduceLE, Int.reduceGT, Int.reduceGE, hM, hd]
    rw [if_pos ⟨by omega, by omega⟩]
    obtain ⟨k57, hid7M⟩ := bnd_new hid7
    have k7 := lt_of_bnd hid7M hM
    simp -implicitDefEqProofs (maxSteps := 1000000) (disch := omega) only [↓xsP, ↓vc_seq, xsQ, xsT, xsR, xsD, ↓reduceIte, reduceCtorEq, eq_self, ne_eq, imp_self, forall_const, Nat.reduceEqDiff, Nat.reduceAdd, Nat.reduceSub, Nat.reduceMul, Nat.reduceLT, Nat.reduceLeDiff, Nat.reduceBEq, Nat.reduceDiv, Nat.reduceMod, Int.reduceToNat, Int.reduceNeg, Int.reduceAdd, Int.reduceSub, Int.reduceMul, Int.reduceEq, Int.reduceNe, Int.reduceLT, Int.reduceLE, Int.reduceGT, Int.reduceGE, hM, hd, hln, hle1]
    rw [hso]
    have hend : ∀ X Y : Blk, WIn B (((M.set id5 X).set id7 Y).set id (wB mid o { W with ws := W.ws.set t wk0 })) id mid o { W with ws := W.ws.set t wk0 } := fun X Y =>
      hW.upd (Mem.set_eq _ _ _) (fun k bk hk h => by
        have a1 := lt_of_bnd hid5 h
        have a2 := lt_of_bnd hid7M h
        rw [Mem.set_ne _ _ _ _ (fun e => hk e.symm), Mem.set_ne _ _ _ _ (by omega), Mem.set_ne _ _ _ _ (by omega)]
        exact h) (by simpa using hW.six) rfl rfl
    cases htk : (W.ws.getD t default).took with
    | true =>
      simp -implicitDefEqProofs (maxSteps := 1000000) (disch := omega) only [↓xsP, ↓vc_seq, xsQ, xsT, xsR, xsD, ↓reduceIte, reduceCtorEq, eq_self, ne_eq, imp_self, forall_const, Nat.reduceEqDiff, Nat.reduceAdd, Nat.reduceSub, Nat.reduceMul, Nat.reduceLT, Nat.reduceLeDiff, Nat.reduceBEq, Nat.reduceDiv, Nat.reduceMod, Int.reduceToNat, Int.reduceNeg, Int.reduceAdd, Int.reduceSub, Int.reduceMul, Int.reduceEq, Int.reduceNe, Int.reduceLT, Int.reduceLE, Int.reduceGT, Int.reduceGE]
      refine call_of (sameAns_spec (W.ws.getD t default).ans a (by omega) _) ?_
      simp -implicitDefEqProofs (maxSteps := 1000000) (disch := omega) only [↓xsP, ↓vc_seq, xsQ, xsT, xsR, xsD, ↓reduceIte, reduceCtorEq, eq_self, ne_eq, imp_self, forall_const, Nat.reduceEqDiff, Nat.reduceAdd, Nat.reduceSub, Nat.reduceMul, Nat.reduceLT, Nat.reduceLeDiff, Nat.reduceBEq, Nat.reduceDiv, Nat.reduceMod, Int.reduceToNat, Int.reduceNeg, Int.reduceAdd, Int.reduceSub, Int.reduceMul, Int.reduceEq, Int.reduceNe, Int.reduceLT, Int.reduceLE, Int.reduceGT, Int.reduceGE]
      refine fin_ok (Mem.le_refl _) ⟨?_, ?_⟩
      · simp
      · exact hend _ _
    | false =>
      simp -implicitDefEqProofs (maxSteps := 1000000) (disch := omega) only [↓xsP, ↓vc_seq, xsQ, xsT, xsR, xsD, ↓reduceIte, reduceCtorEq, eq_self, ne_eq, imp_self, forall_const, Nat.reduceEqDiff, Nat.reduceAdd, Nat.reduceSub, Nat.reduceMul, Nat.reduceLT, Nat.reduceLeDiff, Nat.reduceBEq, Nat.reduceDiv, Nat.reduceMod, Int.reduceToNat, Int.reduceNeg, Int.reduceAdd, Int.reduceSub, Int.reduceMul, Int.reduceEq, Int.reduceNe, Int.reduceLT, Int.reduceLE, Int.reduceGT, Int.reduceGE]
      refine fin_ok (Mem.le_refl _) ⟨?_, ?_⟩
      · simp
      · exact hend _ _
theorem worder_nil (M : Mem) : XCalls Go.Proofs.Try.prog 17 [.l .nilp] M fun r M' => r = .l (.sl []) ∧ M' = M := by
  refine xcalls_intro (rs := [.tmp 2]) Go.Proofs.Try.func17 rfl (by kernel_rfl) rfl rfl (by kernel_rfl) (by simp) ?_
  simp -implicitDefEqProofs (maxSteps := 1000000) (disch := omega) only [↓xsP, ↓vc_seq, xsQ, xsT, xsR, xsD, ↓reduceIte, reduceCtorEq, eq_self, ne_eq, imp_self, forall_const, Nat.reduceEqDiff, Nat.reduceAdd, Nat.reduceSub, Nat.reduceMul, Nat.reduceLT, Nat.reduceLeDiff, Nat.reduceBEq, Nat.reduceDiv, Nat.reduceMod, Int.reduceToNat, Int.reduceNeg, Int.reduceAdd, Int.reduceSub, Int.reduceMul, Int.reduceEq, Int.reduceNe, Int.reduceLT, Int.reduceLE, Int.reduceGT, Int.reduceGE]
  exact finI_of (XFin.wk (XFin.here ⟨rfl, rfl⟩))
theorem wpairs_nil (M : Mem) : XCalls Go.Proofs.Try.prog 18 [.l .nilp] M fun r M' => r = .l (.sl []) ∧ M' = M := by
  refine xcalls_intro (rs := [.tmp 2]) Go.Proofs.Try.func18 rfl (by kernel_rfl) rfl rfl (by kernel_rfl) (by simp) ?_
  simp -implicitDefEqProofs (maxSteps := 1000000) (disch := omega) only [↓xsP, ↓vc_seq, xsQ, xsT, xsR, xsD, ↓reduceIte, reduceCtorEq, eq_self, ne_eq, imp_self, forall_const, Nat.reduceEqDiff, Nat.reduceAdd, Nat.reduceSub, Nat.reduceMul, Nat.reduceLT, Nat.reduceLeDiff, Nat.reduceBEq, Nat.reduceDiv, Nat.reduceMod, Int.reduceToNat, Int.reduceNeg, Int.reduceAdd, Int.reduceSub, Int.reduceMul, Int.reduceEq, Int.reduceNe, Int.reduceLT, Int.reduceLE, Int.reduceGT, Int.reduceGE]
  exact finI_of (XFin.wk (XFin.here ⟨rfl, rfl⟩))
theorem wpairs_spec {B M : Mem} {id mid : Nat} {o : Lf} {W : Wit} (hW : WIn B M id mid o W) (hs : W.s.length ≤ 1000000) : XCalls Go.Proofs.Try.prog 18 [.l (.ptr id 0 0)] M fun r M' => r = .l (.sl (W.s.map Pr.row)) ∧ M' = M := by
  refine xcalls_intro (rs := [.tmp 2]) Go.Proofs.Try.func18 rfl (by kernel_rfl) rfl rfl (by kernel_rfl) (by simp) ?_
  have hM := hW.own
  rw [wB] at hM
  have hd0 : wRow mid o W = .ptr mid 0 0 :: ((W.ws.map Wk.row).flatten ++ [.int .i64 W.calls, o]) := rfl
  simp -implicitDefEqProofs (maxSteps := 1000000) (disch := omega) only [↓xsP, ↓vc_seq, xsQ, xsT, xsR, xsD, ↓reduceIte, reduceCtorEq, eq_self, ne_eq, imp_self, forall_const, Nat.reduceEqDiff, Nat.reduceAdd, Nat.reduceSub, Nat.reduceMul, Nat.reduceLT, Nat.reduceLeDiff, Nat.reduceBEq, Nat.reduceDiv, Nat.reduceMod, Int.reduceToNat, Int.reduceNeg, Int.reduceAdd, Int.reduceSub, Int.reduceMul, Int.reduceEq, Int.reduceNe, Int.reduceLT, Int.reduceLE, Int.reduceGT, Int.reduceGE, hM, hd0]
  refine call_of (pairs_spec W.s (by omega) mid _ hW.map) ?_
  simp -implicitDefEqProofs (maxSteps := 1000000) (disch := omega) only [↓xsP, ↓vc_seq, xsQ, xsT, xsR, xsD, ↓reduceIte, reduceCtorEq, eq_self, ne_eq, imp_self, forall_const, Nat.reduceEqDiff, Nat.reduceAdd, Nat.reduceSub, Nat.reduceMul, Nat.reduceLT, Nat.reduceLeDiff, Nat.reduceBEq, Nat.reduceDiv, Nat.reduceMod, Int.reduceToNat, Int.reduceNeg, Int.reduceAdd, Int.reduceSub, Int.reduceMul, Int.reduceEq, Int.reduceNe, Int.reduceLT, Int.reduceLE, Int.reduceGT, Int.reduceGE]
  exact fin_ok (Mem.le_refl _) ⟨rfl, rfl⟩
theorem clone_im (l : List Int) (hl : l.length ≤ 1000000) (M : Mem) (id : Nat) (hM : M id = some (.cells 3 (l.map irow) 0)) : XCalls Go.Proofs.Try.prog 43 [.l (.ms id 0 l.length)] M fun r M' => r = .l (.sl (l.map irow)) ∧ M' = M := by
  refine xcalls_intro (rs := [.tmp 2]) Go.Proofs.Try.func43 rfl (by kernel_rfl) rfl rfl (by kernel_rfl) (by simp) ?_
  simp -implicitDefEqProofs (maxSteps := 1000000) (disch := omega) only [↓xsP, ↓vc_seq, xsQ, xsT, xsR, xsD, ↓reduceIte, reduceCtorEq, eq_self, ne_eq, imp_self, forall_const, Nat.reduceEqDiff, Nat.reduceAdd, Nat.reduceSub, Nat.reduceMul, Nat.reduceLT, Nat.reduceLeDiff, Nat.reduceBEq, Nat.reduceDiv, Nat.reduceMod, Int.reduceToNat, Int.reduceNeg, Int.reduceAdd, Int.reduceSub, Int.reduceMul, Int.reduceEq, Int.reduceNe, Int.reduceLT, Int.reduceLE, Int.reduceGT, Int.reduceGE]
  rw [eql_nils _ _ _ _ _ (fun k n e => by cases e)]
  simp -implicitDefEqProofs (maxSteps := 1000000) (disch := omega) only [↓xsP, ↓vc_seq, xsQ, xsT, xsR, xsD, ↓reduceIte, reduceCtorEq, eq_self, ne_eq, imp_self, forall_const, Nat.reduceEqDiff, Nat.reduceAdd, Nat.reduceSub, Nat.reduceMul, Nat.reduceLT, Nat.reduceLeDiff, Nat.reduceBEq, Nat.reduceDiv, Nat.reduceMod, Int.reduceToNat, Int.reduceNeg, Int.reduceAdd, Int.reduceSub, Int.reduceMul, Int.reduceEq, Int.reduceNe, Int.reduceLT, Int.reduceLE, Int.reduceGT, Int.reduceGE]
  refine newI_intro fun id1 hid1 => ?_
  have k1 := lt_of_bnd hid1 hM
  simp -implicitDefEqProofs (maxSteps := 1000000) (disch := omega) only [↓xsP, ↓vc_seq, xsQ, xsT, xsR, xsD, ↓reduceIte, reduceCtorEq, eq_self, ne_eq, imp_self, forall_const, Nat.reduceEqDiff, Nat.reduceAdd, Nat.reduceSub, Nat.reduceMul, Nat.reduceLT, Nat.reduceLeDiff, Nat.reduceBEq, Nat.reduceDiv, Nat.reduceMod, Int.reduceToNat, Int.reduceNeg, Int.reduceAdd, Int.reduceSub, Int.reduceMul, Int.reduceEq, Int.reduceNe, Int.reduceLT, Int.reduceLE, Int.reduceGT, Int.reduceGE]
  refine app_ms _ _ _ _ 3 _ _ ti_39 rfl ti_3 (by kernel_rfl) (by decide) id1 0 _ (rows := []) (keep := 0) (l.map irow) (Mem.set_eq _ _ _) ?_ (Nat.le_refl _) (Nat.zero_le _) ?_ ?_ (fun idA hidA => ?_)
  · simp (disch := omega) only [srcRows, Mem.set_ne, hM, if_true]
    rw [if_pos ⟨trivial, by simp⟩]
    simp [List.take_of_length_le]
  · exact Nat.le_trans (Nat.mul_le_mul_right _ (show 0 + (l.map irow).length ≤ 1000001 by simp; omega)) (by decide)
  · simp
    omega
  obtain ⟨k2, hidA⟩ := bnd_new hidA
  simp -implicitDefEqProofs (maxSteps := 1000000) (disch := omega) only [↓xsP, ↓vc_seq, xsQ, xsT, xsR, xsD, ↓reduceIte, reduceCtorEq, eq_self, ne_eq, imp_self, forall_const, Nat.reduceEqDiff, Nat.reduceAdd, Nat.reduceSub, Nat.reduceMul, Nat.reduceLT, Nat.reduceLeDiff, Nat.reduceBEq, Nat.reduceDiv, Nat.reduceMod, Int.reduceToNat, Int.reduceNeg, Int.reduceAdd, Int.reduceSub, Int.reduceMul, Int.reduceEq, Int.reduceNe, Int.reduceLT, Int.reduceLE, Int.reduceGT, Int.reduceGE]
  refine finI_of (XFin.frz idA (Mem.set_eq _ _ _) (XFin.le ?_ ⟨?_, rfl⟩))
  · rw [Mem.set_set]
    refine fun k bk hk => ?_
    have := lt_of_bnd hid1 hk
    have := lt_of_bnd hidA hk
    rw [Mem.set_ne _ _ _ _ (by omega), Mem.del_ne _ _ _ (by omega), Mem.set_ne _ _ _ _ (by omega)]
    exact hk
  · simp [frzA, frz1, frzL, List.take_of_length_le]
theorem clone_in (M : Mem) : XCalls Go.Proofs.Try.prog 43 [.l .nils] M fun r M' => r = .l (.sl []) ∧ M' = M := by
  refine XCalls.wk ?_
  show XCalls Go.Proofs.Try.prog 43 [.l (.sl [])] M _
  refine xcalls_intro (rs := [.tmp 2]) Go.Proofs.Try.func43 rfl (by kernel_rfl) rfl rfl (by kernel_rfl) (by simp) ?_
  simp -implicitDefEqProofs (maxSteps := 1000000) (disch := omega) only [↓xsP, ↓vc_seq, xsQ, xsT, xsR, xsD, ↓reduceIte, reduceCtorEq, eq_self, ne_eq, imp_self, forall_const, Nat.reduceEqDiff, Nat.reduceAdd, Nat.reduceSub, Nat.reduceMul, Nat.reduceLT, Nat.reduceLeDiff, Nat.reduceBEq, Nat.reduceDiv, Nat.reduceMod, Int.reduceToNat, Int.reduceNeg, Int.reduceAdd, Int.reduceSub, Int.reduceMul, Int.reduceEq, Int.reduceNe, Int.reduceLT, Int.reduceLE, Int.reduceGT, Int.reduceGE]
  rw [eql_nils _ _ _ _ _ (fun k n e => by cases e)]
  simp -implicitDefEqProofs (maxSteps := 1000000) (disch := omega) only [↓xsP, ↓vc_seq, xsQ, xsT, xsR, xsD, ↓reduceIte, reduceCtorEq, eq_self, ne_eq, imp_self, forall_const, Nat.reduceEqDiff, Nat.reduceAdd, Nat.reduceSub, Nat.reduceMul, Nat.reduceLT, Nat.reduceLeDiff, Nat.reduceBEq, Nat.reduceDiv, Nat.reduceMod, Int.reduceToNat, Int.reduceNeg, Int.reduceAdd, Int.reduceSub, Int.reduceMul, Int.reduceEq, Int.reduceNe, Int.reduceLT, Int.reduceLE, Int.reduceGT, Int.reduceGE]
  refine nilSI_sl _ (fun he b => ?_) (fun hne => absurd rfl hne)
  cases b with
  | true =>
    simp -implicitDefEqProofs (maxSteps := 1000000) (disch := omega) only [↓xsP, ↓vc_seq, xsQ, xsT, xsR, xsD, ↓reduceIte, reduceCtorEq, eq_self, ne_eq, imp_self, forall_const, Nat.reduceEqDiff, Nat.reduceAdd, Nat.reduceSub, Nat.reduceMul, Nat.reduceLT, Nat.reduceLeDiff, Nat.reduceBEq, Nat.reduceDiv, Nat.reduceMod, Int.reduceToNat, Int.reduceNeg, Int.reduceAdd, Int.reduceSub, Int.reduceMul, Int.reduceEq, Int.reduceNe, Int.reduceLT, Int.reduceLE, Int.reduceGT, Int.reduceGE]
    exact finI_of (XFin.wk (XFin.here ⟨rfl, rfl⟩))
  | false =>
    simp -implicitDefEqProofs (maxSteps := 1000000) (disch := omega) only [↓xsP, ↓vc_seq, xsQ, xsT, xsR, xsD, ↓reduceIte, reduceCtorEq, eq_self, ne_eq, imp_self, forall_const, Nat.reduceEqDiff, Nat.reduceAdd, Nat.reduceSub, Nat.reduceMul, Nat.reduceLT, Nat.reduceLeDiff, Nat.reduceBEq, Nat.reduceDiv, Nat.reduceMod, Int.reduceToNat, Int.reduceNeg, Int.reduceAdd, Int.reduceSub, Int.reduceMul, Int.reduceEq, Int.reduceNe, Int.reduceLT, Int.reduceLE, Int.reduceGT, Int.reduceGE]
    refine newI_intro fun id1 hid1 => ?_
    simp -implicitDefEqProofs (maxSteps := 1000000) (disch := omega) only [↓xsP, ↓vc_seq, xsQ, xsT, xsR, xsD, ↓reduceIte, reduceCtorEq, eq_self, ne_eq, imp_self, forall_const, Nat.reduceEqDiff, Nat.reduceAdd, Nat.reduceSub, Nat.reduceMul, Nat.reduceLT, Nat.reduceLeDiff, Nat.reduceBEq, Nat.reduceDiv, Nat.reduceMod, Int.reduceToNat, Int.reduceNeg, Int.reduceAdd, Int.reduceSub, Int.reduceMul, Int.reduceEq, Int.reduceNe, Int.reduceLT, Int.reduceLE, Int.reduceGT, Int.reduceGE]
    refine app_ms _ _ _ _ 3 _ _ ti_39 rfl ti_3 (by kernel_rfl) (by decide) id1 0 _ (rows := []) (keep := 0) [] (Mem.set_eq _ _ _) ?_ (Nat.le_refl _) (Nat.zero_le _) ?_ ?_ (fun idA hidA => ?_)
    · simp -implicitDefEqProofs (maxSteps := 1000000) (disch := omega) only [↓xsP, ↓vc_seq, xsQ, xsT, xsR, xsD, ↓reduceIte, reduceCtorEq, eq_self, ne_eq, imp_self, forall_const, Nat.reduceEqDiff, Nat.reduceAdd, Nat.reduceSub, Nat.reduceMul, Nat.reduceLT, Nat.reduceLeDiff, Nat.reduceBEq, Nat.reduceDiv, Nat.reduceMod, Int.reduceToNat, Int.reduceNeg, Int.reduceAdd, Int.reduceSub, Int.reduceMul, Int.reduceEq, Int.reduceNe, Int.reduceLT, Int.reduceLE, Int.reduceGT, Int.reduceGE]
      rw [if_pos (by simp)]
    · simp
    · simp
    obtain ⟨k2, hidA⟩ := bnd_new hidA
    simp -implicitDefEqProofs (maxSteps := 1000000) (disch := omega) only [↓xsP, ↓vc_seq, xsQ, xsT, xsR, xsD, ↓reduceIte, reduceCtorEq, eq_self, ne_eq, imp_self, forall_const, Nat.reduceEqDiff, Nat.reduceAdd, Nat.reduceSub, Nat.reduceMul, Nat.reduceLT, Nat.reduceLeDiff, Nat.reduceBEq, Nat.reduceDiv, Nat.reduceMod, Int.reduceToNat, Int.reduceNeg, Int.reduceAdd, Int.reduceSub, Int.reduceMul, Int.reduceEq, Int.reduceNe, Int.reduceLT, Int.reduceLE, Int.reduceGT, Int.reduceGE]
    refine finI_of (XFin.frz idA (Mem.set_eq _ _ _) (XFin.le ?_ ⟨?_, rfl⟩))
    · rw [Mem.set_set]
      refine fun k bk hk => ?_
      have := lt_of_bnd hid1 hk
      rw [Mem.set_ne _ _ _ _ (by omega), Mem.del_ne _ _ _ (by omega), Mem.set_ne _ _ _ _ (by omega)]
      exact hk
    · simp [frzA, frz1, frzL]
theorem worder_spec {B M : Mem} {id mid : Nat} {o : Lf} {W : Wit} (hW : WIn B M id mid o W) (hs : W.ord.length ≤ 1000000) : XCalls Go.Proofs.Try.prog 17 [.l (.ptr id 0 0)] M fun r M' => r = .l (.sl (W.ord.map irow)) ∧ M' = M := by
  refine xcalls_intro (rs := [.tmp 2]) Go.Proofs.Try.func17 rfl (by kernel_rfl) rfl rfl (by kernel_rfl) (by simp) ?_
  have hM := hW.own
  rw [wB] at hM
  have htl := w_tail (W := W) (mid := mid) (o := o) hW.six
  have hd80 : (wRow mid o W).drop 80 = [o] := by rw [show 80 = 79 + 1 from rfl, ← List.drop_drop, htl]; rfl
  simp -implicitDefEqProofs (maxSteps := 1000000) (disch := omega) only [↓xsP, ↓vc_seq, xsQ, xsT, xsR, xsD, ↓reduceIte, reduceCtorEq, eq_self, ne_eq, imp_self, forall_const, Nat.reduceEqDiff, Nat.reduceAdd, Nat.reduceSub, Nat.reduceMul, Nat.reduceLT, Nat.reduceLeDiff, Nat.reduceBEq, Nat.reduceDiv, Nat.reduceMod, Int.reduceToNat, Int.reduceNeg, Int.reduceAdd, Int.reduceSub, Int.reduceMul, Int.reduceEq, Int.reduceNe, Int.reduceLT, Int.reduceLE, Int.reduceGT, Int.reduceGE, hM, hd80]
  rcases hW.ord with ⟨h1, rfl⟩ | ⟨idO, a1, a2, a3, rfl, a5⟩
  · refine call_of (clone_in _) ?_
    simp -implicitDefEqProofs (maxSteps := 1000000) (disch := omega) only [↓xsP, ↓vc_seq, xsQ, xsT, xsR, xsD, ↓reduceIte, reduceCtorEq, eq_self, ne_eq, imp_self, forall_const, Nat.reduceEqDiff, Nat.reduceAdd, Nat.reduceSub, Nat.reduceMul, Nat.reduceLT, Nat.reduceLeDiff, Nat.reduceBEq, Nat.reduceDiv, Nat.reduceMod, Int.reduceToNat, Int.reduceNeg, Int.reduceAdd, Int.reduceSub, Int.reduceMul, Int.reduceEq, Int.reduceNe, Int.reduceLT, Int.reduceLE, Int.reduceGT, Int.reduceGE]
    exact fin_ok (Mem.le_refl _) ⟨by rw [h1]; rfl, rfl⟩
  · refine call_of (clone_im W.ord hs _ idO a5) ?_
    simp -implicitDefEqProofs (maxSteps := 1000000) (disch := omega) only [↓xsP, ↓vc_seq, xsQ, xsT, xsR, xsD, ↓reduceIte, reduceCtorEq, eq_self, ne_eq, imp_self, forall_const, Nat.reduceEqDiff, Nat.reduceAdd, Nat.reduceSub, Nat.reduceMul, Nat.reduceLT, Nat.reduceLeDiff, Nat.reduceBEq, Nat.reduceDiv, Nat.reduceMod, Int.reduceToNat, Int.reduceNeg, Int.reduceAdd, Int.reduceSub, Int.reduceMul, Int.reduceEq, Int.reduceNe, Int.reduceLT, Int.reduceLE, Int.reduceGT, Int.reduceGE]
    exact fin_ok (Mem.le_refl _) ⟨rfl, rfl⟩
end Go.X
