/- Texts joined: Od Oe Of Og. -/
import Derived.Test.YtjhpfaiiknpnmaaZ4
import Derived.Test.YtjhpfaiiknpnmaaZ2
import Derived.Test.YtjhpfaiiknpnmaaZ3

/- The reference's Calls, Before, refused. -/


set_option linter.unusedVariables false
set_option linter.unusedSimpArgs false
set_option maxHeartbeats 20000000
set_option maxRecDepth 100000
namespace Go.X
open Go.Proofs.Try (prog)

theorem beforeR_spec (c d : Cl) (M : Mem) : XCalls Go.Proofs.Try.prog 52 [.agg c.row, .agg d.row] M fun r M' => r = .l (.bool (decide (0 ≤ c.fin) && decide (c.fin < d.beg))) ∧ M' = M := by
  refine xcalls_intro (rs := [.tmp 4]) Go.Proofs.Try.func52 rfl (by kernel_rfl) rfl rfl (by kernel_rfl) (by simp) ?_
  simp -implicitDefEqProofs (maxSteps := 1000000) (disch := omega) only [↓xsP, ↓vc_seq, xsQ, xsT, xsR, xsD, ↓reduceIte, reduceCtorEq, eq_self, ne_eq, imp_self, forall_const, Nat.reduceEqDiff, Nat.reduceAdd, Nat.reduceSub, Nat.reduceMul, Nat.reduceLT, Nat.reduceLeDiff, Nat.reduceBEq, Nat.reduceDiv, Nat.reduceMod, Int.reduceToNat, Int.reduceNeg, Int.reduceAdd, Int.reduceSub, Int.reduceMul, Int.reduceEq, Int.reduceNe, Int.reduceLT, Int.reduceLE, Int.reduceGT, Int.reduceGE]
  refine newI_intro fun id1 hid1 => ?_
  simp -implicitDefEqProofs (maxSteps := 1000000) (disch := omega) only [↓xsP, ↓vc_seq, xsQ, xsT, xsR, xsD, ↓reduceIte, reduceCtorEq, eq_self, ne_eq, imp_self, forall_const, Nat.reduceEqDiff, Nat.reduceAdd, Nat.reduceSub, Nat.reduceMul, Nat.reduceLT, Nat.reduceLeDiff, Nat.reduceBEq, Nat.reduceDiv, Nat.reduceMod, Int.reduceToNat, Int.reduceNeg, Int.reduceAdd, Int.reduceSub, Int.reduceMul, Int.reduceEq, Int.reduceNe, Int.reduceLT, Int.reduceLE, Int.reduceGT, Int.reduceGE]
  refine newI_intro fun id2 hid2 => ?_
  obtain ⟨h12, hid2⟩ := bnd_new hid2
  simp -implicitDefEqProofs (maxSteps := 1000000) (disch := omega) only [↓xsP, ↓vc_seq, xsQ, xsT, xsR, xsD, ↓reduceIte, reduceCtorEq, eq_self, ne_eq, imp_self, forall_const, Nat.reduceEqDiff, Nat.reduceAdd, Nat.reduceSub, Nat.reduceMul, Nat.reduceLT, Nat.reduceLeDiff, Nat.reduceBEq, Nat.reduceDiv, Nat.reduceMod, Int.reduceToNat, Int.reduceNeg, Int.reduceAdd, Int.reduceSub, Int.reduceMul, Int.reduceEq, Int.reduceNe, Int.reduceLT, Int.reduceLE, Int.reduceGT, Int.reduceGE]
  refine gI_prop (fun h => ?_) (fun h => ?_)
  · simp -implicitDefEqProofs (maxSteps := 1000000) (disch := omega) only [↓xsP, ↓vc_seq, xsQ, xsT, xsR, xsD, ↓reduceIte, reduceCtorEq, eq_self, ne_eq, imp_self, forall_const, Nat.reduceEqDiff, Nat.reduceAdd, Nat.reduceSub, Nat.reduceMul, Nat.reduceLT, Nat.reduceLeDiff, Nat.reduceBEq, Nat.reduceDiv, Nat.reduceMod, Int.reduceToNat, Int.reduceNeg, Int.reduceAdd, Int.reduceSub, Int.reduceMul, Int.reduceEq, Int.reduceNe, Int.reduceLT, Int.reduceLE, Int.reduceGT, Int.reduceGE, h]
    exact fin_ok (le_new (le_new (Mem.le_refl _) hid1) hid2) ⟨by rw [decide_eq_true (show 0 ≤ c.fin from h)]; rfl, rfl⟩
  · simp -implicitDefEqProofs (maxSteps := 1000000) (disch := omega) only [↓xsP, ↓vc_seq, xsQ, xsT, xsR, xsD, ↓reduceIte, reduceCtorEq, eq_self, ne_eq, imp_self, forall_const, Nat.reduceEqDiff, Nat.reduceAdd, Nat.reduceSub, Nat.reduceMul, Nat.reduceLT, Nat.reduceLeDiff, Nat.reduceBEq, Nat.reduceDiv, Nat.reduceMod, Int.reduceToNat, Int.reduceNeg, Int.reduceAdd, Int.reduceSub, Int.reduceMul, Int.reduceEq, Int.reduceNe, Int.reduceLT, Int.reduceLE, Int.reduceGT, Int.reduceGE, h]
    exact fin_ok (le_new (le_new (Mem.le_refl _) hid1) hid2) ⟨by rw [decide_eq_false (show ¬ 0 ≤ c.fin from h)]; rfl, rfl⟩
def refB (c : Cl) : Bool := decide (0 ≤ c.fin) && !decide (c.ans.err = 0)
theorem refused_spec (c : Cl) (M : Mem) : XCalls Go.Proofs.Try.prog 51 [.agg c.row] M fun r M' => r = .l (.bool (refB c)) ∧ M' = M := by
  refine xcalls_intro (rs := [.tmp 2]) Go.Proofs.Try.func51 rfl (by kernel_rfl) rfl rfl (by kernel_rfl) (by simp) ?_
  simp -implicitDefEqProofs (maxSteps := 1000000) (disch := omega) only [↓xsP, ↓vc_seq, xsQ, xsT, xsR, xsD, ↓reduceIte, reduceCtorEq, eq_self, ne_eq, imp_self, forall_const, Nat.reduceEqDiff, Nat.reduceAdd, Nat.reduceSub, Nat.reduceMul, Nat.reduceLT, Nat.reduceLeDiff, Nat.reduceBEq, Nat.reduceDiv, Nat.reduceMod, Int.reduceToNat, Int.reduceNeg, Int.reduceAdd, Int.reduceSub, Int.reduceMul, Int.reduceEq, Int.reduceNe, Int.reduceLT, Int.reduceLE, Int.reduceGT, Int.reduceGE]
  refine newI_intro fun id1 hid1 => ?_
  simp -implicitDefEqProofs (maxSteps := 1000000) (disch := omega) only [↓xsP, ↓vc_seq, xsQ, xsT, xsR, xsD, ↓reduceIte, reduceCtorEq, eq_self, ne_eq, imp_self, forall_const, Nat.reduceEqDiff, Nat.reduceAdd, Nat.reduceSub, Nat.reduceMul, Nat.reduceLT, Nat.reduceLeDiff, Nat.reduceBEq, Nat.reduceDiv, Nat.reduceMod, Int.reduceToNat, Int.reduceNeg, Int.reduceAdd, Int.reduceSub, Int.reduceMul, Int.reduceEq, Int.reduceNe, Int.reduceLT, Int.reduceLE, Int.reduceGT, Int.reduceGE]
  refine gI_prop (fun h => ?_) (fun h => ?_)
  · simp -implicitDefEqProofs (maxSteps := 1000000) (disch := omega) only [↓xsP, ↓vc_seq, xsQ, xsT, xsR, xsD, ↓reduceIte, reduceCtorEq, eq_self, ne_eq, imp_self, forall_const, Nat.reduceEqDiff, Nat.reduceAdd, Nat.reduceSub, Nat.reduceMul, Nat.reduceLT, Nat.reduceLeDiff, Nat.reduceBEq, Nat.reduceDiv, Nat.reduceMod, Int.reduceToNat, Int.reduceNeg, Int.reduceAdd, Int.reduceSub, Int.reduceMul, Int.reduceEq, Int.reduceNe, Int.reduceLT, Int.reduceLE, Int.reduceGT, Int.reduceGE, h]
    exact fin_ok (le_new (Mem.le_refl _) hid1) ⟨by rw [refB, decide_eq_true (show 0 ≤ c.fin from h), Bool.true_and, decide_not], rfl⟩
  · simp -implicitDefEqProofs (maxSteps := 1000000) (disch := omega) only [↓xsP, ↓vc_seq, xsQ, xsT, xsR, xsD, ↓reduceIte, reduceCtorEq, eq_self, ne_eq, imp_self, forall_const, Nat.reduceEqDiff, Nat.reduceAdd, Nat.reduceSub, Nat.reduceMul, Nat.reduceLT, Nat.reduceLeDiff, Nat.reduceBEq, Nat.reduceDiv, Nat.reduceMod, Int.reduceToNat, Int.reduceNeg, Int.reduceAdd, Int.reduceSub, Int.reduceMul, Int.reduceEq, Int.reduceNe, Int.reduceLT, Int.reduceLE, Int.reduceGT, Int.reduceGE, h]
    exact fin_ok (le_new (Mem.le_refl _) hid1) ⟨by rw [refB, decide_eq_false (show ¬ 0 ≤ c.fin from h)]; rfl, rfl⟩

theorem step_end1 {M B : Mem} {idA : Nat} {T : TypeId} {rows rows' : List (List Lf)} (hA : B idA = some (.cells T rows 0)) (hold : ∀ j b, j ≠ idA → M j = some b → B j = some b)
    (hr : rows.map (fun r => r.map wkL) = rows') : GStep B (M.set idA (.cells T rows' 0)) := by
  subst hr
  refine GStep.trans (GStep.wk hA) (GStep.le fun j b hj => ?_)
  rw [Mem.set_app] at hj ⊢
  by_cases e : idA = j
  · rw [if_pos e] at hj ⊢
    exact hj
  · rw [if_neg e] at hj ⊢
    exact hold j b (fun h => e h.symm) hj
theorem crun_len : ∀ (l : List Evt) (i : Nat) (out : List Cl), out.length ≤ (crun l i out).length
  | [], _, _ => Nat.le_refl _
  | x :: r, i, out => by
    refine Nat.le_trans ?_ (crun_len r (i + 1) _)
    rw [cstep]
    split
    · simp
    · split <;> simp
theorem cstep_len (i : Nat) (x : Evt) (out : List Cl) : (cstep i x out).length ≤ out.length + 1 := by
  rw [cstep]
  split
  · simp
  · split <;> simp
theorem callsR_spec (h : List Evt) (hs : Small h) (M : Mem) : XCalls Go.Proofs.Try.prog 34 [.l (.sl (h.map Evt.row))] M fun r M' => r = .l (.sl ((callsP h).map Cl.row)) ∧ M' = M := by
  refine xcalls_intro (rs := [.tmp 2]) Go.Proofs.Try.func34 rfl (by kernel_rfl) rfl rfl (by kernel_rfl) (by simp) ?_
  have hs1 := hs.1
  simp -implicitDefEqProofs (maxSteps := 1000000) (disch := omega) only [↓xsP, ↓vc_seq, xsQ, xsT, xsR, xsD, ↓reduceIte, reduceCtorEq, eq_self, ne_eq, imp_self, forall_const, Nat.reduceEqDiff, Nat.reduceAdd, Nat.reduceSub, Nat.reduceMul, Nat.reduceLT, Nat.reduceLeDiff, Nat.reduceBEq, Nat.reduceDiv, Nat.reduceMod, Int.reduceToNat, Int.reduceNeg, Int.reduceAdd, Int.reduceSub, Int.reduceMul, Int.reduceEq, Int.reduceNe, Int.reduceLT, Int.reduceLE, Int.reduceGT, Int.reduceGE]
  refine call_of (mayPast_spec h hs _) ?_
  rw [mayP_eq]
  cases hok : okP h with
  | false =>
    simp -implicitDefEqProofs (maxSteps := 1000000) (disch := omega) only [↓xsP, ↓vc_seq, xsQ, xsT, xsR, xsD, ↓reduceIte, reduceCtorEq, eq_self, ne_eq, imp_self, forall_const, Nat.reduceEqDiff, Nat.reduceAdd, Nat.reduceSub, Nat.reduceMul, Nat.reduceLT, Nat.reduceLeDiff, Nat.reduceBEq, Nat.reduceDiv, Nat.reduceMod, Int.reduceToNat, Int.reduceNeg, Int.reduceAdd, Int.reduceSub, Int.reduceMul, Int.reduceEq, Int.reduceNe, Int.reduceLT, Int.reduceLE, Int.reduceGT, Int.reduceGE]
    have hc : callsP h = [] := by
      unfold okP at hok
      unfold callsP
      cases hr : readP h with
      | none => rfl
      | some s => rw [hr] at hok; cases hok
    refine finI_of (XFin.wk (XFin.here ⟨?_, rfl⟩))
    rw [hc]
    rfl
  | true =>
    have hce := calR_eq hok
    simp -implicitDefEqProofs (maxSteps := 1000000) (disch := omega) only [↓xsP, ↓vc_seq, xsQ, xsT, xsR, xsD, ↓reduceIte, reduceCtorEq, eq_self, ne_eq, imp_self, forall_const, Nat.reduceEqDiff, Nat.reduceAdd, Nat.reduceSub, Nat.reduceMul, Nat.reduceLT, Nat.reduceLeDiff, Nat.reduceBEq, Nat.reduceDiv, Nat.reduceMod, Int.reduceToNat, Int.reduceNeg, Int.reduceAdd, Int.reduceSub, Int.reduceMul, Int.reduceEq, Int.reduceNe, Int.reduceLT, Int.reduceLE, Int.reduceGT, Int.reduceGE]
    refine xloopG (by kernel_rfl) (fun k fr M' => ∃ (i : Nat) (out : List Cl), i ≤ h.length ∧ k = h.length - i ∧ fr 10 = .l (.sl (h.map Evt.row)) ∧ fr 11 = .l (.int .i64 h.length) ∧ fr 12 = .l (.int .i64 i) ∧
      crun h 0 [] = crun (h.drop i) i out ∧ out.length ≤ i ∧
      ((out = [] ∧ fr 3 = .l .nils ∧ M' = M) ∨ ∃ idO, (∀ j, idO ≤ j → M j = none) ∧ fr 3 = .l (.ms idO 0 out.length) ∧ M' = M.set idO (.cells 61 (out.map Cl.row) 0))) h.length ?_ ?_
    · exact ⟨0, [], Nat.zero_le _, rfl, by simp -implicitDefEqProofs (maxSteps := 1000000) (disch := omega) only [↓xsP, ↓vc_seq, xsQ, xsT, xsR, xsD, ↓reduceIte, reduceCtorEq, eq_self, ne_eq, imp_self, forall_const, Nat.reduceEqDiff, Nat.reduceAdd, Nat.reduceSub, Nat.reduceMul, Nat.reduceLT, Nat.reduceLeDiff, Nat.reduceBEq, Nat.reduceDiv, Nat.reduceMod, Int.reduceToNat, Int.reduceNeg, Int.reduceAdd, Int.reduceSub, Int.reduceMul, Int.reduceEq, Int.reduceNe, Int.reduceLT, Int.reduceLE, Int.reduceGT, Int.reduceGE], by simp -implicitDefEqProofs (maxSteps := 1000000) (disch := omega) only [↓xsP, ↓vc_seq, xsQ, xsT, xsR, xsD, ↓reduceIte, reduceCtorEq, eq_self, ne_eq, imp_self, forall_const, Nat.reduceEqDiff, Nat.reduceAdd, Nat.reduceSub, Nat.reduceMul, Nat.reduceLT, Nat.reduceLeDiff, Nat.reduceBEq, Nat.reduceDiv, Nat.reduceMod, Int.reduceToNat, Int.reduceNeg, Int.reduceAdd, Int.reduceSub, Int.reduceMul, Int.reduceEq, Int.reduceNe, Int.reduceLT, Int.reduceLE, Int.reduceGT, Int.reduceGE], by simp -implicitDefEqProofs (maxSteps := 1000000) (disch := omega) only [↓xsP, ↓vc_seq, xsQ, xsT, xsR, xsD, ↓reduceIte, reduceCtorEq, eq_self, ne_eq, imp_self, forall_const, Nat.reduceEqDiff, Nat.reduceAdd, Nat.reduceSub, Nat.reduceMul, Nat.reduceLT, Nat.reduceLeDiff, Nat.reduceBEq, Nat.reduceDiv, Nat.reduceMod, Int.reduceToNat, Int.reduceNeg, Int.reduceAdd, Int.reduceSub, Int.reduceMul, Int.reduceEq, Int.reduceNe, Int.reduceLT, Int.reduceLE, Int.reduceGT, Int.reduceGE, Int.cast_ofNat_Int], rfl, Nat.le_refl _, .inl ⟨rfl, by simp -implicitDefEqProofs (maxSteps := 1000000) (disch := omega) only [↓xsP, ↓vc_seq, xsQ, xsT, xsR, xsD, ↓reduceIte, reduceCtorEq, eq_self, ne_eq, imp_self, forall_const, Nat.reduceEqDiff, Nat.reduceAdd, Nat.reduceSub, Nat.reduceMul, Nat.reduceLT, Nat.reduceLeDiff, Nat.reduceBEq, Nat.reduceDiv, Nat.reduceMod, Int.reduceToNat, Int.reduceNeg, Int.reduceAdd, Int.reduceSub, Int.reduceMul, Int.reduceEq, Int.reduceNe, Int.reduceLT, Int.reduceLE, Int.reduceGT, Int.reduceGE], rfl⟩⟩
    · rintro k fr M' ⟨i, out, hi, rfl, h10, h11, h12, hrun, hlen, hmem⟩
      simp -implicitDefEqProofs (maxSteps := 1000000) (disch := omega) only [↓xsP, ↓vc_seq, xsQ, xsT, xsR, xsD, ↓reduceIte, reduceCtorEq, eq_self, ne_eq, imp_self, forall_const, Nat.reduceEqDiff, Nat.reduceAdd, Nat.reduceSub, Nat.reduceMul, Nat.reduceLT, Nat.reduceLeDiff, Nat.reduceBEq, Nat.reduceDiv, Nat.reduceMod, Int.reduceToNat, Int.reduceNeg, Int.reduceAdd, Int.reduceSub, Int.reduceMul, Int.reduceEq, Int.reduceNe, Int.reduceLT, Int.reduceLE, Int.reduceGT, Int.reduceGE, h10, h11, h12]
      refine condI_prop (fun hlt => ?_) (fun hlt => ?_)
      · have hi' : i < h.length := by omega
        simp -implicitDefEqProofs (maxSteps := 1000000) (disch := omega) only [↓xsP, ↓vc_seq, xsQ, xsT, xsR, xsD, ↓reduceIte, reduceCtorEq, eq_self, ne_eq, imp_self, forall_const, Nat.reduceEqDiff, Nat.reduceAdd, Nat.reduceSub, Nat.reduceMul, Nat.reduceLT, Nat.reduceLeDiff, Nat.reduceBEq, Nat.reduceDiv, Nat.reduceMod, Int.reduceToNat, Int.reduceNeg, Int.reduceAdd, Int.reduceSub, Int.reduceMul, Int.reduceEq, Int.reduceNe, Int.reduceLT, Int.reduceLE, Int.reduceGT, Int.reduceGE, h10, h11, h12]
        refine newI_intro fun id5 hid5 => ?_
        simp -implicitDefEqProofs (maxSteps := 1000000) (disch := omega) only [↓xsP, ↓vc_seq, xsQ, xsT, xsR, xsD, ↓reduceIte, reduceCtorEq, eq_self, ne_eq, imp_self, forall_const, Nat.reduceEqDiff, Nat.reduceAdd, Nat.reduceSub, Nat.reduceMul, Nat.reduceLT, Nat.reduceLeDiff, Nat.reduceBEq, Nat.reduceDiv, Nat.reduceMod, Int.reduceToNat, Int.reduceNeg, Int.reduceAdd, Int.reduceSub, Int.reduceMul, Int.reduceEq, Int.reduceNe, Int.reduceLT, Int.reduceLE, Int.reduceGT, Int.reduceGE, h10, h11, h12]
        have hd : h.drop i = h.getD i default :: h.drop (i + 1) := by
          rw [List.drop_eq_getElem_cons hi', List.getD_eq_getElem?_getD, List.getElem?_eq_getElem hi', Option.getD_some]
        rw [hd, crun] at hrun
        generalize h.getD i default = x at hrun ⊢
        cases hret : x.ret with
        | false =>
          rw [cstep, if_pos hret] at hrun
          rcases hmem with ⟨ho, h3, hM'⟩ | ⟨idO, hidO, h3, hM'⟩
          · subst ho
            simp -implicitDefEqProofs (maxSteps := 1000000) (disch := omega) only [↓xsP, ↓vc_seq, xsQ, xsT, xsR, xsD, ↓reduceIte, reduceCtorEq, eq_self, ne_eq, imp_self, forall_const, Nat.reduceEqDiff, Nat.reduceAdd, Nat.reduceSub, Nat.reduceMul, Nat.reduceLT, Nat.reduceLeDiff, Nat.reduceBEq, Nat.reduceDiv, Nat.reduceMod, Int.reduceToNat, Int.reduceNeg, Int.reduceAdd, Int.reduceSub, Int.reduceMul, Int.reduceEq, Int.reduceNe, Int.reduceLT, Int.reduceLE, Int.reduceGT, Int.reduceGE, h10, h11, h12, h3]
            refine newI_intro fun idn hidn => ?_
            obtain ⟨h7n, hidn⟩ := bnd_new hidn
            simp -implicitDefEqProofs (maxSteps := 1000000) (disch := omega) only [↓xsP, ↓vc_seq, xsQ, xsT, xsR, xsD, ↓reduceIte, reduceCtorEq, eq_self, ne_eq, imp_self, forall_const, Nat.reduceEqDiff, Nat.reduceAdd, Nat.reduceSub, Nat.reduceMul, Nat.reduceLT, Nat.reduceLeDiff, Nat.reduceBEq, Nat.reduceDiv, Nat.reduceMod, Int.reduceToNat, Int.reduceNeg, Int.reduceAdd, Int.reduceSub, Int.reduceMul, Int.reduceEq, Int.reduceNe, Int.reduceLT, Int.reduceLE, Int.reduceGT, Int.reduceGE, h10, h11, h12, h3]
            refine app_nils _ _ _ _ 61 _ _ ti_58 rfl ti_61 (by kernel_rfl) (by decide) _ [openRow x i] ?_ ?_ ?_ ?_ ?_
            · simp -implicitDefEqProofs (maxSteps := 1000000) (disch := omega) only [↓xsP, ↓vc_seq, xsQ, xsT, xsR, xsD, ↓reduceIte, reduceCtorEq, eq_self, ne_eq, imp_self, forall_const, Nat.reduceEqDiff, Nat.reduceAdd, Nat.reduceSub, Nat.reduceMul, Nat.reduceLT, Nat.reduceLeDiff, Nat.reduceBEq, Nat.reduceDiv, Nat.reduceMod, Int.reduceToNat, Int.reduceNeg, Int.reduceAdd, Int.reduceSub, Int.reduceMul, Int.reduceEq, Int.reduceNe, Int.reduceLT, Int.reduceLE, Int.reduceGT, Int.reduceGE, openRow]
            · simp
            · simp
            · simp
            · intro _ idA hidA
              obtain ⟨hnA, hidA⟩ := bnd_new hidA
              obtain ⟨_, hidA'⟩ := bnd_new hidA
              simp -implicitDefEqProofs (maxSteps := 1000000) (disch := omega) only [↓xsP, ↓vc_seq, xsQ, xsT, xsR, xsD, ↓reduceIte, reduceCtorEq, eq_self, ne_eq, imp_self, forall_const, Nat.reduceEqDiff, Nat.reduceAdd, Nat.reduceSub, Nat.reduceMul, Nat.reduceLT, Nat.reduceLeDiff, Nat.reduceBEq, Nat.reduceDiv, Nat.reduceMod, Int.reduceToNat, Int.reduceNeg, Int.reduceAdd, Int.reduceSub, Int.reduceMul, Int.reduceEq, Int.reduceNe, Int.reduceLT, Int.reduceLE, Int.reduceGT, Int.reduceGE, h10, h11, h12, h3]
              refine ⟨h.length - (i + 1), M.set idA (.cells 61 (([] ++ [⟨x.who, i, -1, x.op, ans0⟩] : List Cl).map Cl.row) 0), by omega, ?_, i + 1, [] ++ [⟨x.who, i, -1, x.op, ans0⟩], by omega, rfl, by simp, hrun, by simp, .inr ⟨idA, by rw [← hM']; exact hidA', by simp, rfl⟩⟩
              refine step_end1 (Mem.set_eq _ _ _) (fun j b hj hb => ?_) (rows := [openRow x i]) (by simp [open_wk])
              have := lt_of_bnd hid5 (by rw [hM']; exact hb)
              rw [Mem.set_ne _ _ _ _ (by omega), Mem.set_ne _ _ _ _ (by omega), Mem.set_ne _ _ _ _ (by omega), hM']
              exact hb
          · have hMO : M' idO = some (.cells 61 (out.map Cl.row) 0) := by rw [hM']; exact Mem.set_eq _ _ _
            have h7O : idO < id5 := lt_of_bnd hid5 hMO
            simp -implicitDefEqProofs (maxSteps := 1000000) (disch := omega) only [↓xsP, ↓vc_seq, xsQ, xsT, xsR, xsD, ↓reduceIte, reduceCtorEq, eq_self, ne_eq, imp_self, forall_const, Nat.reduceEqDiff, Nat.reduceAdd, Nat.reduceSub, Nat.reduceMul, Nat.reduceLT, Nat.reduceLeDiff, Nat.reduceBEq, Nat.reduceDiv, Nat.reduceMod, Int.reduceToNat, Int.reduceNeg, Int.reduceAdd, Int.reduceSub, Int.reduceMul, Int.reduceEq, Int.reduceNe, Int.reduceLT, Int.reduceLE, Int.reduceGT, Int.reduceGE, h10, h11, h12, h3]
            refine newI_intro fun idn hidn => ?_
            obtain ⟨h7n, hidn⟩ := bnd_new hidn
            simp -implicitDefEqProofs (maxSteps := 1000000) (disch := omega) only [↓xsP, ↓vc_seq, xsQ, xsT, xsR, xsD, ↓reduceIte, reduceCtorEq, eq_self, ne_eq, imp_self, forall_const, Nat.reduceEqDiff, Nat.reduceAdd, Nat.reduceSub, Nat.reduceMul, Nat.reduceLT, Nat.reduceLeDiff, Nat.reduceBEq, Nat.reduceDiv, Nat.reduceMod, Int.reduceToNat, Int.reduceNeg, Int.reduceAdd, Int.reduceSub, Int.reduceMul, Int.reduceEq, Int.reduceNe, Int.reduceLT, Int.reduceLE, Int.reduceGT, Int.reduceGE, h10, h11, h12, h3]
            refine app_ms _ _ _ _ 61 _ _ ti_58 rfl ti_61 (by kernel_rfl) (by decide) idO out.length _ (rows := out.map Cl.row) (keep := 0) [openRow x i] ?_ ?_ ?_ (Nat.zero_le _) ?_ ?_ ?_
            · rw [Mem.set_ne _ _ _ _ (by omega), Mem.set_ne _ _ _ _ (by omega)]
              exact hMO
            · simp -implicitDefEqProofs (maxSteps := 1000000) (disch := omega) only [↓xsP, ↓vc_seq, xsQ, xsT, xsR, xsD, ↓reduceIte, reduceCtorEq, eq_self, ne_eq, imp_self, forall_const, Nat.reduceEqDiff, Nat.reduceAdd, Nat.reduceSub, Nat.reduceMul, Nat.reduceLT, Nat.reduceLeDiff, Nat.reduceBEq, Nat.reduceDiv, Nat.reduceMod, Int.reduceToNat, Int.reduceNeg, Int.reduceAdd, Int.reduceSub, Int.reduceMul, Int.reduceEq, Int.reduceNe, Int.reduceLT, Int.reduceLE, Int.reduceGT, Int.reduceGE, openRow]
            · simp
            · exact Nat.le_trans (Nat.mul_le_mul_right _ (show out.length + [openRow x i].length ≤ 1000001 by simp; omega)) (by decide)
            · simp
              omega
            · intro idA hidA
              obtain ⟨hnA, hidA⟩ := bnd_new hidA
              obtain ⟨_, hidA'⟩ := bnd_new hidA
              rw [hM'] at hidA'
              obtain ⟨hOA, hidA'⟩ := bnd_new hidA'
              simp -implicitDefEqProofs (maxSteps := 1000000) (disch := omega) only [↓xsP, ↓vc_seq, xsQ, xsT, xsR, xsD, ↓reduceIte, reduceCtorEq, eq_self, ne_eq, imp_self, forall_const, Nat.reduceEqDiff, Nat.reduceAdd, Nat.reduceSub, Nat.reduceMul, Nat.reduceLT, Nat.reduceLeDiff, Nat.reduceBEq, Nat.reduceDiv, Nat.reduceMod, Int.reduceToNat, Int.reduceNeg, Int.reduceAdd, Int.reduceSub, Int.reduceMul, Int.reduceEq, Int.reduceNe, Int.reduceLT, Int.reduceLE, Int.reduceGT, Int.reduceGE, h10, h11, h12, h3]
              refine ⟨h.length - (i + 1), M.set idA (.cells 61 ((out ++ [⟨x.who, i, -1, x.op, ans0⟩] : List Cl).map Cl.row) 0), by omega, ?_, i + 1, out ++ [⟨x.who, i, -1, x.op, ans0⟩], by omega, rfl, by simp, hrun, by simp; omega, .inr ⟨idA, hidA', by simp, rfl⟩⟩
              refine step_end1 (Mem.set_eq _ _ _) (fun j b hj hb => ?_) (rows := (out.map Cl.row).take out.length ++ [openRow x i]) ?_
              · have := lt_of_bnd hidO hb
                rw [Mem.set_ne _ _ _ _ (by omega), Mem.del_ne _ _ _ (by omega), Mem.set_ne _ _ _ _ (by omega), Mem.set_ne _ _ _ _ (by omega), hM', Mem.set_ne _ _ _ _ (by omega)]
                exact hb
              · rw [List.take_of_length_le (by simp), List.map_append, cls_wk, List.map_append]
                simp [open_wk]
        | true =>
          rw [cstep, if_neg (by simp [hret])] at hrun
          simp -implicitDefEqProofs (maxSteps := 1000000) (disch := omega) only [↓xsP, ↓vc_seq, xsQ, xsT, xsR, xsD, ↓reduceIte, reduceCtorEq, eq_self, ne_eq, imp_self, forall_const, Nat.reduceEqDiff, Nat.reduceAdd, Nat.reduceSub, Nat.reduceMul, Nat.reduceLT, Nat.reduceLeDiff, Nat.reduceBEq, Nat.reduceDiv, Nat.reduceMod, Int.reduceToNat, Int.reduceNeg, Int.reduceAdd, Int.reduceSub, Int.reduceMul, Int.reduceEq, Int.reduceNe, Int.reduceLT, Int.reduceLE, Int.reduceGT, Int.reduceGE, h10, h11, h12]
          rcases hmem with ⟨ho, h3, hM'⟩ | ⟨idO, hidO, h3, hM'⟩
          · subst ho
            simp -implicitDefEqProofs (maxSteps := 1000000) (disch := omega) only [↓xsP, ↓vc_seq, xsQ, xsT, xsR, xsD, ↓reduceIte, reduceCtorEq, eq_self, ne_eq, imp_self, forall_const, Nat.reduceEqDiff, Nat.reduceAdd, Nat.reduceSub, Nat.reduceMul, Nat.reduceLT, Nat.reduceLeDiff, Nat.reduceBEq, Nat.reduceDiv, Nat.reduceMod, Int.reduceToNat, Int.reduceNeg, Int.reduceAdd, Int.reduceSub, Int.reduceMul, Int.reduceEq, Int.reduceNe, Int.reduceLT, Int.reduceLE, Int.reduceGT, Int.reduceGE, h10, h11, h12, h3]
            have hrun' : crun h 0 [] = crun (h.drop (i + 1)) (i + 1) [] := hrun
            refine loopI_of (xloop (by kernel_rfl) (fun k fr M2 => k = 0 ∧ fr 3 = .l .nils ∧ fr 6 = .l (.int .i64 (-1)) ∧ fr 10 = .l (.sl (h.map Evt.row)) ∧ fr 11 = .l (.int .i64 h.length) ∧ fr 12 = .l (.int .i64 i) ∧ M2 = M'.set id5 (.cells 65 [x.row] 0)) 0 ?_ ?_)
            · exact ⟨rfl, by simp -implicitDefEqProofs (maxSteps := 1000000) (disch := omega) only [↓xsP, ↓vc_seq, xsQ, xsT, xsR, xsD, ↓reduceIte, reduceCtorEq, eq_self, ne_eq, imp_self, forall_const, Nat.reduceEqDiff, Nat.reduceAdd, Nat.reduceSub, Nat.reduceMul, Nat.reduceLT, Nat.reduceLeDiff, Nat.reduceBEq, Nat.reduceDiv, Nat.reduceMod, Int.reduceToNat, Int.reduceNeg, Int.reduceAdd, Int.reduceSub, Int.reduceMul, Int.reduceEq, Int.reduceNe, Int.reduceLT, Int.reduceLE, Int.reduceGT, Int.reduceGE, h3], by simp -implicitDefEqProofs (maxSteps := 1000000) (disch := omega) only [↓xsP, ↓vc_seq, xsQ, xsT, xsR, xsD, ↓reduceIte, reduceCtorEq, eq_self, ne_eq, imp_self, forall_const, Nat.reduceEqDiff, Nat.reduceAdd, Nat.reduceSub, Nat.reduceMul, Nat.reduceLT, Nat.reduceLeDiff, Nat.reduceBEq, Nat.reduceDiv, Nat.reduceMod, Int.reduceToNat, Int.reduceNeg, Int.reduceAdd, Int.reduceSub, Int.reduceMul, Int.reduceEq, Int.reduceNe, Int.reduceLT, Int.reduceLE, Int.reduceGT, Int.reduceGE], by simp -implicitDefEqProofs (maxSteps := 1000000) (disch := omega) only [↓xsP, ↓vc_seq, xsQ, xsT, xsR, xsD, ↓reduceIte, reduceCtorEq, eq_self, ne_eq, imp_self, forall_const, Nat.reduceEqDiff, Nat.reduceAdd, Nat.reduceSub, Nat.reduceMul, Nat.reduceLT, Nat.reduceLeDiff, Nat.reduceBEq, Nat.reduceDiv, Nat.reduceMod, Int.reduceToNat, Int.reduceNeg, Int.reduceAdd, Int.reduceSub, Int.reduceMul, Int.reduceEq, Int.reduceNe, Int.reduceLT, Int.reduceLE, Int.reduceGT, Int.reduceGE, h10], by simp -implicitDefEqProofs (maxSteps := 1000000) (disch := omega) only [↓xsP, ↓vc_seq, xsQ, xsT, xsR, xsD, ↓reduceIte, reduceCtorEq, eq_self, ne_eq, imp_self, forall_const, Nat.reduceEqDiff, Nat.reduceAdd, Nat.reduceSub, Nat.reduceMul, Nat.reduceLT, Nat.reduceLeDiff, Nat.reduceBEq, Nat.reduceDiv, Nat.reduceMod, Int.reduceToNat, Int.reduceNeg, Int.reduceAdd, Int.reduceSub, Int.reduceMul, Int.reduceEq, Int.reduceNe, Int.reduceLT, Int.reduceLE, Int.reduceGT, Int.reduceGE, h11], by simp -implicitDefEqProofs (maxSteps := 1000000) (disch := omega) only [↓xsP, ↓vc_seq, xsQ, xsT, xsR, xsD, ↓reduceIte, reduceCtorEq, eq_self, ne_eq, imp_self, forall_const, Nat.reduceEqDiff, Nat.reduceAdd, Nat.reduceSub, Nat.reduceMul, Nat.reduceLT, Nat.reduceLeDiff, Nat.reduceBEq, Nat.reduceDiv, Nat.reduceMod, Int.reduceToNat, Int.reduceNeg, Int.reduceAdd, Int.reduceSub, Int.reduceMul, Int.reduceEq, Int.reduceNe, Int.reduceLT, Int.reduceLE, Int.reduceGT, Int.reduceGE, h12], by rw [row_evt, hret]⟩
            · clear h10 h11 h12 h3
              rintro k fr M2 ⟨rfl, h3, h6, h10, h11, h12, rfl⟩
              simp -implicitDefEqProofs (maxSteps := 1000000) (disch := omega) only [↓xsP, ↓vc_seq, xsQ, xsT, xsR, xsD, ↓reduceIte, reduceCtorEq, eq_self, ne_eq, imp_self, forall_const, Nat.reduceEqDiff, Nat.reduceAdd, Nat.reduceSub, Nat.reduceMul, Nat.reduceLT, Nat.reduceLeDiff, Nat.reduceBEq, Nat.reduceDiv, Nat.reduceMod, Int.reduceToNat, Int.reduceNeg, Int.reduceAdd, Int.reduceSub, Int.reduceMul, Int.reduceEq, Int.reduceNe, Int.reduceLT, Int.reduceLE, Int.reduceGT, Int.reduceGE, h3, h6, h10, h11, h12]
              exact ⟨h.length - (i + 1), M', by omega, GStep.le (le_new (Mem.le_refl _) hid5), i + 1, [], by omega, rfl, by simp, hrun', by simp, .inl ⟨rfl, hM'⟩⟩
          · have hMO : M' idO = some (.cells 61 (out.map Cl.row) 0) := by rw [hM']; exact Mem.set_eq _ _ _
            have h7O : idO < id5 := lt_of_bnd hid5 hMO
            simp -implicitDefEqProofs (maxSteps := 1000000) (disch := omega) only [↓xsP, ↓vc_seq, xsQ, xsT, xsR, xsD, ↓reduceIte, reduceCtorEq, eq_self, ne_eq, imp_self, forall_const, Nat.reduceEqDiff, Nat.reduceAdd, Nat.reduceSub, Nat.reduceMul, Nat.reduceLT, Nat.reduceLeDiff, Nat.reduceBEq, Nat.reduceDiv, Nat.reduceMod, Int.reduceToNat, Int.reduceNeg, Int.reduceAdd, Int.reduceSub, Int.reduceMul, Int.reduceEq, Int.reduceNe, Int.reduceLT, Int.reduceLE, Int.reduceGT, Int.reduceGE, h10, h11, h12, h3]
            have hw0 : IntKind.i64.wrap ((out.length : Int) - 1) = (out.length : Int) - 1 := wrap_in (by omega) (by omega)
            refine loopI_of (xloop (by kernel_rfl) (fun k fr M2 => k ≤ out.length ∧ fr 3 = .l (.ms idO 0 out.length) ∧ fr 4 = .l (.int .i64 i) ∧ fr 5 = .l (.ptr id5 0 0) ∧ fr 6 = .l (.int .i64 ((k : Int) - 1)) ∧ fr 10 = .l (.sl (h.map Evt.row)) ∧ fr 11 = .l (.int .i64 h.length) ∧ fr 12 = .l (.int .i64 i) ∧ M2 = M'.set id5 (.cells 65 [x.row] 0) ∧
              lastBy out x.who out.length = lastBy out x.who k) out.length ?_ ?_)
            · exact ⟨Nat.le_refl _, by simp -implicitDefEqProofs (maxSteps := 1000000) (disch := omega) only [↓xsP, ↓vc_seq, xsQ, xsT, xsR, xsD, ↓reduceIte, reduceCtorEq, eq_self, ne_eq, imp_self, forall_const, Nat.reduceEqDiff, Nat.reduceAdd, Nat.reduceSub, Nat.reduceMul, Nat.reduceLT, Nat.reduceLeDiff, Nat.reduceBEq, Nat.reduceDiv, Nat.reduceMod, Int.reduceToNat, Int.reduceNeg, Int.reduceAdd, Int.reduceSub, Int.reduceMul, Int.reduceEq, Int.reduceNe, Int.reduceLT, Int.reduceLE, Int.reduceGT, Int.reduceGE, h3], by simp -implicitDefEqProofs (maxSteps := 1000000) (disch := omega) only [↓xsP, ↓vc_seq, xsQ, xsT, xsR, xsD, ↓reduceIte, reduceCtorEq, eq_self, ne_eq, imp_self, forall_const, Nat.reduceEqDiff, Nat.reduceAdd, Nat.reduceSub, Nat.reduceMul, Nat.reduceLT, Nat.reduceLeDiff, Nat.reduceBEq, Nat.reduceDiv, Nat.reduceMod, Int.reduceToNat, Int.reduceNeg, Int.reduceAdd, Int.reduceSub, Int.reduceMul, Int.reduceEq, Int.reduceNe, Int.reduceLT, Int.reduceLE, Int.reduceGT, Int.reduceGE], by simp -implicitDefEqProofs (maxSteps := 1000000) (disch := omega) only [↓xsP, ↓vc_seq, xsQ, xsT, xsR, xsD, ↓reduceIte, reduceCtorEq, eq_self, ne_eq, imp_self, forall_const, Nat.reduceEqDiff, Nat.reduceAdd, Nat.reduceSub, Nat.reduceMul, Nat.reduceLT, Nat.reduceLeDiff, Nat.reduceBEq, Nat.reduceDiv, Nat.reduceMod, Int.reduceToNat, Int.reduceNeg, Int.reduceAdd, Int.reduceSub, Int.reduceMul, Int.reduceEq, Int.reduceNe, Int.reduceLT, Int.reduceLE, Int.reduceGT, Int.reduceGE], by simp -implicitDefEqProofs (maxSteps := 1000000) (disch := omega) only [↓xsP, ↓vc_seq, xsQ, xsT, xsR, xsD, ↓reduceIte, reduceCtorEq, eq_self, ne_eq, imp_self, forall_const, Nat.reduceEqDiff, Nat.reduceAdd, Nat.reduceSub, Nat.reduceMul, Nat.reduceLT, Nat.reduceLeDiff, Nat.reduceBEq, Nat.reduceDiv, Nat.reduceMod, Int.reduceToNat, Int.reduceNeg, Int.reduceAdd, Int.reduceSub, Int.reduceMul, Int.reduceEq, Int.reduceNe, Int.reduceLT, Int.reduceLE, Int.reduceGT, Int.reduceGE, hw0], by simp -implicitDefEqProofs (maxSteps := 1000000) (disch := omega) only [↓xsP, ↓vc_seq, xsQ, xsT, xsR, xsD, ↓reduceIte, reduceCtorEq, eq_self, ne_eq, imp_self, forall_const, Nat.reduceEqDiff, Nat.reduceAdd, Nat.reduceSub, Nat.reduceMul, Nat.reduceLT, Nat.reduceLeDiff, Nat.reduceBEq, Nat.reduceDiv, Nat.reduceMod, Int.reduceToNat, Int.reduceNeg, Int.reduceAdd, Int.reduceSub, Int.reduceMul, Int.reduceEq, Int.reduceNe, Int.reduceLT, Int.reduceLE, Int.reduceGT, Int.reduceGE, h10], by simp -implicitDefEqProofs (maxSteps := 1000000) (disch := omega) only [↓xsP, ↓vc_seq, xsQ, xsT, xsR, xsD, ↓reduceIte, reduceCtorEq, eq_self, ne_eq, imp_self, forall_const, Nat.reduceEqDiff, Nat.reduceAdd, Nat.reduceSub, Nat.reduceMul, Nat.reduceLT, Nat.reduceLeDiff, Nat.reduceBEq, Nat.reduceDiv, Nat.reduceMod, Int.reduceToNat, Int.reduceNeg, Int.reduceAdd, Int.reduceSub, Int.reduceMul, Int.reduceEq, Int.reduceNe, Int.reduceLT, Int.reduceLE, Int.reduceGT, Int.reduceGE, h11], by simp -implicitDefEqProofs (maxSteps := 1000000) (disch := omega) only [↓xsP, ↓vc_seq, xsQ, xsT, xsR, xsD, ↓reduceIte, reduceCtorEq, eq_self, ne_eq, imp_self, forall_const, Nat.reduceEqDiff, Nat.reduceAdd, Nat.reduceSub, Nat.reduceMul, Nat.reduceLT, Nat.reduceLeDiff, Nat.reduceBEq, Nat.reduceDiv, Nat.reduceMod, Int.reduceToNat, Int.reduceNeg, Int.reduceAdd, Int.reduceSub, Int.reduceMul, Int.reduceEq, Int.reduceNe, Int.reduceLT, Int.reduceLE, Int.reduceGT, Int.reduceGE, h12], by rw [row_evt, hret], rfl⟩
            · clear h10 h11 h12 h3
              rintro k fr M2 ⟨hk, h3, h4, h5, h6, h10, h11, h12, hM2, hlb⟩
              have hM5 : M2 id5 = some (.cells 65 [x.row] 0) := by rw [hM2]; exact Mem.set_eq _ _ _
              rw [row_evt] at hM5
              have hM2O : M2 idO = some (.cells 61 (out.map Cl.row) 0) := by rw [hM2, Mem.set_ne _ _ _ _ (by omega)]; exact hMO
              simp -implicitDefEqProofs (maxSteps := 1000000) (disch := omega) only [↓xsP, ↓vc_seq, xsQ, xsT, xsR, xsD, ↓reduceIte, reduceCtorEq, eq_self, ne_eq, imp_self, forall_const, Nat.reduceEqDiff, Nat.reduceAdd, Nat.reduceSub, Nat.reduceMul, Nat.reduceLT, Nat.reduceLeDiff, Nat.reduceBEq, Nat.reduceDiv, Nat.reduceMod, Int.reduceToNat, Int.reduceNeg, Int.reduceAdd, Int.reduceSub, Int.reduceMul, Int.reduceEq, Int.reduceNe, Int.reduceLT, Int.reduceLE, Int.reduceGT, Int.reduceGE, h3, h4, h5, h6, h10, h11, h12]
              refine condI_prop (fun hk0 => ?_) (fun hk0 => ?_)
              · simp -implicitDefEqProofs (maxSteps := 1000000) (disch := omega) only [↓xsP, ↓vc_seq, xsQ, xsT, xsR, xsD, ↓reduceIte, reduceCtorEq, eq_self, ne_eq, imp_self, forall_const, Nat.reduceEqDiff, Nat.reduceAdd, Nat.reduceSub, Nat.reduceMul, Nat.reduceLT, Nat.reduceLeDiff, Nat.reduceBEq, Nat.reduceDiv, Nat.reduceMod, Int.reduceToNat, Int.reduceNeg, Int.reduceAdd, Int.reduceSub, Int.reduceMul, Int.reduceEq, Int.reduceNe, Int.reduceLT, Int.reduceLE, Int.reduceGT, Int.reduceGE, h3, h4, h5, h6, h10, h11, h12]
                refine xquiet (by kernel_rfl) (by kernel_rfl) (by kernel_rfl) ?_
                simp -implicitDefEqProofs (maxSteps := 1000000) (disch := omega) only [↓xsP, ↓vc_seq, xsQ, xsT, xsR, xsD, ↓reduceIte, reduceCtorEq, eq_self, ne_eq, imp_self, forall_const, Nat.reduceEqDiff, Nat.reduceAdd, Nat.reduceSub, Nat.reduceMul, Nat.reduceLT, Nat.reduceLeDiff, Nat.reduceBEq, Nat.reduceDiv, Nat.reduceMod, Int.reduceToNat, Int.reduceNeg, Int.reduceAdd, Int.reduceSub, Int.reduceMul, Int.reduceEq, Int.reduceNe, Int.reduceLT, Int.reduceLE, Int.reduceGT, Int.reduceGE, h3, h4, h5, h6, h10, h11, h12, hM5, hM2O]
                have hk1 : k = (k - 1) + 1 := by omega
                refine condI_prop (fun hw => ?_) (fun hw => ?_)
                · simp -implicitDefEqProofs (maxSteps := 1000000) (disch := omega) only [↓xsP, ↓vc_seq, xsQ, xsT, xsR, xsD, ↓reduceIte, reduceCtorEq, eq_self, ne_eq, imp_self, forall_const, Nat.reduceEqDiff, Nat.reduceAdd, Nat.reduceSub, Nat.reduceMul, Nat.reduceLT, Nat.reduceLeDiff, Nat.reduceBEq, Nat.reduceDiv, Nat.reduceMod, Int.reduceToNat, Int.reduceNeg, Int.reduceAdd, Int.reduceSub, Int.reduceMul, Int.reduceEq, Int.reduceNe, Int.reduceLT, Int.reduceLE, Int.reduceGT, Int.reduceGE, h3, h4, h5, h6, h10, h11, h12]
                  have hlk : lastBy out x.who out.length = some (k - 1) := by rw [hlb, hk1, lastBy, if_pos hw]; rfl
                  rw [hlk] at hrun
                  simp only at hrun
                  refine xwrite (fun n0 => [ (9, idO), (12, idO)]) [9, 12] [] [[], [], [9], [9], [], [9], [9], [], [], [], [], [], []] (by kernel_rfl) (by kernel_rfl) (by kernel_rfl) (by kernel_rfl) (fun n0 hn0 => ⟨rfl, ?_, ?_⟩)
                  · exact TOk_cons (.inl (lt_of_bnd hn0 hM2O)) (TOk_cons (.inl (lt_of_bnd hn0 hM2O)) (TOk_nil _ _))
                  · have k5 := lt_of_bnd hn0 hM5
                    have kO := lt_of_bnd hn0 hM2O
                    simp -implicitDefEqProofs (maxSteps := 1000000) (disch := omega) only [↓xsP, ↓vc_seq, xsQ, xsT, xsR, xsD, ↓reduceIte, reduceCtorEq, eq_self, ne_eq, imp_self, forall_const, Nat.reduceEqDiff, Nat.reduceAdd, Nat.reduceSub, Nat.reduceMul, Nat.reduceLT, Nat.reduceLeDiff, Nat.reduceBEq, Nat.reduceDiv, Nat.reduceMod, Int.reduceToNat, Int.reduceNeg, Int.reduceAdd, Int.reduceSub, Int.reduceMul, Int.reduceEq, Int.reduceNe, Int.reduceLT, Int.reduceLE, Int.reduceGT, Int.reduceGE, h3, h4, h5, h6, h10, h11, h12, hM5, hM2O]
                    have hes : (out.map Cl.row).set (k - 1) [Lf.int IntKind.i64 (out.getD (k - 1) default).who, Lf.int IntKind.i64 (out.getD (k - 1) default).beg, Lf.int IntKind.i64 (i : Int), Lf.int IntKind.i64 (out.getD (k - 1) default).op.kind, Lf.int IntKind.i64 (out.getD (k - 1) default).op.key, Lf.int IntKind.i64 (out.getD (k - 1) default).op.to, Lf.int IntKind.i64 (out.getD (k - 1) default).op.val, Lf.int IntKind.i64 x.ans.err, Lf.bool x.ans.ok, Lf.int IntKind.i64 x.ans.pair.key, Lf.int IntKind.i64 x.ans.pair.val, Lf.int IntKind.i64 x.ans.n, Lf.sl (List.map Pr.row x.ans.pairs)] =
                        (out.set (k - 1) { out.getD (k - 1) default with fin := i, ans := x.ans }).map Cl.row := by rw [List.map_set]; rfl
                    rw [hes]
                    refine ⟨h.length - (i + 1), M.set idO (.cells 61 ((out.set (k - 1) { out.getD (k - 1) default with fin := i, ans := x.ans }).map Cl.row) 0), by omega, GStep.le ?_, i + 1, out.set (k - 1) { out.getD (k - 1) default with fin := i, ans := x.ans }, by omega, rfl, by simp, hrun, by simp; omega, .inr ⟨idO, hidO, by simp, rfl⟩⟩
                    rw [hM2, hM']
                    intro j b hj
                    rw [Mem.set_app] at hj ⊢
                    by_cases e : idO = j
                    · rw [if_pos e] at hj ⊢
                      exact hj
                    · rw [if_neg e] at hj ⊢
                      have := lt_of_bnd hidO hj
                      rw [Mem.set_ne _ _ _ _ (by omega), Mem.set_ne _ _ _ _ (by omega)]
                      exact hj
                · simp -implicitDefEqProofs (maxSteps := 1000000) (disch := omega) only [↓xsP, ↓vc_seq, xsQ, xsT, xsR, xsD, ↓reduceIte, reduceCtorEq, eq_self, ne_eq, imp_self, forall_const, Nat.reduceEqDiff, Nat.reduceAdd, Nat.reduceSub, Nat.reduceMul, Nat.reduceLT, Nat.reduceLeDiff, Nat.reduceBEq, Nat.reduceDiv, Nat.reduceMod, Int.reduceToNat, Int.reduceNeg, Int.reduceAdd, Int.reduceSub, Int.reduceMul, Int.reduceEq, Int.reduceNe, Int.reduceLT, Int.reduceLE, Int.reduceGT, Int.reduceGE, h3, h4, h5, h6, h10, h11, h12]
                  refine ⟨k - 1, M2, by omega, Mem.le_refl _, by omega, ?_, hM2, ?_⟩
                  · rw [show (k : Int) - 1 - 1 = ((k - 1 : Nat) : Int) - 1 by omega]
                  · rw [hlb, hk1, lastBy, if_neg hw]; rfl
              · simp -implicitDefEqProofs (maxSteps := 1000000) (disch := omega) only [↓xsP, ↓vc_seq, xsQ, xsT, xsR, xsD, ↓reduceIte, reduceCtorEq, eq_self, ne_eq, imp_self, forall_const, Nat.reduceEqDiff, Nat.reduceAdd, Nat.reduceSub, Nat.reduceMul, Nat.reduceLT, Nat.reduceLeDiff, Nat.reduceBEq, Nat.reduceDiv, Nat.reduceMod, Int.reduceToNat, Int.reduceNeg, Int.reduceAdd, Int.reduceSub, Int.reduceMul, Int.reduceEq, Int.reduceNe, Int.reduceLT, Int.reduceLE, Int.reduceGT, Int.reduceGE, h3, h4, h5, h6, h10, h11, h12]
                have hk00 : k = 0 := by omega
                subst hk00
                rw [hlb, lastBy] at hrun
                simp only at hrun
                refine ⟨h.length - (i + 1), M', by omega, GStep.le (by rw [hM2]; exact le_new (Mem.le_refl _) hid5), i + 1, out, by omega, rfl, by simp, hrun, by omega, .inr ⟨idO, hidO, rfl, hM'⟩⟩
      · simp -implicitDefEqProofs (maxSteps := 1000000) (disch := omega) only [↓xsP, ↓vc_seq, xsQ, xsT, xsR, xsD, ↓reduceIte, reduceCtorEq, eq_self, ne_eq, imp_self, forall_const, Nat.reduceEqDiff, Nat.reduceAdd, Nat.reduceSub, Nat.reduceMul, Nat.reduceLT, Nat.reduceLeDiff, Nat.reduceBEq, Nat.reduceDiv, Nat.reduceMod, Int.reduceToNat, Int.reduceNeg, Int.reduceAdd, Int.reduceSub, Int.reduceMul, Int.reduceEq, Int.reduceNe, Int.reduceLT, Int.reduceLE, Int.reduceGT, Int.reduceGE, h10, h11, h12]
        have hil : i = h.length := by omega
        rw [hil, List.drop_length, crun, hce] at hrun
        rcases hmem with ⟨ho, h3, rfl⟩ | ⟨idO, hidO, h3, rfl⟩
        · simp -implicitDefEqProofs (maxSteps := 1000000) (disch := omega) only [↓xsP, ↓vc_seq, xsQ, xsT, xsR, xsD, ↓reduceIte, reduceCtorEq, eq_self, ne_eq, imp_self, forall_const, Nat.reduceEqDiff, Nat.reduceAdd, Nat.reduceSub, Nat.reduceMul, Nat.reduceLT, Nat.reduceLeDiff, Nat.reduceBEq, Nat.reduceDiv, Nat.reduceMod, Int.reduceToNat, Int.reduceNeg, Int.reduceAdd, Int.reduceSub, Int.reduceMul, Int.reduceEq, Int.reduceNe, Int.reduceLT, Int.reduceLE, Int.reduceGT, Int.reduceGE, h3]
          refine finI_of (XFin.wk (XFin.here ⟨?_, rfl⟩))
          rw [hrun, ho]
          rfl
        · simp -implicitDefEqProofs (maxSteps := 1000000) (disch := omega) only [↓xsP, ↓vc_seq, xsQ, xsT, xsR, xsD, ↓reduceIte, reduceCtorEq, eq_self, ne_eq, imp_self, forall_const, Nat.reduceEqDiff, Nat.reduceAdd, Nat.reduceSub, Nat.reduceMul, Nat.reduceLT, Nat.reduceLeDiff, Nat.reduceBEq, Nat.reduceDiv, Nat.reduceMod, Int.reduceToNat, Int.reduceNeg, Int.reduceAdd, Int.reduceSub, Int.reduceMul, Int.reduceEq, Int.reduceNe, Int.reduceLT, Int.reduceLE, Int.reduceGT, Int.reduceGE, h3]
          refine finI_of (XFin.frz idO (Mem.set_eq _ _ _) (XFin.le ?_ ⟨?_, rfl⟩))
          · rw [Mem.set_set]
            exact le_new (Mem.le_refl _) hidO
          · rw [hrun]
            simp [frzA, frz1, frzL, List.take_of_length_le]
end Go.X

/- The reference's Ends is that of order. -/


set_option linter.unusedVariables false
set_option linter.unusedSimpArgs false
set_option maxHeartbeats 20000000
set_option maxRecDepth 100000
namespace Go.X
open Go.Proofs.Try (prog)

theorem lastV_noneO {k : Int} : ∀ {l : List Pr} {o : Option Int}, (∀ p ∈ l, p.key ≠ k) → lastV k o l = o
  | [], o, _ => rfl
  | p :: r, o, h => by
    rw [lastV, List.foldl_cons, if_neg (fun e => h p (by simp) e.symm)]
    exact lastV_noneO (l := r) fun q hq => h q (by simp [hq])
theorem lastV_ascO {k : Int} : ∀ {l : List Pr} {o : Option Int}, Asc l → lastV k o l = (match look l k with | some v => some v | none => o)
  | [], o, _ => rfl
  | p :: r, o, h => by
    have h2 := List.pairwise_cons.1 h
    rw [look]
    by_cases e : p.key = k
    · rw [if_pos e, lastV, List.foldl_cons, if_pos e.symm]
      refine lastV_noneO (l := r) fun q hq => ?_
      have := h2.1 q hq
      omega
    · rw [if_neg e, lastV, List.foldl_cons, if_neg (fun h => e h.symm)]
      exact lastV_ascO (l := r) h2.2
theorem putL_idO {l : List Pr} (h : Asc l) : putL l = l := look_ext (putL_asc l) h fun k => by
  rw [putL_look, lastV_ascO h]
  cases look l k <;> rfl

/-- A slice of pairs that may be nil, or stand in a block that is kept. -/
def IsK (M : Mem) (x : Lf) (l : List Pr) : Prop := IsL x l ∨ ∃ id keep, M id = some (.cells 26 (l.map Pr.row) keep) ∧ l.length ≤ keep ∧ x = .ms id 0 l.length
theorem IsK.sl (M : Mem) (l : List Pr) : IsK M (.sl (l.map Pr.row)) l := .inl (.inl rfl)
theorem IsK.le {M N : Mem} {x : Lf} {l : List Pr} (h : IsK M x l) (hle : M.le N) : IsK N x l := by
  rcases h with h | ⟨id, keep, h1, h2, h3⟩
  · exact .inl h
  · exact .inr ⟨id, keep, hle _ _ h1, h2, h3⟩
theorem doR_isK {M : Mem} {x : Lf} {l : List Pr} (hx : IsK M x l) (hl : l.length ≤ 1000000) (op : Opn) : XCalls Go.Proofs.Try.prog 23 [.l x, .agg op.row] M fun r M' => r = .tup [.l (.sl ((doL l op).map Pr.row)), .agg (doA l op).row] ∧ M' = M := by
  rcases hx with hx | ⟨id, keep, h1, h2, rfl⟩
  · exact doR_is hx hl op M
  · exact XCalls.kept2 id l.length h1 (by simp) (by simpa using h2) (opn_frz _ _ op) (doR_spec l hl op M)
theorem named_ref {C : List Cl} {l : List Int} {x : Int} (hx : x ∈ l) (h0 : 0 ≤ x ∧ x < C.length) (hr : refB (clAt C x) = true) : namedB C l = false := by
  refine bof_false ?_
  rintro ⟨-, -, h3⟩
  rw [refB, Bool.and_eq_true, decide_eq_true_eq, Bool.not_eq_true', decide_eq_false_iff_not] at hr
  exact hr.2 ((h3 x.toNat (by omega) hr.1).1 (by rwa [Int.toNat_of_nonneg h0.1]))
theorem named_lack {C : List Cl} {l : List Int} {j : Nat} (hj : j < C.length) (h0 : 0 ≤ (C.getD j default).fin) (hr : refB (C.getD j default) = false) (hn : (j : Int) ∉ l) : namedB C l = false := by
  refine bof_false ?_
  rintro ⟨-, -, h3⟩
  rw [refB, decide_eq_true h0, Bool.true_and, Bool.not_eq_false', decide_eq_true_eq] at hr
  exact hn ((h3 j hj h0).2 hr)
theorem endsR_spec (b : List Pr) (h : List Evt) (l : List Int) (hb : b.length ≤ 100000) (hs : Small h) (hh : h.length ≤ 1000) (hl : l.length ≤ 1000) (M : Mem) :
    XCalls Go.Proofs.Try.prog 28 [.l (.sl (b.map Pr.row)), .l (.sl (h.map Evt.row)), .l (.sl (l.map irow))] M fun r M' => r = .tup [.l (.sl (((rightO b h l).getD []).map Pr.row)), .l (.bool (rightO b h l).isSome)] ∧ M' = M := by
  refine xcalls_intro (rs := [.tmp 6, .tmp 7]) Go.Proofs.Try.func28 rfl (by kernel_rfl) rfl rfl (by kernel_rfl) (by simp) ?_
  have hcl := callsP_len h
  have hbad : ∀ X : Mem, M.le X → rightO b h l = none → @finI prog (.tup [.l .nils, .l (.bool false)]) X ⟨fun r M' => r = .tup [.l (.sl (((rightO b h l).getD []).map Pr.row)), .l (.bool (rightO b h l).isSome)] ∧ M' = M⟩ := fun X hle hr => by
    refine finI_of (XFin.wk (XFin.le hle ⟨?_, rfl⟩))
    rw [hr]
    rfl
  simp -implicitDefEqProofs (maxSteps := 1000000) (disch := omega) only [↓xsP, ↓vc_seq, xsQ, xsT, xsR, xsD, ↓reduceIte, reduceCtorEq, eq_self, ne_eq, imp_self, forall_const, Nat.reduceEqDiff, Nat.reduceAdd, Nat.reduceSub, Nat.reduceMul, Nat.reduceLT, Nat.reduceLeDiff, Nat.reduceBEq, Nat.reduceDiv, Nat.reduceMod, Int.reduceToNat, Int.reduceNeg, Int.reduceAdd, Int.reduceSub, Int.reduceMul, Int.reduceEq, Int.reduceNe, Int.reduceLT, Int.reduceLE, Int.reduceGT, Int.reduceGE]
  refine call_of (mayPairs_spec b (by omega) _) ?_
  cases h1 : bof (Rises b) with
  | false =>
    simp -implicitDefEqProofs (maxSteps := 1000000) (disch := omega) only [↓xsP, ↓vc_seq, xsQ, xsT, xsR, xsD, ↓reduceIte, reduceCtorEq, eq_self, ne_eq, imp_self, forall_const, Nat.reduceEqDiff, Nat.reduceAdd, Nat.reduceSub, Nat.reduceMul, Nat.reduceLT, Nat.reduceLeDiff, Nat.reduceBEq, Nat.reduceDiv, Nat.reduceMod, Int.reduceToNat, Int.reduceNeg, Int.reduceAdd, Int.reduceSub, Int.reduceMul, Int.reduceEq, Int.reduceNe, Int.reduceLT, Int.reduceLE, Int.reduceGT, Int.reduceGE]
    exact hbad _ (Mem.le_refl _) (by rw [rightO, rightB, h1]; rfl)
  | true =>
    simp -implicitDefEqProofs (maxSteps := 1000000) (disch := omega) only [↓xsP, ↓vc_seq, xsQ, xsT, xsR, xsD, ↓reduceIte, reduceCtorEq, eq_self, ne_eq, imp_self, forall_const, Nat.reduceEqDiff, Nat.reduceAdd, Nat.reduceSub, Nat.reduceMul, Nat.reduceLT, Nat.reduceLeDiff, Nat.reduceBEq, Nat.reduceDiv, Nat.reduceMod, Int.reduceToNat, Int.reduceNeg, Int.reduceAdd, Int.reduceSub, Int.reduceMul, Int.reduceEq, Int.reduceNe, Int.reduceLT, Int.reduceLE, Int.reduceGT, Int.reduceGE]
    refine call_of (mayPast_spec h hs _) ?_
    rw [mayP_eq]
    cases h2 : okP h with
    | false =>
      simp -implicitDefEqProofs (maxSteps := 1000000) (disch := omega) only [↓xsP, ↓vc_seq, xsQ, xsT, xsR, xsD, ↓reduceIte, reduceCtorEq, eq_self, ne_eq, imp_self, forall_const, Nat.reduceEqDiff, Nat.reduceAdd, Nat.reduceSub, Nat.reduceMul, Nat.reduceLT, Nat.reduceLeDiff, Nat.reduceBEq, Nat.reduceDiv, Nat.reduceMod, Int.reduceToNat, Int.reduceNeg, Int.reduceAdd, Int.reduceSub, Int.reduceMul, Int.reduceEq, Int.reduceNe, Int.reduceLT, Int.reduceLE, Int.reduceGT, Int.reduceGE]
      exact hbad _ (Mem.le_refl _) (by rw [rightO, rightB, h1, h2]; rfl)
    | true =>
      have hpb : putL b = b := putL_idO ((rises_asc b).1 (bof_iff.1 h1))
      have hR0 : rightO b h l = if (namedB (callsP h) l && timelyB (callsP h) l) = true then goesO (callsP h) l b else none := by
        rw [rightO, rightB, h1, h2, hpb]
        rfl
      rw [hR0] at hbad ⊢
      simp -implicitDefEqProofs (maxSteps := 1000000) (disch := omega) only [↓xsP, ↓vc_seq, xsQ, xsT, xsR, xsD, ↓reduceIte, reduceCtorEq, eq_self, ne_eq, imp_self, forall_const, Nat.reduceEqDiff, Nat.reduceAdd, Nat.reduceSub, Nat.reduceMul, Nat.reduceLT, Nat.reduceLeDiff, Nat.reduceBEq, Nat.reduceDiv, Nat.reduceMod, Int.reduceToNat, Int.reduceNeg, Int.reduceAdd, Int.reduceSub, Int.reduceMul, Int.reduceEq, Int.reduceNe, Int.reduceLT, Int.reduceLE, Int.reduceGT, Int.reduceGE]
      refine call_of (callsR_spec h hs _) ?_
      have hC : (callsP h).length ≤ 1000 := by omega
      generalize callsP h = C at hcl hR0 hbad hC ⊢
      simp -implicitDefEqProofs (maxSteps := 1000000) (disch := omega) only [↓xsP, ↓vc_seq, xsQ, xsT, xsR, xsD, ↓reduceIte, reduceCtorEq, eq_self, ne_eq, imp_self, forall_const, Nat.reduceEqDiff, Nat.reduceAdd, Nat.reduceSub, Nat.reduceMul, Nat.reduceLT, Nat.reduceLeDiff, Nat.reduceBEq, Nat.reduceDiv, Nat.reduceMod, Int.reduceToNat, Int.reduceNeg, Int.reduceAdd, Int.reduceSub, Int.reduceMul, Int.reduceEq, Int.reduceNe, Int.reduceLT, Int.reduceLE, Int.reduceGT, Int.reduceGE]
      rw [if_pos (by omega)]
      simp -implicitDefEqProofs (maxSteps := 1000000) (disch := omega) only [↓xsP, ↓vc_seq, xsQ, xsT, xsR, xsD, ↓reduceIte, reduceCtorEq, eq_self, ne_eq, imp_self, forall_const, Nat.reduceEqDiff, Nat.reduceAdd, Nat.reduceSub, Nat.reduceMul, Nat.reduceLT, Nat.reduceLeDiff, Nat.reduceBEq, Nat.reduceDiv, Nat.reduceMod, Int.reduceToNat, Int.reduceNeg, Int.reduceAdd, Int.reduceSub, Int.reduceMul, Int.reduceEq, Int.reduceNe, Int.reduceLT, Int.reduceLE, Int.reduceGT, Int.reduceGE]
      refine newI_intro fun id hid => ?_
      simp -implicitDefEqProofs (maxSteps := 1000000) (disch := omega) only [↓xsP, ↓vc_seq, xsQ, xsT, xsR, xsD, ↓reduceIte, reduceCtorEq, eq_self, ne_eq, imp_self, forall_const, Nat.reduceEqDiff, Nat.reduceAdd, Nat.reduceSub, Nat.reduceMul, Nat.reduceLT, Nat.reduceLeDiff, Nat.reduceBEq, Nat.reduceDiv, Nat.reduceMod, Int.reduceToNat, Int.reduceNeg, Int.reduceAdd, Int.reduceSub, Int.reduceMul, Int.reduceEq, Int.reduceNe, Int.reduceLT, Int.reduceLE, Int.reduceGT, Int.reduceGE]
      have hno : namedB C l = false → (if (namedB C l && timelyB C l) = true then goesO C l b else none) = none := fun h => by rw [h]; rfl
      refine loopI_of (xloop (by kernel_rfl) (fun k fr M' => ∃ (i : Nat) (P : List Int), i ≤ l.length ∧ k = l.length - i ∧ fr 0 = .l (.sl (b.map Pr.row)) ∧ fr 2 = .l (.sl (l.map irow)) ∧ fr 8 = .l (.sl (C.map Cl.row)) ∧ fr 9 = .l (.ms id 0 C.length) ∧ fr 33 = .l (.sl (l.map irow)) ∧ fr 34 = .l (.int .i64 l.length) ∧ fr 35 = .l (.int .i64 i) ∧
        M' = M.set id (.cells 3 (P.map irow) 0) ∧ P.length = C.length ∧ (∀ x ∈ l.take i, (0 ≤ x ∧ x < C.length) ∧ refB (clAt C x) = false) ∧ (l.take i).Nodup ∧ ∀ j, j < C.length → (P.getD j 0 ≠ 0 ↔ (j : Int) ∈ l.take i)) l.length ?_ ?_)
      · refine ⟨0, List.replicate C.length 0, Nat.zero_le _, rfl, by simp -implicitDefEqProofs (maxSteps := 1000000) (disch := omega) only [↓xsP, ↓vc_seq, xsQ, xsT, xsR, xsD, ↓reduceIte, reduceCtorEq, eq_self, ne_eq, imp_self, forall_const, Nat.reduceEqDiff, Nat.reduceAdd, Nat.reduceSub, Nat.reduceMul, Nat.reduceLT, Nat.reduceLeDiff, Nat.reduceBEq, Nat.reduceDiv, Nat.reduceMod, Int.reduceToNat, Int.reduceNeg, Int.reduceAdd, Int.reduceSub, Int.reduceMul, Int.reduceEq, Int.reduceNe, Int.reduceLT, Int.reduceLE, Int.reduceGT, Int.reduceGE], by simp -implicitDefEqProofs (maxSteps := 1000000) (disch := omega) only [↓xsP, ↓vc_seq, xsQ, xsT, xsR, xsD, ↓reduceIte, reduceCtorEq, eq_self, ne_eq, imp_self, forall_const, Nat.reduceEqDiff, Nat.reduceAdd, Nat.reduceSub, Nat.reduceMul, Nat.reduceLT, Nat.reduceLeDiff, Nat.reduceBEq, Nat.reduceDiv, Nat.reduceMod, Int.reduceToNat, Int.reduceNeg, Int.reduceAdd, Int.reduceSub, Int.reduceMul, Int.reduceEq, Int.reduceNe, Int.reduceLT, Int.reduceLE, Int.reduceGT, Int.reduceGE], by simp -implicitDefEqProofs (maxSteps := 1000000) (disch := omega) only [↓xsP, ↓vc_seq, xsQ, xsT, xsR, xsD, ↓reduceIte, reduceCtorEq, eq_self, ne_eq, imp_self, forall_const, Nat.reduceEqDiff, Nat.reduceAdd, Nat.reduceSub, Nat.reduceMul, Nat.reduceLT, Nat.reduceLeDiff, Nat.reduceBEq, Nat.reduceDiv, Nat.reduceMod, Int.reduceToNat, Int.reduceNeg, Int.reduceAdd, Int.reduceSub, Int.reduceMul, Int.reduceEq, Int.reduceNe, Int.reduceLT, Int.reduceLE, Int.reduceGT, Int.reduceGE], by simp -implicitDefEqProofs (maxSteps := 1000000) (disch := omega) only [↓xsP, ↓vc_seq, xsQ, xsT, xsR, xsD, ↓reduceIte, reduceCtorEq, eq_self, ne_eq, imp_self, forall_const, Nat.reduceEqDiff, Nat.reduceAdd, Nat.reduceSub, Nat.reduceMul, Nat.reduceLT, Nat.reduceLeDiff, Nat.reduceBEq, Nat.reduceDiv, Nat.reduceMod, Int.reduceToNat, Int.reduceNeg, Int.reduceAdd, Int.reduceSub, Int.reduceMul, Int.reduceEq, Int.reduceNe, Int.reduceLT, Int.reduceLE, Int.reduceGT, Int.reduceGE, List.length_replicate], by simp -implicitDefEqProofs (maxSteps := 1000000) (disch := omega) only [↓xsP, ↓vc_seq, xsQ, xsT, xsR, xsD, ↓reduceIte, reduceCtorEq, eq_self, ne_eq, imp_self, forall_const, Nat.reduceEqDiff, Nat.reduceAdd, Nat.reduceSub, Nat.reduceMul, Nat.reduceLT, Nat.reduceLeDiff, Nat.reduceBEq, Nat.reduceDiv, Nat.reduceMod, Int.reduceToNat, Int.reduceNeg, Int.reduceAdd, Int.reduceSub, Int.reduceMul, Int.reduceEq, Int.reduceNe, Int.reduceLT, Int.reduceLE, Int.reduceGT, Int.reduceGE], by simp -implicitDefEqProofs (maxSteps := 1000000) (disch := omega) only [↓xsP, ↓vc_seq, xsQ, xsT, xsR, xsD, ↓reduceIte, reduceCtorEq, eq_self, ne_eq, imp_self, forall_const, Nat.reduceEqDiff, Nat.reduceAdd, Nat.reduceSub, Nat.reduceMul, Nat.reduceLT, Nat.reduceLeDiff, Nat.reduceBEq, Nat.reduceDiv, Nat.reduceMod, Int.reduceToNat, Int.reduceNeg, Int.reduceAdd, Int.reduceSub, Int.reduceMul, Int.reduceEq, Int.reduceNe, Int.reduceLT, Int.reduceLE, Int.reduceGT, Int.reduceGE], by simp -implicitDefEqProofs (maxSteps := 1000000) (disch := omega) only [↓xsP, ↓vc_seq, xsQ, xsT, xsR, xsD, ↓reduceIte, reduceCtorEq, eq_self, ne_eq, imp_self, forall_const, Nat.reduceEqDiff, Nat.reduceAdd, Nat.reduceSub, Nat.reduceMul, Nat.reduceLT, Nat.reduceLeDiff, Nat.reduceBEq, Nat.reduceDiv, Nat.reduceMod, Int.reduceToNat, Int.reduceNeg, Int.reduceAdd, Int.reduceSub, Int.reduceMul, Int.reduceEq, Int.reduceNe, Int.reduceLT, Int.reduceLE, Int.reduceGT, Int.reduceGE, Int.cast_ofNat_Int], by rw [List.map_replicate]; rfl, by simp, by simp, by simp, fun j hj => ⟨fun h => absurd ?_ h, fun h => by simp at h⟩⟩
        simp [List.getD_eq_getElem?_getD, hj]
      · rintro k fr M' ⟨i, P, hi, rfl, h0, h2', h8, h9, h33, h34, h35, hM', hP, hin, hnd, hpl⟩
        have hMi : M' id = some (.cells 3 (P.map irow) 0) := by rw [hM']; exact Mem.set_eq _ _ _
        have hleM : M.le M' := by rw [hM']; exact le_new (Mem.le_refl _) hid
        simp -implicitDefEqProofs (maxSteps := 1000000) (disch := omega) only [↓xsP, ↓vc_seq, xsQ, xsT, xsR, xsD, ↓reduceIte, reduceCtorEq, eq_self, ne_eq, imp_self, forall_const, Nat.reduceEqDiff, Nat.reduceAdd, Nat.reduceSub, Nat.reduceMul, Nat.reduceLT, Nat.reduceLeDiff, Nat.reduceBEq, Nat.reduceDiv, Nat.reduceMod, Int.reduceToNat, Int.reduceNeg, Int.reduceAdd, Int.reduceSub, Int.reduceMul, Int.reduceEq, Int.reduceNe, Int.reduceLT, Int.reduceLE, Int.reduceGT, Int.reduceGE, h0, h2', h8, h9, h33, h34, h35]
        refine condI_prop (fun hlt => ?_) (fun hlt => ?_)
        · simp -implicitDefEqProofs (maxSteps := 1000000) (disch := omega) only [↓xsP, ↓vc_seq, xsQ, xsT, xsR, xsD, ↓reduceIte, reduceCtorEq, eq_self, ne_eq, imp_self, forall_const, Nat.reduceEqDiff, Nat.reduceAdd, Nat.reduceSub, Nat.reduceMul, Nat.reduceLT, Nat.reduceLeDiff, Nat.reduceBEq, Nat.reduceDiv, Nat.reduceMod, Int.reduceToNat, Int.reduceNeg, Int.reduceAdd, Int.reduceSub, Int.reduceMul, Int.reduceEq, Int.reduceNe, Int.reduceLT, Int.reduceLE, Int.reduceGT, Int.reduceGE, h0, h2', h8, h9, h33, h34, h35]
          have hil : i < l.length := by omega
          have hsc := take_sc l default hil
          have hxm := getD_mem' l default hil
          have hbd := fun hh => hbad M' hleM (hno (named_bad hil hh))
          generalize hx : l.getD i default = x at hsc hbd hxm ⊢
          refine gI_prop_f (fun hx1 => ?_) (fun hx1 => ?_)
          · simp -implicitDefEqProofs (maxSteps := 1000000) (disch := omega) only [↓xsP, ↓vc_seq, xsQ, xsT, xsR, xsD, ↓reduceIte, reduceCtorEq, eq_self, ne_eq, imp_self, forall_const, Nat.reduceEqDiff, Nat.reduceAdd, Nat.reduceSub, Nat.reduceMul, Nat.reduceLT, Nat.reduceLeDiff, Nat.reduceBEq, Nat.reduceDiv, Nat.reduceMod, Int.reduceToNat, Int.reduceNeg, Int.reduceAdd, Int.reduceSub, Int.reduceMul, Int.reduceEq, Int.reduceNe, Int.reduceLT, Int.reduceLE, Int.reduceGT, Int.reduceGE, h0, h2', h8, h9, h33, h34, h35, hx1]
            refine gI_prop_f (fun hx2 => ?_) (fun hx2 => ?_)
            · have hxn : x.toNat < C.length := by omega
              have hgx := i_get P (k := x.toNat) (by omega)
              have hxr : (0 ≤ x ∧ x < (C.length : Int)) = True := eq_true (by omega)
              simp -implicitDefEqProofs (maxSteps := 1000000) (disch := omega) only [↓xsP, ↓vc_seq, xsQ, xsT, xsR, xsD, ↓reduceIte, reduceCtorEq, eq_self, ne_eq, imp_self, forall_const, Nat.reduceEqDiff, Nat.reduceAdd, Nat.reduceSub, Nat.reduceMul, Nat.reduceLT, Nat.reduceLeDiff, Nat.reduceBEq, Nat.reduceDiv, Nat.reduceMod, Int.reduceToNat, Int.reduceNeg, Int.reduceAdd, Int.reduceSub, Int.reduceMul, Int.reduceEq, Int.reduceNe, Int.reduceLT, Int.reduceLE, Int.reduceGT, Int.reduceGE, h0, h2', h8, h9, h33, h34, h35, hx1, hx2, hMi, hxr, hgx]
              refine gI_prop_f (fun hx3 => ?_) (fun hx3 => ?_)
              · have hx3' : P.getD x.toNat 0 = 0 := by simpa using hx3
                have hxnm : x ∉ l.take i := fun h => absurd hx3' ((hpl x.toNat hxn).2 (by rwa [Int.toNat_of_nonneg (by omega)]))
                simp -implicitDefEqProofs (maxSteps := 1000000) (disch := omega) only [↓xsP, ↓vc_seq, xsQ, xsT, xsR, xsD, ↓reduceIte, reduceCtorEq, eq_self, ne_eq, imp_self, forall_const, Nat.reduceEqDiff, Nat.reduceAdd, Nat.reduceSub, Nat.reduceMul, Nat.reduceLT, Nat.reduceLeDiff, Nat.reduceBEq, Nat.reduceDiv, Nat.reduceMod, Int.reduceToNat, Int.reduceNeg, Int.reduceAdd, Int.reduceSub, Int.reduceMul, Int.reduceEq, Int.reduceNe, Int.reduceLT, Int.reduceLE, Int.reduceGT, Int.reduceGE, h0, h2', h8, h9, h33, h34, h35, hx1, hx2, hMi, hxr, hgx, hx3']
                refine call_of (refused_spec (clAt C x) _) ?_
                cases hrf : refB (clAt C x) with
                | true =>
                  simp -implicitDefEqProofs (maxSteps := 1000000) (disch := omega) only [↓xsP, ↓vc_seq, xsQ, xsT, xsR, xsD, ↓reduceIte, reduceCtorEq, eq_self, ne_eq, imp_self, forall_const, Nat.reduceEqDiff, Nat.reduceAdd, Nat.reduceSub, Nat.reduceMul, Nat.reduceLT, Nat.reduceLeDiff, Nat.reduceBEq, Nat.reduceDiv, Nat.reduceMod, Int.reduceToNat, Int.reduceNeg, Int.reduceAdd, Int.reduceSub, Int.reduceMul, Int.reduceEq, Int.reduceNe, Int.reduceLT, Int.reduceLE, Int.reduceGT, Int.reduceGE]
                  exact hbad M' hleM (hno (named_ref hxm ⟨by omega, by omega⟩ hrf))
                | false =>
                  have hwi : IntKind.i64.wrap ((i : Int) + 1) = (i : Int) + 1 := wrap_in (by omega) (by omega)
                  simp -implicitDefEqProofs (maxSteps := 1000000) (disch := omega) only [↓xsP, ↓vc_seq, xsQ, xsT, xsR, xsD, ↓reduceIte, reduceCtorEq, eq_self, ne_eq, imp_self, forall_const, Nat.reduceEqDiff, Nat.reduceAdd, Nat.reduceSub, Nat.reduceMul, Nat.reduceLT, Nat.reduceLeDiff, Nat.reduceBEq, Nat.reduceDiv, Nat.reduceMod, Int.reduceToNat, Int.reduceNeg, Int.reduceAdd, Int.reduceSub, Int.reduceMul, Int.reduceEq, Int.reduceNe, Int.reduceLT, Int.reduceLE, Int.reduceGT, Int.reduceGE, h0, h2', h8, h9, h33, h34, h35, hMi, hxr, hwi, hx3']
                  refine ⟨l.length - (i + 1), M.set id (.cells 3 ((P.set x.toNat ((i : Int) + 1)).map irow) 0), by omega, ?_, i + 1, P.set x.toNat ((i : Int) + 1), by omega, rfl, by simp, rfl, by simp [hP], ?_, ?_, ?_⟩
                  · rw [i_set, hM', Mem.set_set]
                    exact Mem.le_refl _
                  · rw [hsc]
                    intro y hy
                    rcases List.mem_append.1 hy with hy | hy
                    · exact hin y hy
                    · rw [List.mem_singleton.1 hy]
                      exact ⟨by omega, hrf⟩
                  · rw [hsc, List.nodup_append]
                    refine ⟨hnd, by simp, fun a ha b hb e => ?_⟩
                    rw [List.mem_singleton.1 hb] at e
                    exact hxnm (e ▸ ha)
                  · intro j hj
                    rw [getD_set _ _ _ _ _ (by omega), hsc, List.mem_append, List.mem_singleton]
                    split
                    · rename_i e
                      exact ⟨fun _ => .inr (by omega), fun _ => by omega⟩
                    · rename_i e
                      refine (hpl j hj).trans ?_
                      exact ⟨.inl, fun h => h.elim (fun h => h) fun h => absurd (show j = x.toNat by omega) e⟩
              · simp -implicitDefEqProofs (maxSteps := 1000000) (disch := omega) only [↓xsP, ↓vc_seq, xsQ, xsT, xsR, xsD, ↓reduceIte, reduceCtorEq, eq_self, ne_eq, imp_self, forall_const, Nat.reduceEqDiff, Nat.reduceAdd, Nat.reduceSub, Nat.reduceMul, Nat.reduceLT, Nat.reduceLeDiff, Nat.reduceBEq, Nat.reduceDiv, Nat.reduceMod, Int.reduceToNat, Int.reduceNeg, Int.reduceAdd, Int.reduceSub, Int.reduceMul, Int.reduceEq, Int.reduceNe, Int.reduceLT, Int.reduceLE, Int.reduceGT, Int.reduceGE, h0, h2', h8, h9, h33, h34, h35, hx1, hx2, hMi, hxr, hgx, hx3]
                exact hbd (.inr (.inr (by have := (hpl x.toNat hxn).1 hx3; rwa [Int.toNat_of_nonneg (by omega)] at this)))
            · simp -implicitDefEqProofs (maxSteps := 1000000) (disch := omega) only [↓xsP, ↓vc_seq, xsQ, xsT, xsR, xsD, ↓reduceIte, reduceCtorEq, eq_self, ne_eq, imp_self, forall_const, Nat.reduceEqDiff, Nat.reduceAdd, Nat.reduceSub, Nat.reduceMul, Nat.reduceLT, Nat.reduceLeDiff, Nat.reduceBEq, Nat.reduceDiv, Nat.reduceMod, Int.reduceToNat, Int.reduceNeg, Int.reduceAdd, Int.reduceSub, Int.reduceMul, Int.reduceEq, Int.reduceNe, Int.reduceLT, Int.reduceLE, Int.reduceGT, Int.reduceGE, h0, h2', h8, h9, h33, h34, h35, hx1, hx2]
              exact hbd (.inr (.inl (by omega)))
          · simp -implicitDefEqProofs (maxSteps := 1000000) (disch := omega) only [↓xsP, ↓vc_seq, xsQ, xsT, xsR, xsD, ↓reduceIte, reduceCtorEq, eq_self, ne_eq, imp_self, forall_const, Nat.reduceEqDiff, Nat.reduceAdd, Nat.reduceSub, Nat.reduceMul, Nat.reduceLT, Nat.reduceLeDiff, Nat.reduceBEq, Nat.reduceDiv, Nat.reduceMod, Int.reduceToNat, Int.reduceNeg, Int.reduceAdd, Int.reduceSub, Int.reduceMul, Int.reduceEq, Int.reduceNe, Int.reduceLT, Int.reduceLE, Int.reduceGT, Int.reduceGE, h0, h2', h8, h9, h33, h34, h35, hx1]
            exact hbd (.inl hx1)
        · have hil : i = l.length := by omega
          rw [hil, List.take_of_length_le (Nat.le_refl _)] at hin hnd hpl
          simp -implicitDefEqProofs (maxSteps := 1000000) (disch := omega) only [↓xsP, xsQ, xsT, xsR, xsD, ↓reduceIte, reduceCtorEq, eq_self, ne_eq, imp_self, forall_const, Nat.reduceEqDiff, Nat.reduceAdd, Nat.reduceSub, Nat.reduceMul, Nat.reduceLT, Nat.reduceLeDiff, Nat.reduceBEq, Nat.reduceDiv, Nat.reduceMod, Int.reduceToNat, Int.reduceNeg, Int.reduceAdd, Int.reduceSub, Int.reduceMul, Int.reduceEq, Int.reduceNe, Int.reduceLT, Int.reduceLE, Int.reduceGT, Int.reduceGE, h0, h2', h8, h9, h33, h34, h35]
          refine vc_cut (fun fr' N' => ∃ N x, GStep N' N ∧ M.le N ∧ N id = some (.cells 3 (P.map irow) 0) ∧ IsK N x b ∧ fr' 12 = .l x ∧ fr' 2 = .l (.sl (l.map irow)) ∧ fr' 8 = .l (.sl (C.map Cl.row)) ∧ fr' 9 = .l (.ms id 0 C.length)) ?_ ?_
          · simp -implicitDefEqProofs (maxSteps := 1000000) (disch := omega) only [↓xsP, ↓vc_seq, xsQ, xsT, xsR, xsD, ↓reduceIte, reduceCtorEq, eq_self, ne_eq, imp_self, forall_const, Nat.reduceEqDiff, Nat.reduceAdd, Nat.reduceSub, Nat.reduceMul, Nat.reduceLT, Nat.reduceLeDiff, Nat.reduceBEq, Nat.reduceDiv, Nat.reduceMod, Int.reduceToNat, Int.reduceNeg, Int.reduceAdd, Int.reduceSub, Int.reduceMul, Int.reduceEq, Int.reduceNe, Int.reduceLT, Int.reduceLE, Int.reduceGT, Int.reduceGE, h0, h2', h8, h9]
            refine app_nils _ _ _ _ 26 _ _ ti_27 rfl ti_26 (by kernel_rfl) (by decide) _ (b.map Pr.row) ?_ ?_ ?_ (fun he => ?_) (fun hne idB hidB => ?_)
            · simp -implicitDefEqProofs (maxSteps := 1000000) (disch := omega) only [↓xsP, ↓vc_seq, xsQ, xsT, xsR, xsD, ↓reduceIte, reduceCtorEq, eq_self, ne_eq, imp_self, forall_const, Nat.reduceEqDiff, Nat.reduceAdd, Nat.reduceSub, Nat.reduceMul, Nat.reduceLT, Nat.reduceLeDiff, Nat.reduceBEq, Nat.reduceDiv, Nat.reduceMod, Int.reduceToNat, Int.reduceNeg, Int.reduceAdd, Int.reduceSub, Int.reduceMul, Int.reduceEq, Int.reduceNe, Int.reduceLT, Int.reduceLE, Int.reduceGT, Int.reduceGE]
              rw [if_pos (fun r hr => by obtain ⟨p, _, rfl⟩ := List.mem_map.1 hr; rfl)]
            · exact Nat.le_trans (Nat.mul_le_mul_right _ (show (b.map Pr.row).length ≤ 1000001 by simp; omega)) (by decide)
            · simp
              omega
            · simp -implicitDefEqProofs (maxSteps := 1000000) (disch := omega) only [↓xsP, ↓vc_seq, xsQ, xsT, xsR, xsD, ↓reduceIte, reduceCtorEq, eq_self, ne_eq, imp_self, forall_const, Nat.reduceEqDiff, Nat.reduceAdd, Nat.reduceSub, Nat.reduceMul, Nat.reduceLT, Nat.reduceLeDiff, Nat.reduceBEq, Nat.reduceDiv, Nat.reduceMod, Int.reduceToNat, Int.reduceNeg, Int.reduceAdd, Int.reduceSub, Int.reduceMul, Int.reduceEq, Int.reduceNe, Int.reduceLT, Int.reduceLE, Int.reduceGT, Int.reduceGE, h0, h2', h8, h9]
              exact ⟨M', .nils, GStep.le (Mem.le_refl _), hleM, hMi, .inl (.inr ⟨by simpa using he, rfl⟩), rfl⟩
            · simp -implicitDefEqProofs (maxSteps := 1000000) (disch := omega) only [↓xsP, ↓vc_seq, xsQ, xsT, xsR, xsD, ↓reduceIte, reduceCtorEq, eq_self, ne_eq, imp_self, forall_const, Nat.reduceEqDiff, Nat.reduceAdd, Nat.reduceSub, Nat.reduceMul, Nat.reduceLT, Nat.reduceLeDiff, Nat.reduceBEq, Nat.reduceDiv, Nat.reduceMod, Int.reduceToNat, Int.reduceNeg, Int.reduceAdd, Int.reduceSub, Int.reduceMul, Int.reduceEq, Int.reduceNe, Int.reduceLT, Int.reduceLE, Int.reduceGT, Int.reduceGE, h0, h2', h8, h9]
              have hidM : ∀ j, idB ≤ j → M j = none := (bnd_new (hM' ▸ hidB)).2
              have hlt := lt_of_bnd hidB hMi
              refine ⟨_, .ms idB 0 b.length, GStep.frz (Mem.set_eq _ _ _), ?_, ?_, .inr ⟨idB, _, Mem.set_eq _ _ _, by simp, rfl⟩, by simp⟩
              · rw [Mem.set_set]
                exact le_new hleM hidM
              · rw [Mem.set_set, Mem.set_ne _ _ _ _ (by omega)]
                exact hMi
          · clear hM' hMi hleM h0 h2' h8 h9 h33 h34 h35
            rintro fr N' ⟨N, x, hg, hleM, hMi, hxK, h12, h2', h8, h9⟩
            simp -implicitDefEqProofs (maxSteps := 1000000) (disch := omega) only [↓xsP, ↓vc_seq, xsQ, xsT, xsR, xsD, ↓reduceIte, reduceCtorEq, eq_self, ne_eq, imp_self, forall_const, Nat.reduceEqDiff, Nat.reduceAdd, Nat.reduceSub, Nat.reduceMul, Nat.reduceLT, Nat.reduceLeDiff, Nat.reduceBEq, Nat.reduceDiv, Nat.reduceMod, Int.reduceToNat, Int.reduceNeg, Int.reduceAdd, Int.reduceSub, Int.reduceMul, Int.reduceEq, Int.reduceNe, Int.reduceLT, Int.reduceLE, Int.reduceGT, Int.reduceGE, h12, h2', h8, h9]
            refine loopI_gs hg ?_
            clear hg
            have hin' : ∀ x ∈ l, 0 ≤ x ∧ x < C.length := fun x hx => (hin x hx).1
            have htim : timelyB C l = false → (if (namedB C l && timelyB C l) = true then goesO C l b else none) = none := fun h => by rw [h, Bool.and_false]; rfl
            have hgoe : goesO C l b = none → (if (namedB C l && timelyB C l) = true then goesO C l b else none) = none := fun h => by rw [h]; split <;> rfl
            refine xloop (by kernel_rfl) (fun k fr M2 => ∃ (i : Nat) (x : Lf) (s : List Pr), i ≤ l.length ∧ k = l.length - i ∧ fr 2 = .l (.sl (l.map irow)) ∧ fr 8 = .l (.sl (C.map Cl.row)) ∧ fr 9 = .l (.ms id 0 C.length) ∧ fr 12 = .l x ∧ fr 70 = .l (.sl (l.map irow)) ∧ fr 71 = .l (.int .i64 l.length) ∧ fr 72 = .l (.int .i64 i) ∧ M2 = N ∧
              IsK N x s ∧ s.length ≤ b.length + i ∧ goesO C l b = goesO C (l.drop i) s ∧ ∀ a b, a < b → b < l.length → a < i → ¬ befP (clAt C (l.getD b default)) (clAt C (l.getD a default))) l.length ?_ ?_
            · exact ⟨0, x, b, Nat.zero_le _, rfl, by simp -implicitDefEqProofs (maxSteps := 1000000) (disch := omega) only [↓xsP, ↓vc_seq, xsQ, xsT, xsR, xsD, ↓reduceIte, reduceCtorEq, eq_self, ne_eq, imp_self, forall_const, Nat.reduceEqDiff, Nat.reduceAdd, Nat.reduceSub, Nat.reduceMul, Nat.reduceLT, Nat.reduceLeDiff, Nat.reduceBEq, Nat.reduceDiv, Nat.reduceMod, Int.reduceToNat, Int.reduceNeg, Int.reduceAdd, Int.reduceSub, Int.reduceMul, Int.reduceEq, Int.reduceNe, Int.reduceLT, Int.reduceLE, Int.reduceGT, Int.reduceGE, h2'], by simp -implicitDefEqProofs (maxSteps := 1000000) (disch := omega) only [↓xsP, ↓vc_seq, xsQ, xsT, xsR, xsD, ↓reduceIte, reduceCtorEq, eq_self, ne_eq, imp_self, forall_const, Nat.reduceEqDiff, Nat.reduceAdd, Nat.reduceSub, Nat.reduceMul, Nat.reduceLT, Nat.reduceLeDiff, Nat.reduceBEq, Nat.reduceDiv, Nat.reduceMod, Int.reduceToNat, Int.reduceNeg, Int.reduceAdd, Int.reduceSub, Int.reduceMul, Int.reduceEq, Int.reduceNe, Int.reduceLT, Int.reduceLE, Int.reduceGT, Int.reduceGE, h8], by simp -implicitDefEqProofs (maxSteps := 1000000) (disch := omega) only [↓xsP, ↓vc_seq, xsQ, xsT, xsR, xsD, ↓reduceIte, reduceCtorEq, eq_self, ne_eq, imp_self, forall_const, Nat.reduceEqDiff, Nat.reduceAdd, Nat.reduceSub, Nat.reduceMul, Nat.reduceLT, Nat.reduceLeDiff, Nat.reduceBEq, Nat.reduceDiv, Nat.reduceMod, Int.reduceToNat, Int.reduceNeg, Int.reduceAdd, Int.reduceSub, Int.reduceMul, Int.reduceEq, Int.reduceNe, Int.reduceLT, Int.reduceLE, Int.reduceGT, Int.reduceGE, h9], by simp -implicitDefEqProofs (maxSteps := 1000000) (disch := omega) only [↓xsP, ↓vc_seq, xsQ, xsT, xsR, xsD, ↓reduceIte, reduceCtorEq, eq_self, ne_eq, imp_self, forall_const, Nat.reduceEqDiff, Nat.reduceAdd, Nat.reduceSub, Nat.reduceMul, Nat.reduceLT, Nat.reduceLeDiff, Nat.reduceBEq, Nat.reduceDiv, Nat.reduceMod, Int.reduceToNat, Int.reduceNeg, Int.reduceAdd, Int.reduceSub, Int.reduceMul, Int.reduceEq, Int.reduceNe, Int.reduceLT, Int.reduceLE, Int.reduceGT, Int.reduceGE, h12], by simp -implicitDefEqProofs (maxSteps := 1000000) (disch := omega) only [↓xsP, ↓vc_seq, xsQ, xsT, xsR, xsD, ↓reduceIte, reduceCtorEq, eq_self, ne_eq, imp_self, forall_const, Nat.reduceEqDiff, Nat.reduceAdd, Nat.reduceSub, Nat.reduceMul, Nat.reduceLT, Nat.reduceLeDiff, Nat.reduceBEq, Nat.reduceDiv, Nat.reduceMod, Int.reduceToNat, Int.reduceNeg, Int.reduceAdd, Int.reduceSub, Int.reduceMul, Int.reduceEq, Int.reduceNe, Int.reduceLT, Int.reduceLE, Int.reduceGT, Int.reduceGE], by simp -implicitDefEqProofs (maxSteps := 1000000) (disch := omega) only [↓xsP, ↓vc_seq, xsQ, xsT, xsR, xsD, ↓reduceIte, reduceCtorEq, eq_self, ne_eq, imp_self, forall_const, Nat.reduceEqDiff, Nat.reduceAdd, Nat.reduceSub, Nat.reduceMul, Nat.reduceLT, Nat.reduceLeDiff, Nat.reduceBEq, Nat.reduceDiv, Nat.reduceMod, Int.reduceToNat, Int.reduceNeg, Int.reduceAdd, Int.reduceSub, Int.reduceMul, Int.reduceEq, Int.reduceNe, Int.reduceLT, Int.reduceLE, Int.reduceGT, Int.reduceGE], by simp -implicitDefEqProofs (maxSteps := 1000000) (disch := omega) only [↓xsP, ↓vc_seq, xsQ, xsT, xsR, xsD, ↓reduceIte, reduceCtorEq, eq_self, ne_eq, imp_self, forall_const, Nat.reduceEqDiff, Nat.reduceAdd, Nat.reduceSub, Nat.reduceMul, Nat.reduceLT, Nat.reduceLeDiff, Nat.reduceBEq, Nat.reduceDiv, Nat.reduceMod, Int.reduceToNat, Int.reduceNeg, Int.reduceAdd, Int.reduceSub, Int.reduceMul, Int.reduceEq, Int.reduceNe, Int.reduceLT, Int.reduceLE, Int.reduceGT, Int.reduceGE, Int.cast_ofNat_Int], rfl, hxK, by omega, rfl, fun a b _ _ h => by omega⟩
            · clear h12 h2' h8 h9 hxK
              rintro k fr M2 ⟨i, x, s, hi, rfl, h2', h8, h9, h12, h70, h71, h72, rfl, hxK, hsl, hgo, hok⟩
              simp -implicitDefEqProofs (maxSteps := 1000000) (disch := omega) only [↓xsP, ↓vc_seq, xsQ, xsT, xsR, xsD, ↓reduceIte, reduceCtorEq, eq_self, ne_eq, imp_self, forall_const, Nat.reduceEqDiff, Nat.reduceAdd, Nat.reduceSub, Nat.reduceMul, Nat.reduceLT, Nat.reduceLeDiff, Nat.reduceBEq, Nat.reduceDiv, Nat.reduceMod, Int.reduceToNat, Int.reduceNeg, Int.reduceAdd, Int.reduceSub, Int.reduceMul, Int.reduceEq, Int.reduceNe, Int.reduceLT, Int.reduceLE, Int.reduceGT, Int.reduceGE, h2', h8, h9, h12, h70, h71, h72]
              refine condI_prop (fun hlt => ?_) (fun hlt => ?_)
              · have hil : i < l.length := by omega
                simp -implicitDefEqProofs (maxSteps := 1000000) (disch := omega) only [↓xsP, ↓vc_seq, xsQ, xsT, xsR, xsD, ↓reduceIte, reduceCtorEq, eq_self, ne_eq, imp_self, forall_const, Nat.reduceEqDiff, Nat.reduceAdd, Nat.reduceSub, Nat.reduceMul, Nat.reduceLT, Nat.reduceLeDiff, Nat.reduceBEq, Nat.reduceDiv, Nat.reduceMod, Int.reduceToNat, Int.reduceNeg, Int.reduceAdd, Int.reduceSub, Int.reduceMul, Int.reduceEq, Int.reduceNe, Int.reduceLT, Int.reduceLE, Int.reduceGT, Int.reduceGE, h2', h8, h9, h12, h70, h71, h72, i_drop]
                rw [if_pos (show (0 : Int) ≤ (i : Int) + 1 by omega)]
                simp -implicitDefEqProofs (maxSteps := 1000000) (disch := omega) only [↓xsP, ↓vc_seq, xsQ, xsT, xsR, xsD, ↓reduceIte, reduceCtorEq, eq_self, ne_eq, imp_self, forall_const, Nat.reduceEqDiff, Nat.reduceAdd, Nat.reduceSub, Nat.reduceMul, Nat.reduceLT, Nat.reduceLeDiff, Nat.reduceBEq, Nat.reduceDiv, Nat.reduceMod, Int.reduceToNat, Int.reduceNeg, Int.reduceAdd, Int.reduceSub, Int.reduceMul, Int.reduceEq, Int.reduceNe, Int.reduceLT, Int.reduceLE, Int.reduceGT, Int.reduceGE]
                rw [if_pos ⟨by omega, rows_i l⟩]
                simp -implicitDefEqProofs (maxSteps := 1000000) (disch := omega) only [↓xsP, ↓vc_seq, xsQ, xsT, xsR, xsD, ↓reduceIte, reduceCtorEq, eq_self, ne_eq, imp_self, forall_const, Nat.reduceEqDiff, Nat.reduceAdd, Nat.reduceSub, Nat.reduceMul, Nat.reduceLT, Nat.reduceLeDiff, Nat.reduceBEq, Nat.reduceDiv, Nat.reduceMod, Int.reduceToNat, Int.reduceNeg, Int.reduceAdd, Int.reduceSub, Int.reduceMul, Int.reduceEq, Int.reduceNe, Int.reduceLT, Int.reduceLE, Int.reduceGT, Int.reduceGE, h2', h8, h9, h12, h70, h71, h72]
                rw [List.take_of_length_le (by simp)]
                simp -implicitDefEqProofs (maxSteps := 1000000) (disch := omega) only [↓xsP, ↓vc_seq, xsQ, xsT, xsR, xsD, ↓reduceIte, reduceCtorEq, eq_self, ne_eq, imp_self, forall_const, Nat.reduceEqDiff, Nat.reduceAdd, Nat.reduceSub, Nat.reduceMul, Nat.reduceLT, Nat.reduceLeDiff, Nat.reduceBEq, Nat.reduceDiv, Nat.reduceMod, Int.reduceToNat, Int.reduceNeg, Int.reduceAdd, Int.reduceSub, Int.reduceMul, Int.reduceEq, Int.reduceNe, Int.reduceLT, Int.reduceLE, Int.reduceGT, Int.reduceGE, h2', h8, h9, h12, h70, h71, h72]
                have hd : l.drop i = l.getD i default :: l.drop (i + 1) := by
                  rw [List.drop_eq_getElem_cons hil, List.getD_eq_getElem?_getD, List.getElem?_eq_getElem hil, Option.getD_some]
                rw [hd, goesO] at hgo
                have hdl : (l.drop (i + 1)).length = l.length - (i + 1) := by simp
                have hdg : ∀ j, (l.drop (i + 1)).getD j default = l.getD (i + 1 + j) default := gd_drop l (i + 1)
                have hxi := hin' _ (getD_mem' l default hil)
                generalize hx : l.getD i default = y at hxi hgo ⊢
                refine loopI_of (xloop (by kernel_rfl) (fun k fr M3 => ∃ j : Nat, j ≤ l.length - (i + 1) ∧ k = l.length - (i + 1) - j ∧ fr 2 = .l (.sl (l.map irow)) ∧ fr 8 = .l (.sl (C.map Cl.row)) ∧ fr 9 = .l (.ms id 0 C.length) ∧ fr 12 = .l x ∧ fr 14 = .l (.int .i64 y) ∧ fr 70 = .l (.sl (l.map irow)) ∧ fr 71 = .l (.int .i64 l.length) ∧ fr 72 = .l (.int .i64 i) ∧
                  fr 80 = .l (.sl ((l.drop (i + 1)).map irow)) ∧ fr 81 = .l (.int .i64 (l.length - (i + 1) : Nat)) ∧ fr 82 = .l (.int .i64 j) ∧ M3 = M2 ∧ ∀ b, i < b → b < i + 1 + j → ¬ befP (clAt C (l.getD b default)) (clAt C y)) (l.length - (i + 1)) ?_ ?_)
                · exact ⟨0, Nat.zero_le _, rfl, by simp -implicitDefEqProofs (maxSteps := 1000000) (disch := omega) only [↓xsP, ↓vc_seq, xsQ, xsT, xsR, xsD, ↓reduceIte, reduceCtorEq, eq_self, ne_eq, imp_self, forall_const, Nat.reduceEqDiff, Nat.reduceAdd, Nat.reduceSub, Nat.reduceMul, Nat.reduceLT, Nat.reduceLeDiff, Nat.reduceBEq, Nat.reduceDiv, Nat.reduceMod, Int.reduceToNat, Int.reduceNeg, Int.reduceAdd, Int.reduceSub, Int.reduceMul, Int.reduceEq, Int.reduceNe, Int.reduceLT, Int.reduceLE, Int.reduceGT, Int.reduceGE, h2'], by simp -implicitDefEqProofs (maxSteps := 1000000) (disch := omega) only [↓xsP, ↓vc_seq, xsQ, xsT, xsR, xsD, ↓reduceIte, reduceCtorEq, eq_self, ne_eq, imp_self, forall_const, Nat.reduceEqDiff, Nat.reduceAdd, Nat.reduceSub, Nat.reduceMul, Nat.reduceLT, Nat.reduceLeDiff, Nat.reduceBEq, Nat.reduceDiv, Nat.reduceMod, Int.reduceToNat, Int.reduceNeg, Int.reduceAdd, Int.reduceSub, Int.reduceMul, Int.reduceEq, Int.reduceNe, Int.reduceLT, Int.reduceLE, Int.reduceGT, Int.reduceGE, h8], by simp -implicitDefEqProofs (maxSteps := 1000000) (disch := omega) only [↓xsP, ↓vc_seq, xsQ, xsT, xsR, xsD, ↓reduceIte, reduceCtorEq, eq_self, ne_eq, imp_self, forall_const, Nat.reduceEqDiff, Nat.reduceAdd, Nat.reduceSub, Nat.reduceMul, Nat.reduceLT, Nat.reduceLeDiff, Nat.reduceBEq, Nat.reduceDiv, Nat.reduceMod, Int.reduceToNat, Int.reduceNeg, Int.reduceAdd, Int.reduceSub, Int.reduceMul, Int.reduceEq, Int.reduceNe, Int.reduceLT, Int.reduceLE, Int.reduceGT, Int.reduceGE, h9], by simp -implicitDefEqProofs (maxSteps := 1000000) (disch := omega) only [↓xsP, ↓vc_seq, xsQ, xsT, xsR, xsD, ↓reduceIte, reduceCtorEq, eq_self, ne_eq, imp_self, forall_const, Nat.reduceEqDiff, Nat.reduceAdd, Nat.reduceSub, Nat.reduceMul, Nat.reduceLT, Nat.reduceLeDiff, Nat.reduceBEq, Nat.reduceDiv, Nat.reduceMod, Int.reduceToNat, Int.reduceNeg, Int.reduceAdd, Int.reduceSub, Int.reduceMul, Int.reduceEq, Int.reduceNe, Int.reduceLT, Int.reduceLE, Int.reduceGT, Int.reduceGE, h12], by simp -implicitDefEqProofs (maxSteps := 1000000) (disch := omega) only [↓xsP, ↓vc_seq, xsQ, xsT, xsR, xsD, ↓reduceIte, reduceCtorEq, eq_self, ne_eq, imp_self, forall_const, Nat.reduceEqDiff, Nat.reduceAdd, Nat.reduceSub, Nat.reduceMul, Nat.reduceLT, Nat.reduceLeDiff, Nat.reduceBEq, Nat.reduceDiv, Nat.reduceMod, Int.reduceToNat, Int.reduceNeg, Int.reduceAdd, Int.reduceSub, Int.reduceMul, Int.reduceEq, Int.reduceNe, Int.reduceLT, Int.reduceLE, Int.reduceGT, Int.reduceGE], by simp -implicitDefEqProofs (maxSteps := 1000000) (disch := omega) only [↓xsP, ↓vc_seq, xsQ, xsT, xsR, xsD, ↓reduceIte, reduceCtorEq, eq_self, ne_eq, imp_self, forall_const, Nat.reduceEqDiff, Nat.reduceAdd, Nat.reduceSub, Nat.reduceMul, Nat.reduceLT, Nat.reduceLeDiff, Nat.reduceBEq, Nat.reduceDiv, Nat.reduceMod, Int.reduceToNat, Int.reduceNeg, Int.reduceAdd, Int.reduceSub, Int.reduceMul, Int.reduceEq, Int.reduceNe, Int.reduceLT, Int.reduceLE, Int.reduceGT, Int.reduceGE, h70], by simp -implicitDefEqProofs (maxSteps := 1000000) (disch := omega) only [↓xsP, ↓vc_seq, xsQ, xsT, xsR, xsD, ↓reduceIte, reduceCtorEq, eq_self, ne_eq, imp_self, forall_const, Nat.reduceEqDiff, Nat.reduceAdd, Nat.reduceSub, Nat.reduceMul, Nat.reduceLT, Nat.reduceLeDiff, Nat.reduceBEq, Nat.reduceDiv, Nat.reduceMod, Int.reduceToNat, Int.reduceNeg, Int.reduceAdd, Int.reduceSub, Int.reduceMul, Int.reduceEq, Int.reduceNe, Int.reduceLT, Int.reduceLE, Int.reduceGT, Int.reduceGE, h71], by simp -implicitDefEqProofs (maxSteps := 1000000) (disch := omega) only [↓xsP, ↓vc_seq, xsQ, xsT, xsR, xsD, ↓reduceIte, reduceCtorEq, eq_self, ne_eq, imp_self, forall_const, Nat.reduceEqDiff, Nat.reduceAdd, Nat.reduceSub, Nat.reduceMul, Nat.reduceLT, Nat.reduceLeDiff, Nat.reduceBEq, Nat.reduceDiv, Nat.reduceMod, Int.reduceToNat, Int.reduceNeg, Int.reduceAdd, Int.reduceSub, Int.reduceMul, Int.reduceEq, Int.reduceNe, Int.reduceLT, Int.reduceLE, Int.reduceGT, Int.reduceGE, h72], by simp -implicitDefEqProofs (maxSteps := 1000000) (disch := omega) only [↓xsP, ↓vc_seq, xsQ, xsT, xsR, xsD, ↓reduceIte, reduceCtorEq, eq_self, ne_eq, imp_self, forall_const, Nat.reduceEqDiff, Nat.reduceAdd, Nat.reduceSub, Nat.reduceMul, Nat.reduceLT, Nat.reduceLeDiff, Nat.reduceBEq, Nat.reduceDiv, Nat.reduceMod, Int.reduceToNat, Int.reduceNeg, Int.reduceAdd, Int.reduceSub, Int.reduceMul, Int.reduceEq, Int.reduceNe, Int.reduceLT, Int.reduceLE, Int.reduceGT, Int.reduceGE], by simp -implicitDefEqProofs (maxSteps := 1000000) (disch := omega) only [↓xsP, ↓vc_seq, xsQ, xsT, xsR, xsD, ↓reduceIte, reduceCtorEq, eq_self, ne_eq, imp_self, forall_const, Nat.reduceEqDiff, Nat.reduceAdd, Nat.reduceSub, Nat.reduceMul, Nat.reduceLT, Nat.reduceLeDiff, Nat.reduceBEq, Nat.reduceDiv, Nat.reduceMod, Int.reduceToNat, Int.reduceNeg, Int.reduceAdd, Int.reduceSub, Int.reduceMul, Int.reduceEq, Int.reduceNe, Int.reduceLT, Int.reduceLE, Int.reduceGT, Int.reduceGE, hdl], by simp -implicitDefEqProofs (maxSteps := 1000000) (disch := omega) only [↓xsP, ↓vc_seq, xsQ, xsT, xsR, xsD, ↓reduceIte, reduceCtorEq, eq_self, ne_eq, imp_self, forall_const, Nat.reduceEqDiff, Nat.reduceAdd, Nat.reduceSub, Nat.reduceMul, Nat.reduceLT, Nat.reduceLeDiff, Nat.reduceBEq, Nat.reduceDiv, Nat.reduceMod, Int.reduceToNat, Int.reduceNeg, Int.reduceAdd, Int.reduceSub, Int.reduceMul, Int.reduceEq, Int.reduceNe, Int.reduceLT, Int.reduceLE, Int.reduceGT, Int.reduceGE, Int.cast_ofNat_Int], rfl, fun b h1 h2 => by omega⟩
                · clear h2' h8 h9 h12 h70 h71 h72
                  rintro k fr M3 ⟨j, hj, rfl, h2', h8, h9, h12, h14, h70, h71, h72, h80, h81, h82, rfl, hin2⟩
                  simp -implicitDefEqProofs (maxSteps := 1000000) (disch := omega) only [↓xsP, ↓vc_seq, xsQ, xsT, xsR, xsD, ↓reduceIte, reduceCtorEq, eq_self, ne_eq, imp_self, forall_const, Nat.reduceEqDiff, Nat.reduceAdd, Nat.reduceSub, Nat.reduceMul, Nat.reduceLT, Nat.reduceLeDiff, Nat.reduceBEq, Nat.reduceDiv, Nat.reduceMod, Int.reduceToNat, Int.reduceNeg, Int.reduceAdd, Int.reduceSub, Int.reduceMul, Int.reduceEq, Int.reduceNe, Int.reduceLT, Int.reduceLE, Int.reduceGT, Int.reduceGE, h2', h8, h9, h12, h14, h70, h71, h72, h80, h81, h82]
                  refine condI_prop (fun hlt2 => ?_) (fun hlt2 => ?_)
                  · have hjl : j < l.length - (i + 1) := by omega
                    simp -implicitDefEqProofs (maxSteps := 1000000) (disch := omega) only [↓xsP, ↓vc_seq, xsQ, xsT, xsR, xsD, ↓reduceIte, reduceCtorEq, eq_self, ne_eq, imp_self, forall_const, Nat.reduceEqDiff, Nat.reduceAdd, Nat.reduceSub, Nat.reduceMul, Nat.reduceLT, Nat.reduceLeDiff, Nat.reduceBEq, Nat.reduceDiv, Nat.reduceMod, Int.reduceToNat, Int.reduceNeg, Int.reduceAdd, Int.reduceSub, Int.reduceMul, Int.reduceEq, Int.reduceNe, Int.reduceLT, Int.reduceLE, Int.reduceGT, Int.reduceGE, h2', h8, h9, h12, h14, h70, h71, h72, h80, h81, h82, hdl, hdg]
                    have hzi := hin' _ (getD_mem' l default (i := i + 1 + j) (by omega))
                    generalize hz : l.getD (i + 1 + j) default = z at hzi ⊢
                    have hyr : (0 ≤ y ∧ y < (C.length : Int)) = True := eq_true hxi
                    have hzr : (0 ≤ z ∧ z < (C.length : Int)) = True := eq_true hzi
                    refine xquiet (by kernel_rfl) (by kernel_rfl) (by kernel_rfl) ?_
                    simp -implicitDefEqProofs (maxSteps := 1000000) (disch := omega) only [↓xsP, ↓vc_seq, xsQ, xsT, xsR, xsD, ↓reduceIte, reduceCtorEq, eq_self, ne_eq, imp_self, forall_const, Nat.reduceEqDiff, Nat.reduceAdd, Nat.reduceSub, Nat.reduceMul, Nat.reduceLT, Nat.reduceLeDiff, Nat.reduceBEq, Nat.reduceDiv, Nat.reduceMod, Int.reduceToNat, Int.reduceNeg, Int.reduceAdd, Int.reduceSub, Int.reduceMul, Int.reduceEq, Int.reduceNe, Int.reduceLT, Int.reduceLE, Int.reduceGT, Int.reduceGE, h2', h8, h9, h12, h14, h70, h71, h72, h80, h81, h82]
                    refine dcallI_of (beforeR_spec (clAt C z) (clAt C y) _) ?_
                    simp -implicitDefEqProofs (maxSteps := 1000000) (disch := omega) only [↓xsP, ↓vc_seq, xsQ, xsT, xsR, xsD, ↓reduceIte, reduceCtorEq, eq_self, ne_eq, imp_self, forall_const, Nat.reduceEqDiff, Nat.reduceAdd, Nat.reduceSub, Nat.reduceMul, Nat.reduceLT, Nat.reduceLeDiff, Nat.reduceBEq, Nat.reduceDiv, Nat.reduceMod, Int.reduceToNat, Int.reduceNeg, Int.reduceAdd, Int.reduceSub, Int.reduceMul, Int.reduceEq, Int.reduceNe, Int.reduceLT, Int.reduceLE, Int.reduceGT, Int.reduceGE, bef_dec]
                    refine condI_intro (fun hb => ?_) (fun hb => ?_)
                    · simp -implicitDefEqProofs (maxSteps := 1000000) (disch := omega) only [↓xsP, ↓vc_seq, xsQ, xsT, xsR, xsD, ↓reduceIte, reduceCtorEq, eq_self, ne_eq, imp_self, forall_const, Nat.reduceEqDiff, Nat.reduceAdd, Nat.reduceSub, Nat.reduceMul, Nat.reduceLT, Nat.reduceLeDiff, Nat.reduceBEq, Nat.reduceDiv, Nat.reduceMod, Int.reduceToNat, Int.reduceNeg, Int.reduceAdd, Int.reduceSub, Int.reduceMul, Int.reduceEq, Int.reduceNe, Int.reduceLT, Int.reduceLE, Int.reduceGT, Int.reduceGE, h2', h8, h9, h12, h14, h70, h71, h72, h80, h81, h82]
                      refine hbad _ hleM (htim (bof_false fun hh => ?_))
                      have := hh i (i + 1 + j) (by omega) (by omega)
                      rw [hx, hz] at this
                      exact this (bof_iff.1 hb)
                    · simp -implicitDefEqProofs (maxSteps := 1000000) (disch := omega) only [↓xsP, ↓vc_seq, xsQ, xsT, xsR, xsD, ↓reduceIte, reduceCtorEq, eq_self, ne_eq, imp_self, forall_const, Nat.reduceEqDiff, Nat.reduceAdd, Nat.reduceSub, Nat.reduceMul, Nat.reduceLT, Nat.reduceLeDiff, Nat.reduceBEq, Nat.reduceDiv, Nat.reduceMod, Int.reduceToNat, Int.reduceNeg, Int.reduceAdd, Int.reduceSub, Int.reduceMul, Int.reduceEq, Int.reduceNe, Int.reduceLT, Int.reduceLE, Int.reduceGT, Int.reduceGE, h2', h8, h9, h12, h14, h70, h71, h72, h80, h81, h82]
                      refine ⟨l.length - (i + 1) - (j + 1), M3, by omega, Mem.le_refl _, j + 1, by omega, rfl, by simp, rfl, fun b h1 h2 => ?_⟩
                      by_cases e : b = i + 1 + j
                      · rw [e, hz]
                        exact bof_not.1 hb
                      · exact hin2 b h1 (by omega)
                  · simp -implicitDefEqProofs (maxSteps := 1000000) (disch := omega) only [↓xsP, ↓vc_seq, xsQ, xsT, xsR, xsD, ↓reduceIte, reduceCtorEq, eq_self, ne_eq, imp_self, forall_const, Nat.reduceEqDiff, Nat.reduceAdd, Nat.reduceSub, Nat.reduceMul, Nat.reduceLT, Nat.reduceLeDiff, Nat.reduceBEq, Nat.reduceDiv, Nat.reduceMod, Int.reduceToNat, Int.reduceNeg, Int.reduceAdd, Int.reduceSub, Int.reduceMul, Int.reduceEq, Int.reduceNe, Int.reduceLT, Int.reduceLE, Int.reduceGT, Int.reduceGE, h2', h8, h9, h12, h14, h70, h71, h72, h80, h81, h82]
                    refine newI_intro fun id2 hid2 => ?_
                    have hid2M : ∀ j, id2 ≤ j → M j = none := fun j hj => by
                      cases hm : M j with
                      | none => rfl
                      | some bk => have := hid2 j hj; rw [hleM _ _ hm] at this; cases this
                    have hyr : (0 ≤ y ∧ y < (C.length : Int)) = True := eq_true hxi
                    obtain ⟨c, hc⟩ : ∃ c, clAt C y = c := ⟨_, rfl⟩
                    have hcr : C.getD y.toNat default = c := hc
                    rw [hc] at hgo
                    simp -implicitDefEqProofs (maxSteps := 1000000) (disch := omega) only [↓xsP, ↓vc_seq, xsQ, xsT, xsR, xsD, ↓reduceIte, reduceCtorEq, eq_self, ne_eq, imp_self, forall_const, Nat.reduceEqDiff, Nat.reduceAdd, Nat.reduceSub, Nat.reduceMul, Nat.reduceLT, Nat.reduceLeDiff, Nat.reduceBEq, Nat.reduceDiv, Nat.reduceMod, Int.reduceToNat, Int.reduceNeg, Int.reduceAdd, Int.reduceSub, Int.reduceMul, Int.reduceEq, Int.reduceNe, Int.reduceLT, Int.reduceLE, Int.reduceGT, Int.reduceGE, h2', h8, h9, h12, h14, h70, h71, h72, hyr, hcr]
                    refine callI_of ((doR_isK (hxK.le (le_new (Mem.le_refl _) hid2)) (by omega) c.op).mono ?_)
                    rintro _ M4 ⟨rfl, rfl⟩
                    have hdl := doA_lenO s c.op
                    have hdd := doL_len s c.op
                    have hle2 : ∀ bk : Blk, M.le (M3.set id2 bk) := fun bk => le_new hleM hid2M
                    simp -implicitDefEqProofs (maxSteps := 1000000) (disch := omega) only [↓xsP, ↓vc_seq, xsQ, xsT, xsR, xsD, ↓reduceIte, reduceCtorEq, eq_self, ne_eq, imp_self, forall_const, Nat.reduceEqDiff, Nat.reduceAdd, Nat.reduceSub, Nat.reduceMul, Nat.reduceLT, Nat.reduceLeDiff, Nat.reduceBEq, Nat.reduceDiv, Nat.reduceMod, Int.reduceToNat, Int.reduceNeg, Int.reduceAdd, Int.reduceSub, Int.reduceMul, Int.reduceEq, Int.reduceNe, Int.reduceLT, Int.reduceLE, Int.reduceGT, Int.reduceGE, h2', h8, h9, h12, h14, h70, h71, h72]
                    refine xquiet (by kernel_rfl) (by kernel_rfl) (by kernel_rfl) ?_
                    simp -implicitDefEqProofs (maxSteps := 1000000) (disch := omega) only [↓xsP, ↓vc_seq, xsQ, xsT, xsR, xsD, ↓reduceIte, reduceCtorEq, eq_self, ne_eq, imp_self, forall_const, Nat.reduceEqDiff, Nat.reduceAdd, Nat.reduceSub, Nat.reduceMul, Nat.reduceLT, Nat.reduceLeDiff, Nat.reduceBEq, Nat.reduceDiv, Nat.reduceMod, Int.reduceToNat, Int.reduceNeg, Int.reduceAdd, Int.reduceSub, Int.reduceMul, Int.reduceEq, Int.reduceNe, Int.reduceLT, Int.reduceLE, Int.reduceGT, Int.reduceGE, h2', h8, h9, h12, h14, h70, h71, h72, hyr, hcr]
                    refine gI_prop (fun hf => ?_) (fun hf => ?_)
                    · simp -implicitDefEqProofs (maxSteps := 1000000) (disch := omega) only [↓xsP, ↓vc_seq, xsQ, xsT, xsR, xsD, ↓reduceIte, reduceCtorEq, eq_self, ne_eq, imp_self, forall_const, Nat.reduceEqDiff, Nat.reduceAdd, Nat.reduceSub, Nat.reduceMul, Nat.reduceLT, Nat.reduceLeDiff, Nat.reduceBEq, Nat.reduceDiv, Nat.reduceMod, Int.reduceToNat, Int.reduceNeg, Int.reduceAdd, Int.reduceSub, Int.reduceMul, Int.reduceEq, Int.reduceNe, Int.reduceLT, Int.reduceLE, Int.reduceGT, Int.reduceGE, h2', h8, h9, h12, h14, h70, h71, h72, hyr, hcr, hf]
                      refine dcallI_of (sameAnsR_spec (doA s c.op) c.ans (by omega) _) ?_
                      simp -implicitDefEqProofs (maxSteps := 1000000) (disch := omega) only [↓xsP, ↓vc_seq, xsQ, xsT, xsR, xsD, ↓reduceIte, reduceCtorEq, eq_self, ne_eq, imp_self, forall_const, Nat.reduceEqDiff, Nat.reduceAdd, Nat.reduceSub, Nat.reduceMul, Nat.reduceLT, Nat.reduceLeDiff, Nat.reduceBEq, Nat.reduceDiv, Nat.reduceMod, Int.reduceToNat, Int.reduceNeg, Int.reduceAdd, Int.reduceSub, Int.reduceMul, Int.reduceEq, Int.reduceNe, Int.reduceLT, Int.reduceLE, Int.reduceGT, Int.reduceGE, h2', h8, h9, h12, h14, h70, h71, h72, hyr, hcr, hf]
                      refine condI_intro (fun hb => ?_) (fun hb => ?_)
                      · simp -implicitDefEqProofs (maxSteps := 1000000) (disch := omega) only [↓xsP, ↓vc_seq, xsQ, xsT, xsR, xsD, ↓reduceIte, reduceCtorEq, eq_self, ne_eq, imp_self, forall_const, Nat.reduceEqDiff, Nat.reduceAdd, Nat.reduceSub, Nat.reduceMul, Nat.reduceLT, Nat.reduceLeDiff, Nat.reduceBEq, Nat.reduceDiv, Nat.reduceMod, Int.reduceToNat, Int.reduceNeg, Int.reduceAdd, Int.reduceSub, Int.reduceMul, Int.reduceEq, Int.reduceNe, Int.reduceLT, Int.reduceLE, Int.reduceGT, Int.reduceGE, h2', h8, h9, h12, h14, h70, h71, h72]
                        have hne : doA s c.op ≠ c.ans := bof_not.1 (by simpa using hb)
                        rw [if_pos ⟨hf, hne⟩] at hgo
                        exact hbad _ (hle2 _) (hgoe hgo)
                      · simp -implicitDefEqProofs (maxSteps := 1000000) (disch := omega) only [↓xsP, ↓vc_seq, xsQ, xsT, xsR, xsD, ↓reduceIte, reduceCtorEq, eq_self, ne_eq, imp_self, forall_const, Nat.reduceEqDiff, Nat.reduceAdd, Nat.reduceSub, Nat.reduceMul, Nat.reduceLT, Nat.reduceLeDiff, Nat.reduceBEq, Nat.reduceDiv, Nat.reduceMod, Int.reduceToNat, Int.reduceNeg, Int.reduceAdd, Int.reduceSub, Int.reduceMul, Int.reduceEq, Int.reduceNe, Int.reduceLT, Int.reduceLE, Int.reduceGT, Int.reduceGE, h2', h8, h9, h12, h14, h70, h71, h72]
                        have heq : doA s c.op = c.ans := bof_iff.1 (by simpa using hb)
                        rw [if_neg (fun h => h.2 heq)] at hgo
                        refine ⟨l.length - (i + 1), M3, by omega, le_new (Mem.le_refl _) hid2, i + 1, .sl ((doL s c.op).map Pr.row), doL s c.op, by omega, rfl, rfl, by simp, rfl, IsK.sl _ _, by omega, hgo, fun a b h1 h2 h3 => ?_⟩
                        by_cases e : a = i
                        · subst e
                          rw [hx]
                          exact hin2 b h1 (by omega)
                        · exact hok a b h1 h2 (by omega)
                    · simp -implicitDefEqProofs (maxSteps := 1000000) (disch := omega) only [↓xsP, ↓vc_seq, xsQ, xsT, xsR, xsD, ↓reduceIte, reduceCtorEq, eq_self, ne_eq, imp_self, forall_const, Nat.reduceEqDiff, Nat.reduceAdd, Nat.reduceSub, Nat.reduceMul, Nat.reduceLT, Nat.reduceLeDiff, Nat.reduceBEq, Nat.reduceDiv, Nat.reduceMod, Int.reduceToNat, Int.reduceNeg, Int.reduceAdd, Int.reduceSub, Int.reduceMul, Int.reduceEq, Int.reduceNe, Int.reduceLT, Int.reduceLE, Int.reduceGT, Int.reduceGE, h2', h8, h9, h12, h14, h70, h71, h72, hyr, hcr, hf]
                      rw [if_neg (fun h => hf h.1)] at hgo
                      refine ⟨l.length - (i + 1), M3, by omega, le_new (Mem.le_refl _) hid2, i + 1, .sl ((doL s c.op).map Pr.row), doL s c.op, by omega, rfl, rfl, by simp, rfl, IsK.sl _ _, by omega, hgo, fun a b h1 h2 h3 => ?_⟩
                      by_cases e : a = i
                      · subst e
                        rw [hx]
                        exact hin2 b h1 (by omega)
                      · exact hok a b h1 h2 (by omega)
              · simp -implicitDefEqProofs (maxSteps := 1000000) (disch := omega) only [↓xsP, ↓vc_seq, xsQ, xsT, xsR, xsD, ↓reduceIte, reduceCtorEq, eq_self, ne_eq, imp_self, forall_const, Nat.reduceEqDiff, Nat.reduceAdd, Nat.reduceSub, Nat.reduceMul, Nat.reduceLT, Nat.reduceLeDiff, Nat.reduceBEq, Nat.reduceDiv, Nat.reduceMod, Int.reduceToNat, Int.reduceNeg, Int.reduceAdd, Int.reduceSub, Int.reduceMul, Int.reduceEq, Int.reduceNe, Int.reduceLT, Int.reduceLE, Int.reduceGT, Int.reduceGE, h2', h8, h9, h12, h70, h71, h72]
                have hil : i = l.length := by omega
                rw [hil, List.drop_length, goesO] at hgo
                have htm : timelyB C l = true := bof_true fun a b h1 h2 => hok a b h1 h2 (by omega)
                refine loopI_of (xloop (by kernel_rfl) (fun k fr M3 => ∃ i : Nat, i ≤ C.length ∧ k = C.length - i ∧ fr 9 = .l (.ms id 0 C.length) ∧ fr 12 = .l x ∧ fr 123 = .l (.sl (C.map Cl.row)) ∧ fr 124 = .l (.int .i64 C.length) ∧ fr 125 = .l (.int .i64 i) ∧ M3 = M2 ∧
                  ∀ j, j < i → 0 ≤ (C.getD j default).fin → refB (C.getD j default) = false → (j : Int) ∈ l) C.length ?_ ?_)
                · exact ⟨0, Nat.zero_le _, rfl, by simp -implicitDefEqProofs (maxSteps := 1000000) (disch := omega) only [↓xsP, ↓vc_seq, xsQ, xsT, xsR, xsD, ↓reduceIte, reduceCtorEq, eq_self, ne_eq, imp_self, forall_const, Nat.reduceEqDiff, Nat.reduceAdd, Nat.reduceSub, Nat.reduceMul, Nat.reduceLT, Nat.reduceLeDiff, Nat.reduceBEq, Nat.reduceDiv, Nat.reduceMod, Int.reduceToNat, Int.reduceNeg, Int.reduceAdd, Int.reduceSub, Int.reduceMul, Int.reduceEq, Int.reduceNe, Int.reduceLT, Int.reduceLE, Int.reduceGT, Int.reduceGE, h9], by simp -implicitDefEqProofs (maxSteps := 1000000) (disch := omega) only [↓xsP, ↓vc_seq, xsQ, xsT, xsR, xsD, ↓reduceIte, reduceCtorEq, eq_self, ne_eq, imp_self, forall_const, Nat.reduceEqDiff, Nat.reduceAdd, Nat.reduceSub, Nat.reduceMul, Nat.reduceLT, Nat.reduceLeDiff, Nat.reduceBEq, Nat.reduceDiv, Nat.reduceMod, Int.reduceToNat, Int.reduceNeg, Int.reduceAdd, Int.reduceSub, Int.reduceMul, Int.reduceEq, Int.reduceNe, Int.reduceLT, Int.reduceLE, Int.reduceGT, Int.reduceGE, h12], by simp -implicitDefEqProofs (maxSteps := 1000000) (disch := omega) only [↓xsP, ↓vc_seq, xsQ, xsT, xsR, xsD, ↓reduceIte, reduceCtorEq, eq_self, ne_eq, imp_self, forall_const, Nat.reduceEqDiff, Nat.reduceAdd, Nat.reduceSub, Nat.reduceMul, Nat.reduceLT, Nat.reduceLeDiff, Nat.reduceBEq, Nat.reduceDiv, Nat.reduceMod, Int.reduceToNat, Int.reduceNeg, Int.reduceAdd, Int.reduceSub, Int.reduceMul, Int.reduceEq, Int.reduceNe, Int.reduceLT, Int.reduceLE, Int.reduceGT, Int.reduceGE, h8], by simp -implicitDefEqProofs (maxSteps := 1000000) (disch := omega) only [↓xsP, ↓vc_seq, xsQ, xsT, xsR, xsD, ↓reduceIte, reduceCtorEq, eq_self, ne_eq, imp_self, forall_const, Nat.reduceEqDiff, Nat.reduceAdd, Nat.reduceSub, Nat.reduceMul, Nat.reduceLT, Nat.reduceLeDiff, Nat.reduceBEq, Nat.reduceDiv, Nat.reduceMod, Int.reduceToNat, Int.reduceNeg, Int.reduceAdd, Int.reduceSub, Int.reduceMul, Int.reduceEq, Int.reduceNe, Int.reduceLT, Int.reduceLE, Int.reduceGT, Int.reduceGE], by simp -implicitDefEqProofs (maxSteps := 1000000) (disch := omega) only [↓xsP, ↓vc_seq, xsQ, xsT, xsR, xsD, ↓reduceIte, reduceCtorEq, eq_self, ne_eq, imp_self, forall_const, Nat.reduceEqDiff, Nat.reduceAdd, Nat.reduceSub, Nat.reduceMul, Nat.reduceLT, Nat.reduceLeDiff, Nat.reduceBEq, Nat.reduceDiv, Nat.reduceMod, Int.reduceToNat, Int.reduceNeg, Int.reduceAdd, Int.reduceSub, Int.reduceMul, Int.reduceEq, Int.reduceNe, Int.reduceLT, Int.reduceLE, Int.reduceGT, Int.reduceGE, Int.cast_ofNat_Int], rfl, fun j hj => by omega⟩
                · clear h2' h8 h9 h12 h70 h71 h72 hi hlt hil
                  rintro k fr M3 ⟨i, hi, rfl, h9, h12, h123, h124, h125, rfl, hall⟩
                  simp -implicitDefEqProofs (maxSteps := 1000000) (disch := omega) only [↓xsP, ↓vc_seq, xsQ, xsT, xsR, xsD, ↓reduceIte, reduceCtorEq, eq_self, ne_eq, imp_self, forall_const, Nat.reduceEqDiff, Nat.reduceAdd, Nat.reduceSub, Nat.reduceMul, Nat.reduceLT, Nat.reduceLeDiff, Nat.reduceBEq, Nat.reduceDiv, Nat.reduceMod, Int.reduceToNat, Int.reduceNeg, Int.reduceAdd, Int.reduceSub, Int.reduceMul, Int.reduceEq, Int.reduceNe, Int.reduceLT, Int.reduceLE, Int.reduceGT, Int.reduceGE, h9, h12, h123, h124, h125]
                  refine condI_prop (fun hlt => ?_) (fun hlt => ?_)
                  · simp -implicitDefEqProofs (maxSteps := 1000000) (disch := omega) only [↓xsP, ↓vc_seq, xsQ, xsT, xsR, xsD, ↓reduceIte, reduceCtorEq, eq_self, ne_eq, imp_self, forall_const, Nat.reduceEqDiff, Nat.reduceAdd, Nat.reduceSub, Nat.reduceMul, Nat.reduceLT, Nat.reduceLeDiff, Nat.reduceBEq, Nat.reduceDiv, Nat.reduceMod, Int.reduceToNat, Int.reduceNeg, Int.reduceAdd, Int.reduceSub, Int.reduceMul, Int.reduceEq, Int.reduceNe, Int.reduceLT, Int.reduceLE, Int.reduceGT, Int.reduceGE, h9, h12, h123, h124, h125]
                    refine newI_intro fun id2 hid2 => ?_
                    have hid2M : ∀ j, id2 ≤ j → M j = none := fun j hj => by
                      cases hm : M j with
                      | none => rfl
                      | some bk => have := hid2 j hj; rw [hleM _ _ hm] at this; cases this
                    have hii : id < id2 := lt_of_bnd hid2 hMi
                    have hic : i < C.length := by omega
                    have hgi := i_get P (k := i) (by omega)
                    have hpi := hpl i hic
                    obtain ⟨c, hc⟩ : ∃ c, C.getD i default = c := ⟨_, rfl⟩
                    have hne : (0 ≤ c.fin → refB c = false → (i : Int) ∈ l) → ∃ k' M'', k' < C.length - i ∧ (∀ bk : Blk, Mem.le M'' (M3.set id2 bk)) ∧ ∃ i_1 : Nat, i_1 ≤ C.length ∧ k' = C.length - i_1 ∧ i_1 = i + 1 ∧ M'' = M3 ∧ ∀ j, j < i_1 → 0 ≤ (C.getD j default).fin → refB (C.getD j default) = false → (j : Int) ∈ l := fun hc1 =>
                      ⟨C.length - (i + 1), M3, by omega, fun bk => le_new (Mem.le_refl _) hid2, i + 1, by omega, rfl, rfl, rfl, fun j hj h0 hr => by
                        by_cases e : j = i
                        · subst e
                          rw [hc] at h0 hr
                          exact hc1 h0 hr
                        · exact hall j (by omega) h0 hr⟩
                    simp -implicitDefEqProofs (maxSteps := 1000000) (disch := omega) only [↓xsP, ↓vc_seq, xsQ, xsT, xsR, xsD, ↓reduceIte, reduceCtorEq, eq_self, ne_eq, imp_self, forall_const, Nat.reduceEqDiff, Nat.reduceAdd, Nat.reduceSub, Nat.reduceMul, Nat.reduceLT, Nat.reduceLeDiff, Nat.reduceBEq, Nat.reduceDiv, Nat.reduceMod, Int.reduceToNat, Int.reduceNeg, Int.reduceAdd, Int.reduceSub, Int.reduceMul, Int.reduceEq, Int.reduceNe, Int.reduceLT, Int.reduceLE, Int.reduceGT, Int.reduceGE, h9, h12, h123, h124, h125, hc]
                    refine gI_prop (fun hf => ?_) (fun hf => ?_)
                    · simp -implicitDefEqProofs (maxSteps := 1000000) (disch := omega) only [↓xsP, ↓vc_seq, xsQ, xsT, xsR, xsD, ↓reduceIte, reduceCtorEq, eq_self, ne_eq, imp_self, forall_const, Nat.reduceEqDiff, Nat.reduceAdd, Nat.reduceSub, Nat.reduceMul, Nat.reduceLT, Nat.reduceLeDiff, Nat.reduceBEq, Nat.reduceDiv, Nat.reduceMod, Int.reduceToNat, Int.reduceNeg, Int.reduceAdd, Int.reduceSub, Int.reduceMul, Int.reduceEq, Int.reduceNe, Int.reduceLT, Int.reduceLE, Int.reduceGT, Int.reduceGE, h9, h12, h123, h124, h125, hc, hf]
                      refine call_of (refused_spec c _) ?_
                      cases hrf : refB c with
                      | true =>
                        simp -implicitDefEqProofs (maxSteps := 1000000) (disch := omega) only [↓xsP, ↓vc_seq, xsQ, xsT, xsR, xsD, ↓reduceIte, reduceCtorEq, eq_self, ne_eq, imp_self, forall_const, Nat.reduceEqDiff, Nat.reduceAdd, Nat.reduceSub, Nat.reduceMul, Nat.reduceLT, Nat.reduceLeDiff, Nat.reduceBEq, Nat.reduceDiv, Nat.reduceMod, Int.reduceToNat, Int.reduceNeg, Int.reduceAdd, Int.reduceSub, Int.reduceMul, Int.reduceEq, Int.reduceNe, Int.reduceLT, Int.reduceLE, Int.reduceGT, Int.reduceGE, h9, h12, h123, h124, h125, hc, hf]
                        obtain ⟨k', M'', a1, a2, i1, a3, a4, rfl, rfl, a6⟩ := hne fun _ h => by rw [hrf] at h; cases h
                        exact ⟨k', M'', a1, a2 _, i + 1, a3, a4, by simp, rfl, a6⟩
                      | false =>
                        simp -implicitDefEqProofs (maxSteps := 1000000) (disch := omega) only [↓xsP, ↓vc_seq, xsQ, xsT, xsR, xsD, ↓reduceIte, reduceCtorEq, eq_self, ne_eq, imp_self, forall_const, Nat.reduceEqDiff, Nat.reduceAdd, Nat.reduceSub, Nat.reduceMul, Nat.reduceLT, Nat.reduceLeDiff, Nat.reduceBEq, Nat.reduceDiv, Nat.reduceMod, Int.reduceToNat, Int.reduceNeg, Int.reduceAdd, Int.reduceSub, Int.reduceMul, Int.reduceEq, Int.reduceNe, Int.reduceLT, Int.reduceLE, Int.reduceGT, Int.reduceGE, h9, h12, h123, h124, h125, hc, hf, hMi, hgi]
                        refine condI_prop (fun hz => ?_) (fun hz => ?_)
                        · simp -implicitDefEqProofs (maxSteps := 1000000) (disch := omega) only [↓xsP, ↓vc_seq, xsQ, xsT, xsR, xsD, ↓reduceIte, reduceCtorEq, eq_self, ne_eq, imp_self, forall_const, Nat.reduceEqDiff, Nat.reduceAdd, Nat.reduceSub, Nat.reduceMul, Nat.reduceLT, Nat.reduceLeDiff, Nat.reduceBEq, Nat.reduceDiv, Nat.reduceMod, Int.reduceToNat, Int.reduceNeg, Int.reduceAdd, Int.reduceSub, Int.reduceMul, Int.reduceEq, Int.reduceNe, Int.reduceLT, Int.reduceLE, Int.reduceGT, Int.reduceGE, h9, h12, h123, h124, h125]
                          refine hbad _ (le_new hleM hid2M) (hno (named_lack hic (by rw [hc]; exact hf) (by rw [hc]; exact hrf) fun hm => hpi.2 hm hz))
                        · simp -implicitDefEqProofs (maxSteps := 1000000) (disch := omega) only [↓xsP, ↓vc_seq, xsQ, xsT, xsR, xsD, ↓reduceIte, reduceCtorEq, eq_self, ne_eq, imp_self, forall_const, Nat.reduceEqDiff, Nat.reduceAdd, Nat.reduceSub, Nat.reduceMul, Nat.reduceLT, Nat.reduceLeDiff, Nat.reduceBEq, Nat.reduceDiv, Nat.reduceMod, Int.reduceToNat, Int.reduceNeg, Int.reduceAdd, Int.reduceSub, Int.reduceMul, Int.reduceEq, Int.reduceNe, Int.reduceLT, Int.reduceLE, Int.reduceGT, Int.reduceGE, h9, h12, h123, h124, h125]
                          obtain ⟨k', M'', a1, a2, i1, a3, a4, rfl, rfl, a6⟩ := hne fun _ _ => hpi.1 hz
                          exact ⟨k', M'', a1, a2 _, i + 1, a3, a4, by simp, rfl, a6⟩
                    · simp -implicitDefEqProofs (maxSteps := 1000000) (disch := omega) only [↓xsP, ↓vc_seq, xsQ, xsT, xsR, xsD, ↓reduceIte, reduceCtorEq, eq_self, ne_eq, imp_self, forall_const, Nat.reduceEqDiff, Nat.reduceAdd, Nat.reduceSub, Nat.reduceMul, Nat.reduceLT, Nat.reduceLeDiff, Nat.reduceBEq, Nat.reduceDiv, Nat.reduceMod, Int.reduceToNat, Int.reduceNeg, Int.reduceAdd, Int.reduceSub, Int.reduceMul, Int.reduceEq, Int.reduceNe, Int.reduceLT, Int.reduceLE, Int.reduceGT, Int.reduceGE, h9, h12, h123, h124, h125, hc, hf]
                      obtain ⟨k', M'', a1, a2, i1, a3, a4, rfl, rfl, a6⟩ := hne fun h => absurd h hf
                      exact ⟨k', M'', a1, a2 _, i + 1, a3, a4, by simp, rfl, a6⟩
                  · simp -implicitDefEqProofs (maxSteps := 1000000) (disch := omega) only [↓xsP, ↓vc_seq, xsQ, xsT, xsR, xsD, ↓reduceIte, reduceCtorEq, eq_self, ne_eq, imp_self, forall_const, Nat.reduceEqDiff, Nat.reduceAdd, Nat.reduceSub, Nat.reduceMul, Nat.reduceLT, Nat.reduceLeDiff, Nat.reduceBEq, Nat.reduceDiv, Nat.reduceMod, Int.reduceToNat, Int.reduceNeg, Int.reduceAdd, Int.reduceSub, Int.reduceMul, Int.reduceEq, Int.reduceNe, Int.reduceLT, Int.reduceLE, Int.reduceGT, Int.reduceGE, h9, h12, h123, h124, h125]
                    have hnm : namedB C l = true := bof_true ⟨hin', hnd, fun j hj h0 => ⟨fun hm => ?_, fun he => ?_⟩⟩
                    · have hr : rightO b h l = some s := by rw [hR0, hnm, htm, hgo]; rfl
                      rw [hnm, htm, hgo]
                      rcases hxK with (rfl | ⟨rfl, rfl⟩) | ⟨idK, keep, k1, k2, rfl⟩
                      · exact fin_ok hleM ⟨rfl, rfl⟩
                      · exact finI_of (XFin.wk (XFin.le hleM ⟨rfl, rfl⟩))
                      · refine finI_of (XFin.frz idK k1 (XFin.le ?_ ⟨?_, rfl⟩))
                        · intro j bk hj
                          rw [Mem.set_app]
                          split
                          · rename_i e
                            subst e
                            rw [hleM _ _ hj] at k1
                            cases k1
                            rw [Nat.max_eq_left (by simpa using k2)]
                          · exact hleM _ _ hj
                        · simp [frzA, frz1, frzL, List.take_of_length_le]
                    · have := (hin _ hm).2
                      rw [refB] at this
                      have e : clAt C (j : Int) = C.getD j default := by rw [clAt, Int.toNat_natCast]
                      rw [e, decide_eq_true h0, Bool.true_and, Bool.not_eq_false', decide_eq_true_eq] at this
                      exact this
                    · exact hall j (by omega) h0 (by rw [refB, decide_eq_true h0, he]; rfl)
end Go.X

/- Arguments that are kept slices or nil slices, read as slices that never change. -/

set_option linter.unusedVariables false
set_option linter.unusedSimpArgs false
set_option maxRecDepth 100000
namespace Go.X

/-- What a leaf reads as: a slice of these rows that never changes. -/
def Rd (M : Mem) (x : Lf) (r : List (List Lf)) : Prop :=
  x = .sl r ∨ (r = [] ∧ x = .nils) ∨ ∃ id off n T rows keep, M id = some (.cells T rows keep) ∧ rows.length ≤ keep ∧ off + n ≤ rows.length ∧ r = (rows.drop off).take n ∧ x = .ms id off n
theorem Rd.sl (M : Mem) (r : List (List Lf)) : Rd M (.sl r) r := .inl rfl
theorem Rd.nils (M : Mem) : Rd M .nils [] := .inr (.inl ⟨rfl, rfl⟩)
theorem Rd.ms {M : Mem} {id T keep n : Nat} {rows : List (List Lf)} (h : M id = some (.cells T rows keep)) (hk : rows.length ≤ keep) (hn : n = rows.length) : Rd M (.ms id 0 n) rows :=
  .inr (.inr ⟨id, 0, n, T, rows, keep, h, hk, by omega, by rw [List.drop_zero, List.take_of_length_le (by omega)], rfl⟩)
theorem Rd.le {M N : Mem} {x : Lf} {r : List (List Lf)} (h : Rd M x r) (hle : M.le N) : Rd N x r := by
  rcases h with h | h | ⟨id, off, n, T, rows, keep, h1, h2, h3, h4, h5⟩
  · exact .inl h
  · exact .inr (.inl h)
  · exact .inr (.inr ⟨id, off, n, T, rows, keep, hle _ _ h1, h2, h3, h4, h5⟩)
theorem Rd.frz {M : Mem} {x : Lf} {r : List (List Lf)} (h : Rd M x r) {id T keep : Nat} {rows : List (List Lf)} (hM : M id = some (.cells T rows keep)) : Rd M (frzL id rows x) r := by
  rcases h with rfl | ⟨rfl, rfl⟩ | ⟨id', off, n, T', rows', keep', h1, h2, h3, rfl, rfl⟩
  · exact .inl rfl
  · exact .inr (.inl ⟨rfl, rfl⟩)
  · simp only [frzL]
    split
    · rename_i e
      obtain ⟨rfl, -⟩ := e
      rw [hM] at h1
      cases h1
      exact .inl rfl
    · exact .inr (.inr ⟨id', off, n, T', rows', keep', h1, h2, h3, rfl, rfl⟩)
theorem Rd.wk {M : Mem} {x : Lf} {r : List (List Lf)} (h : Rd M x r) : Rd M (wkL x) r := by
  rcases h with rfl | ⟨rfl, rfl⟩ | ⟨id', off, n, T', rows', keep', h1, h2, h3, rfl, rfl⟩
  · exact .inl rfl
  · exact .inl rfl
  · exact .inr (.inr ⟨id', off, n, T', rows', keep', h1, h2, h3, rfl, rfl⟩)
/-- A value that neither a freeze nor a weakening changes. -/
def Fast (a : AV) : Prop := wkA a = a ∧ ∀ id rows, frzA id rows a = a
theorem Fast.int (k : IntKind) (n : Int) : Fast (.l (.int k n)) := ⟨rfl, fun _ _ => rfl⟩
theorem Fast.bool (b : Bool) : Fast (.l (.bool b)) := ⟨rfl, fun _ _ => rfl⟩
theorem Fast.sl (r : List (List Lf)) : Fast (.l (.sl r)) := ⟨rfl, fun _ _ => rfl⟩
theorem Fast.ptr (i r c : Nat) : Fast (.l (.ptr i r c)) := ⟨rfl, fun _ _ => rfl⟩
theorem Fast.opn (o : Opn) : Fast (.agg o.row) := ⟨by simp [Opn.row, wkA, wkL], fun _ _ => by simp [Opn.row, frzA, frz1, frzL]⟩
theorem Fast.pr (o : Pr) : Fast (.agg o.row) := ⟨by simp [Pr.row, wkA, wkL], fun _ _ => by simp [Pr.row, frzA, frz1, frzL]⟩
theorem Fast.ans (o : Ans) : Fast (.agg o.row) := ⟨by simp [Ans.row, wkA, wkL], fun _ _ => by simp [Ans.row, frzA, frz1, frzL]⟩
def RdA (M : Mem) (a b : AV) : Prop := (a = b ∧ Fast b) ∨ ∃ x r, a = .l x ∧ b = .l (.sl r) ∧ Rd M x r
inductive RdAs (M : Mem) : List AV → List AV → Prop
  | nil : RdAs M [] []
  | cons {a b : AV} {l m : List AV} : RdA M a b → RdAs M l m → RdAs M (a :: l) (b :: m)
theorem RdA.frz {M : Mem} {a b : AV} (h : RdA M a b) {id T keep : Nat} {rows : List (List Lf)} (hM : M id = some (.cells T rows keep)) : RdA M (frzA id rows a) b := by
  rcases h with ⟨rfl, hf⟩ | ⟨x, r, rfl, rfl, h⟩
  · exact .inl ⟨hf.2 _ _, hf⟩
  · exact .inr ⟨_, r, rfl, rfl, h.frz hM⟩
theorem RdA.wk {M : Mem} {a b : AV} (h : RdA M a b) : RdA M (wkA a) b := by
  rcases h with ⟨rfl, hf⟩ | ⟨x, r, rfl, rfl, h⟩
  · exact .inl ⟨hf.1, hf⟩
  · exact .inr ⟨_, r, rfl, rfl, h.wk⟩
theorem RdAs.frz {M : Mem} {id T keep : Nat} {rows : List (List Lf)} (hM : M id = some (.cells T rows keep)) : ∀ {l m : List AV}, RdAs M l m → RdAs M (l.map (frzA id rows)) m
  | _, _, .nil => .nil
  | _, _, .cons h t => .cons (h.frz hM) (t.frz hM)
theorem RdAs.wk {M : Mem} : ∀ {l m : List AV}, RdAs M l m → RdAs M (l.map wkA) m
  | _, _, .nil => .nil
  | _, _, .cons h t => .cons h.wk t.wk
theorem XCalls.rds {P : Program} {f : FuncId} {M : Mem} {K : AV → Mem → Prop} : ∀ {m l done : List AV}, RdAs M l m → (∀ a ∈ done, Fast a) → XCalls P f (done ++ m) M K → XCalls P f (done ++ l) M K
  | [], l, done, h, hd, hx => by cases h; exact hx
  | b :: m, _, done, .cons (a := a) (l := l) h t, hd, hx => by
    have fin : ∀ {l' : List AV}, Fast b → RdAs M l' m → XCalls P f (done ++ b :: l') M K := fun {l'} hb ht => by
      have := XCalls.rds (done := done ++ [b]) ht (fun a ha => by rcases List.mem_append.1 ha with ha | ha; exact hd _ ha; rw [List.mem_singleton.1 ha]; exact hb) (by rw [List.append_assoc]; exact hx)
      rwa [List.append_assoc] at this
    have hdw : done.map wkA = done := by
      conv => rhs; rw [← List.map_id done]
      exact List.map_congr_left fun a ha => (hd a ha).1
    have hdf : ∀ id rows, done.map (frzA id rows) = done := fun id rows => by
      conv => rhs; rw [← List.map_id done]
      exact List.map_congr_left fun a ha => (hd a ha).2 id rows
    rcases h with ⟨rfl, hf⟩ | ⟨x, r, rfl, rfl, rfl | ⟨rfl, rfl⟩ | ⟨id, off, n, T, rows, keep, h1, h2, h3, rfl, rfl⟩⟩
    · exact fin hf t
    · exact fin (Fast.sl _) t
    · refine XCalls.wk ?_
      rw [List.map_append, hdw]
      exact fin (Fast.sl _) t.wk
    · refine XCalls.frz0 id h1 h2 ?_
      rw [List.map_append, hdf]
      have e : frzA id rows (.l (.ms id off n)) = .l (.sl ((rows.drop off).take n)) := by simp [frzA, frz1, frzL, h3]
      rw [List.map_cons, e]
      exact fin (Fast.sl _) (t.frz h1)
theorem XCalls.rd {P : Program} {f : FuncId} {M : Mem} {K : AV → Mem → Prop} {m l : List AV} (h : RdAs M l m) (hx : XCalls P f m M K) : XCalls P f l M K :=
  XCalls.rds (done := []) h (by simp) hx
end Go.X

/- What layer 19's awake does: it says yes. -/



set_option linter.unusedVariables false
set_option linter.unusedSimpArgs false
set_option maxHeartbeats 20000000
set_option maxRecDepth 100000
namespace Go.X
open Go.Proofs.Try (prog)

theorem ev_spec (t : Int) (b : Bool) (o : Opn) (e : Int) (ok : Bool) (k v n : Int) (x : Lf) (M : Mem) :
    XCalls Go.Proofs.Try.prog 49 [.l (.int .i64 t), .l (.bool b), .agg o.row, .agg [.int .i64 e, .bool ok, .int .i64 k, .int .i64 v, .int .i64 n, x]] M fun r M' =>
      r = .agg [.int .i64 t, .bool b, .int .i64 o.kind, .int .i64 o.key, .int .i64 o.to, .int .i64 o.val, .int .i64 e, .bool ok, .int .i64 k, .int .i64 v, .int .i64 n, x] ∧ M' = M := by
  refine xcalls_intro (rs := [.cell 8 65]) Go.Proofs.Try.func49 rfl (by kernel_rfl) rfl rfl (by kernel_rfl) (by simp) ?_
  simp -implicitDefEqProofs (maxSteps := 1000000) (disch := omega) only [↓xsP, ↓vc_seq, xsQ, xsT, xsR, xsD, ↓reduceIte, reduceCtorEq, eq_self, ne_eq, imp_self, forall_const, Nat.reduceEqDiff, Nat.reduceAdd, Nat.reduceSub, Nat.reduceMul, Nat.reduceLT, Nat.reduceLeDiff, Nat.reduceBEq, Nat.reduceDiv, Nat.reduceMod, Int.reduceToNat, Int.reduceNeg, Int.reduceAdd, Int.reduceSub, Int.reduceMul, Int.reduceEq, Int.reduceNe, Int.reduceLT, Int.reduceLE, Int.reduceGT, Int.reduceGE]
  refine newI_intro fun id1 hid1 => ?_
  simp -implicitDefEqProofs (maxSteps := 1000000) (disch := omega) only [↓xsP, ↓vc_seq, xsQ, xsT, xsR, xsD, ↓reduceIte, reduceCtorEq, eq_self, ne_eq, imp_self, forall_const, Nat.reduceEqDiff, Nat.reduceAdd, Nat.reduceSub, Nat.reduceMul, Nat.reduceLT, Nat.reduceLeDiff, Nat.reduceBEq, Nat.reduceDiv, Nat.reduceMod, Int.reduceToNat, Int.reduceNeg, Int.reduceAdd, Int.reduceSub, Int.reduceMul, Int.reduceEq, Int.reduceNe, Int.reduceLT, Int.reduceLE, Int.reduceGT, Int.reduceGE]
  refine newI_intro fun id2 hid2 => ?_
  obtain ⟨h12, hid2⟩ := bnd_new hid2
  simp -implicitDefEqProofs (maxSteps := 1000000) (disch := omega) only [↓xsP, ↓vc_seq, xsQ, xsT, xsR, xsD, ↓reduceIte, reduceCtorEq, eq_self, ne_eq, imp_self, forall_const, Nat.reduceEqDiff, Nat.reduceAdd, Nat.reduceSub, Nat.reduceMul, Nat.reduceLT, Nat.reduceLeDiff, Nat.reduceBEq, Nat.reduceDiv, Nat.reduceMod, Int.reduceToNat, Int.reduceNeg, Int.reduceAdd, Int.reduceSub, Int.reduceMul, Int.reduceEq, Int.reduceNe, Int.reduceLT, Int.reduceLE, Int.reduceGT, Int.reduceGE]
  refine newI_intro fun id3 hid3 => ?_
  obtain ⟨h23, hid3⟩ := bnd_new hid3
  obtain ⟨h13, hid3⟩ := bnd_new hid3
  simp -implicitDefEqProofs (maxSteps := 1000000) (disch := omega) only [↓xsP, ↓vc_seq, xsQ, xsT, xsR, xsD, ↓reduceIte, reduceCtorEq, eq_self, ne_eq, imp_self, forall_const, Nat.reduceEqDiff, Nat.reduceAdd, Nat.reduceSub, Nat.reduceMul, Nat.reduceLT, Nat.reduceLeDiff, Nat.reduceBEq, Nat.reduceDiv, Nat.reduceMod, Int.reduceToNat, Int.reduceNeg, Int.reduceAdd, Int.reduceSub, Int.reduceMul, Int.reduceEq, Int.reduceNe, Int.reduceLT, Int.reduceLE, Int.reduceGT, Int.reduceGE]
  exact fin_ok (le_new (le_new (le_new (Mem.le_refl _) hid1) hid2) hid3) ⟨rfl, rfl⟩

def hist9 : List Evt := [⟨0, false, ⟨1, 1, 0, 5⟩, ans0⟩, ⟨1, false, ⟨4, 1, 0, 0⟩, ans0⟩, ⟨1, true, ⟨4, 1, 0, 0⟩, ⟨0, true, ⟨1, 5⟩, 0, []⟩⟩]
def C9 : List Cl := [⟨0, 0, -1, ⟨1, 1, 0, 5⟩, ans0⟩, ⟨1, 1, 2, ⟨4, 1, 0, 0⟩, ⟨0, true, ⟨1, 5⟩, 0, []⟩⟩]
theorem readP_hist9 : readP hist9 = some C9 := by
  simp [readP, hist9, C9, rrun, rstep, iget, iput, idel, mayOpB, List.getD]
theorem callsP_hist9 : callsP hist9 = C9 := by rw [callsP, readP_hist9]; rfl
theorem okP_hist9 : okP hist9 = true := by rw [okP, readP_hist9]; rfl
theorem small9 : Small hist9 := by
  refine ⟨by decide, fun x hx => ?_⟩
  simp only [hist9, List.mem_cons, List.not_mem_nil, or_false] at hx
  rcases hx with rfl | rfl | rfl <;> decide
theorem put9 : doL [] ⟨1, 1, 0, 5⟩ = [⟨1, 5⟩] := by
  rw [doL_upd (by simp [Asc]) (by decide) (by decide)]
  decide
theorem get9 : doA [⟨1, 5⟩] ⟨4, 1, 0, 0⟩ = ⟨0, true, ⟨1, 5⟩, 0, []⟩ := by
  rw [doA_one (asc1 _) (by decide) (by decide)]
  decide
theorem get9' : (doA [] ⟨4, 1, 0, 0⟩).ok = false := by
  rw [doA_one (by simp [Asc]) (by decide) (by decide)]
  decide
theorem read9 (s : List Pr) : doL s ⟨4, 1, 0, 0⟩ = s := doL_read (by decide)
theorem goes9a : goesO C9 [0, 1] [] = some [⟨1, 5⟩] := by
  rw [goesO, if_neg (fun h => absurd h.1 (by decide)), show (clAt C9 0).op = ⟨1, 1, 0, 5⟩ from rfl, put9, goesO, if_neg (fun h => h.2 (by rw [show (clAt C9 1).op = ⟨4, 1, 0, 0⟩ from rfl, get9]; rfl)), show (clAt C9 1).op = ⟨4, 1, 0, 0⟩ from rfl, read9, goesO]
theorem goes9b (r : List Int) : goesO C9 (1 :: r) [] = none := by
  have hne : doA [] (clAt C9 1).op ≠ (clAt C9 1).ans := fun h => by
    have := congrArg Ans.ok h
    rw [show (clAt C9 1).op = ⟨4, 1, 0, 0⟩ from rfl, get9'] at this
    cases this
  rw [goesO, if_pos ⟨by decide, hne⟩]
theorem right9a : rightO [] hist9 [0, 1] = some [⟨1, 5⟩] := by
  rw [rightO, callsP_hist9, rightB, callsP_hist9, okP_hist9, bof_true (show Rises [] from fun j h1 h2 => by simp at h2)]
  have h1 : namedB C9 [0, 1] = true := bof_true ⟨by decide, by decide, by decide⟩
  have h2 : timelyB C9 [0, 1] = true := bof_true fun a b h1 h2 => by
    have : a = 0 ∧ b = 1 := by simp at h2; omega
    obtain ⟨rfl, rfl⟩ := this
    exact fun h => absurd h.2 (by decide)
  rw [h1, h2]
  exact goes9a
theorem right9b (r : List Int) : rightO [] hist9 (1 :: r) = none := by
  rw [rightO, callsP_hist9, show putL [] = [] from rfl, goes9b]
  split <;> rfl
theorem awake19_spec (M : Mem) : XCalls Go.Proofs.Try.prog 26 [] M fun r M' => r = .l (.bool true) ∧ M' = M := by
  refine xcalls_intro (rs := [.tmp 0]) Go.Proofs.Try.func26 rfl (by kernel_rfl) rfl rfl (by kernel_rfl) (by simp) ?_
  simp -implicitDefEqProofs (maxSteps := 1000000) (disch := omega) only [↓xsP, ↓vc_seq, xsQ, xsT, xsR, xsD, ↓reduceIte, reduceCtorEq, eq_self, ne_eq, imp_self, forall_const, Nat.reduceEqDiff, Nat.reduceAdd, Nat.reduceSub, Nat.reduceMul, Nat.reduceLT, Nat.reduceLeDiff, Nat.reduceBEq, Nat.reduceDiv, Nat.reduceMod, Int.reduceToNat, Int.reduceNeg, Int.reduceAdd, Int.reduceSub, Int.reduceMul, Int.reduceEq, Int.reduceNe, Int.reduceLT, Int.reduceLE, Int.reduceGT, Int.reduceGE]
  refine newI_intro fun id1 hid1 => ?_
  simp -implicitDefEqProofs (maxSteps := 1000000) (disch := omega) only [↓xsP, ↓vc_seq, xsQ, xsT, xsR, xsD, ↓reduceIte, reduceCtorEq, eq_self, ne_eq, imp_self, forall_const, Nat.reduceEqDiff, Nat.reduceAdd, Nat.reduceSub, Nat.reduceMul, Nat.reduceLT, Nat.reduceLeDiff, Nat.reduceBEq, Nat.reduceDiv, Nat.reduceMod, Int.reduceToNat, Int.reduceNeg, Int.reduceAdd, Int.reduceSub, Int.reduceMul, Int.reduceEq, Int.reduceNe, Int.reduceLT, Int.reduceLE, Int.reduceGT, Int.reduceGE]
  refine newI_intro fun id2 hid2 => ?_
  obtain ⟨h12, hid2'⟩ := bnd_new hid2
  simp -implicitDefEqProofs (maxSteps := 1000000) (disch := omega) only [↓xsP, ↓vc_seq, xsQ, xsT, xsR, xsD, ↓reduceIte, reduceCtorEq, eq_self, ne_eq, imp_self, forall_const, Nat.reduceEqDiff, Nat.reduceAdd, Nat.reduceSub, Nat.reduceMul, Nat.reduceLT, Nat.reduceLeDiff, Nat.reduceBEq, Nat.reduceDiv, Nat.reduceMod, Int.reduceToNat, Int.reduceNeg, Int.reduceAdd, Int.reduceSub, Int.reduceMul, Int.reduceEq, Int.reduceNe, Int.reduceLT, Int.reduceLE, Int.reduceGT, Int.reduceGE]
  refine xwrite (fun n0 => [ ]) [] [10] [[], [], [], [], [], [], [], [], [], [], [], []] (by kernel_rfl) (by kernel_rfl) (by kernel_rfl) (by kernel_rfl) (fun n0 hn0 => ⟨rfl, ?_, ?_⟩)
  · exact TOk_nil _ _
  have k1 := lt_of_bnd hn0 (Mem.set_eq _ id2 _)
  simp -implicitDefEqProofs (maxSteps := 1000000) (disch := omega) only [↓xsP, ↓vc_seq, xsQ, xsT, xsR, xsD, ↓reduceIte, reduceCtorEq, eq_self, ne_eq, imp_self, forall_const, Nat.reduceEqDiff, Nat.reduceAdd, Nat.reduceSub, Nat.reduceMul, Nat.reduceLT, Nat.reduceLeDiff, Nat.reduceBEq, Nat.reduceDiv, Nat.reduceMod, Int.reduceToNat, Int.reduceNeg, Int.reduceAdd, Int.reduceSub, Int.reduceMul, Int.reduceEq, Int.reduceNe, Int.reduceLT, Int.reduceLE, Int.reduceGT, Int.reduceGE]
  refine wcallI_of (fun M' _ => ev_spec 0 false ⟨1, 1, 0, 5⟩ 0 false 0 0 0 .nils M') ?_
  simp -implicitDefEqProofs (maxSteps := 1000000) (disch := omega) only [↓xsP, ↓vc_seq, xsQ, xsT, xsR, xsD, ↓reduceIte, reduceCtorEq, eq_self, ne_eq, imp_self, forall_const, Nat.reduceEqDiff, Nat.reduceAdd, Nat.reduceSub, Nat.reduceMul, Nat.reduceLT, Nat.reduceLeDiff, Nat.reduceBEq, Nat.reduceDiv, Nat.reduceMod, Int.reduceToNat, Int.reduceNeg, Int.reduceAdd, Int.reduceSub, Int.reduceMul, Int.reduceEq, Int.reduceNe, Int.reduceLT, Int.reduceLE, Int.reduceGT, Int.reduceGE]
  refine wcallI_of (fun M' _ => ev_spec 1 false ⟨4, 1, 0, 0⟩ 0 false 0 0 0 .nils M') ?_
  simp -implicitDefEqProofs (maxSteps := 1000000) (disch := omega) only [↓xsP, ↓vc_seq, xsQ, xsT, xsR, xsD, ↓reduceIte, reduceCtorEq, eq_self, ne_eq, imp_self, forall_const, Nat.reduceEqDiff, Nat.reduceAdd, Nat.reduceSub, Nat.reduceMul, Nat.reduceLT, Nat.reduceLeDiff, Nat.reduceBEq, Nat.reduceDiv, Nat.reduceMod, Int.reduceToNat, Int.reduceNeg, Int.reduceAdd, Int.reduceSub, Int.reduceMul, Int.reduceEq, Int.reduceNe, Int.reduceLT, Int.reduceLE, Int.reduceGT, Int.reduceGE]
  refine wcallI_of (fun M' _ => ev_spec 1 true ⟨4, 1, 0, 0⟩ 0 true 1 5 0 .nils M') ?_
  simp -implicitDefEqProofs (maxSteps := 1000000) (disch := omega) only [↓xsP, ↓vc_seq, xsQ, xsT, xsR, xsD, ↓reduceIte, reduceCtorEq, eq_self, ne_eq, imp_self, forall_const, Nat.reduceEqDiff, Nat.reduceAdd, Nat.reduceSub, Nat.reduceMul, Nat.reduceLT, Nat.reduceLeDiff, Nat.reduceBEq, Nat.reduceDiv, Nat.reduceMod, Int.reduceToNat, Int.reduceNeg, Int.reduceAdd, Int.reduceSub, Int.reduceMul, Int.reduceEq, Int.reduceNe, Int.reduceLT, Int.reduceLE, Int.reduceGT, Int.reduceGE]
  refine ⟨.inl (by decide), newI_intro fun idl hidl => ?_⟩
  have key : ∀ (X1 X2 X3 X4 X5 : Blk) (N : Mem), ((((M.set id1 X1).set id2 X2).set id1 X3).set id2 X4).set (n0 + 10) X5 = N → N (n0 + 10) = some X5 ∧ M.le N := by
    rintro X1 X2 X3 X4 X5 N rfl
    refine ⟨Mem.set_eq _ _ _, fun k bk hk => ?_⟩
    have := lt_of_bnd hid1 hk
    simp (disch := omega) only [Mem.set_ne, hk]
  simp -implicitDefEqProofs (maxSteps := 1000000) (disch := omega) only [↓xsP, ↓vc_seq, xsQ, xsT, xsR, xsD, ↓reduceIte, reduceCtorEq, eq_self, ne_eq, imp_self, forall_const, Nat.reduceEqDiff, Nat.reduceAdd, Nat.reduceSub, Nat.reduceMul, Nat.reduceLT, Nat.reduceLeDiff, Nat.reduceBEq, Nat.reduceDiv, Nat.reduceMod, Int.reduceToNat, Int.reduceNeg, Int.reduceAdd, Int.reduceSub, Int.reduceMul, Int.reduceEq, Int.reduceNe, Int.reduceLT, Int.reduceLE, Int.reduceGT, Int.reduceGE]
  generalize hN : Mem.set (Mem.set (Mem.set (Mem.set (Mem.set M _ _) _ _) _ _) _ _) _ _ = N at hidl ⊢
  obtain ⟨hNh, hle⟩ := key _ _ _ _ _ _ hN
  clear key hN
  have hil := lt_of_bnd hidl hNh
  have hMlt : ∀ k bk, M k = some bk → k < n0 + 10 := fun k bk hk => by have := lt_of_bnd hid1 hk; omega
  have hk : ∀ (N : Mem) (idh idl : Nat) (X : List (List Lf)), idh < idl → N idh = some (.cells 65 [[.int .i64 0, .bool false, .int .i64 1, .int .i64 1, .int .i64 0, .int .i64 5, .int .i64 0, .bool false, .int .i64 0, .int .i64 0, .int .i64 0, .nils], [.int .i64 1, .bool false, .int .i64 4, .int .i64 1, .int .i64 0, .int .i64 0, .int .i64 0, .bool false, .int .i64 0, .int .i64 0, .int .i64 0, .nils], [.int .i64 1, .bool true, .int .i64 4, .int .i64 1, .int .i64 0, .int .i64 0, .int .i64 0, .bool true, .int .i64 1, .int .i64 5, .int .i64 0, .nils]] 0) →
      (∀ j, idl ≤ j → N j = none) → M.le N → (∀ k bk, M k = some bk → k < idh) → ∃ Q, GStep (N.set idl (.cells 3 X 0)) Q ∧ Q idh = some (.cells 65 (hist9.map Evt.row) 3) ∧ Q idl = some (.cells 3 X (max 0 X.length)) ∧ M.le Q := by
    intro N idh idl X hlt hNh hidl hle hlt2
    have g1 := GStep.keep' (N := N.set idl (.cells 3 X 0)) (id := idh) (rows' := hist9.map Evt.row) (by rw [Mem.set_ne _ _ _ _ (by omega)]; exact hNh) rfl
    have g2 := GStep.frz (M := (N.set idl (.cells 3 X 0)).set idh (.cells 65 (hist9.map Evt.row) (hist9.map Evt.row).length)) (id := idl) (by rw [Mem.set_ne _ _ _ _ (by omega), Mem.set_eq])
    refine ⟨_, g1.trans g2, ?_, Mem.set_eq _ _ _, fun k bk hk => ?_⟩
    · rw [Mem.set_ne _ _ _ _ (by omega), Mem.set_eq]
      rfl
    · have := hlt2 _ _ hk
      rw [Mem.set_ne _ _ _ _ (by omega), Mem.set_ne _ _ _ _ (by omega), Mem.set_ne _ _ _ _ (by omega)]
      exact hle _ _ hk
  obtain ⟨Q, hg, hQh, hQl, hleQ⟩ := hk N (n0 + 10) idl [[.int .i64 0], [.int .i64 1]] hil hNh hidl hle hMlt
  refine callI_gs hg ?_
  refine call_of (XCalls.rd (.cons (.inr ⟨_, _, rfl, rfl, Rd.nils _⟩) (.cons (.inr ⟨_, _, rfl, rfl, Rd.ms hQh (by decide) rfl⟩) (.cons (.inr ⟨_, _, rfl, rfl, Rd.ms hQl (by decide) rfl⟩) .nil))) (ends_spec [] hist9 [0, 1] (by decide) small9 (by decide) (by decide) Q)) ?_
  simp only [right9a, Option.isSome_some, Option.getD_some]
  simp -implicitDefEqProofs (maxSteps := 1000000) (disch := omega) only [↓xsP, ↓vc_seq, xsQ, xsT, xsR, xsD, ↓reduceIte, reduceCtorEq, eq_self, ne_eq, imp_self, forall_const, Nat.reduceEqDiff, Nat.reduceAdd, Nat.reduceSub, Nat.reduceMul, Nat.reduceLT, Nat.reduceLeDiff, Nat.reduceBEq, Nat.reduceDiv, Nat.reduceMod, Int.reduceToNat, Int.reduceNeg, Int.reduceAdd, Int.reduceSub, Int.reduceMul, Int.reduceEq, Int.reduceNe, Int.reduceLT, Int.reduceLE, Int.reduceGT, Int.reduceGE]
  refine newI_intro fun j0 hj0 => ?_
  have hjl0 := lt_of_bnd hj0 hQh
  simp -implicitDefEqProofs (maxSteps := 1000000) (disch := omega) only [↓xsP, ↓vc_seq, xsQ, xsT, xsR, xsD, ↓reduceIte, reduceCtorEq, eq_self, ne_eq, imp_self, forall_const, Nat.reduceEqDiff, Nat.reduceAdd, Nat.reduceSub, Nat.reduceMul, Nat.reduceLT, Nat.reduceLeDiff, Nat.reduceBEq, Nat.reduceDiv, Nat.reduceMod, Int.reduceToNat, Int.reduceNeg, Int.reduceAdd, Int.reduceSub, Int.reduceMul, Int.reduceEq, Int.reduceNe, Int.reduceLT, Int.reduceLE, Int.reduceGT, Int.reduceGE]
  refine callI_gs (GStep.frz (Mem.set_eq _ _ _)) ?_
  rw [Mem.set_set]
  have hh0 : (Q.set j0 (.cells 3 [[.int .i64 0], [.int .i64 1]] (max 0 ([[.int .i64 0], [.int .i64 1]] : List (List Lf)).length))) (n0 + 10) = some (.cells 65 (hist9.map Evt.row) 3) := by rw [Mem.set_ne _ _ _ _ (by omega)]; exact hQh
  have hl0 := Mem.set_eq Q j0 (.cells 3 [[.int .i64 0], [.int .i64 1]] (max 0 ([[.int .i64 0], [.int .i64 1]] : List (List Lf)).length))
  have hle0 : M.le (Q.set j0 (.cells 3 [[.int .i64 0], [.int .i64 1]] (max 0 ([[.int .i64 0], [.int .i64 1]] : List (List Lf)).length))) := fun k bk hk => by
    have := hMlt _ _ hk
    rw [Mem.set_ne _ _ _ _ (by omega)]
    exact hleQ _ _ hk
  generalize Q.set j0 (.cells 3 [[.int .i64 0], [.int .i64 1]] (max 0 ([[.int .i64 0], [.int .i64 1]] : List (List Lf)).length)) = Q0 at hh0 hl0 hle0 ⊢
  refine call_of (XCalls.rd (.cons (.inr ⟨_, _, rfl, rfl, Rd.nils _⟩) (.cons (.inr ⟨_, _, rfl, rfl, Rd.ms hh0 (by decide) rfl⟩) (.cons (.inr ⟨_, _, rfl, rfl, Rd.ms hl0 (by decide) rfl⟩) .nil))) (oright_spec [] hist9 [0, 1] (by decide) small9 (by decide) (by decide) Q0)) ?_
  simp only [right9a, Option.isSome_some, Option.isSome_none]
  simp -implicitDefEqProofs (maxSteps := 1000000) (disch := omega) only [↓xsP, ↓vc_seq, xsQ, xsT, xsR, xsD, ↓reduceIte, reduceCtorEq, eq_self, ne_eq, imp_self, forall_const, Nat.reduceEqDiff, Nat.reduceAdd, Nat.reduceSub, Nat.reduceMul, Nat.reduceLT, Nat.reduceLeDiff, Nat.reduceBEq, Nat.reduceDiv, Nat.reduceMod, Int.reduceToNat, Int.reduceNeg, Int.reduceAdd, Int.reduceSub, Int.reduceMul, Int.reduceEq, Int.reduceNe, Int.reduceLT, Int.reduceLE, Int.reduceGT, Int.reduceGE]
  refine newI_intro fun j1 hj1 => ?_
  have hjl1 := lt_of_bnd hj1 hh0
  simp -implicitDefEqProofs (maxSteps := 1000000) (disch := omega) only [↓xsP, ↓vc_seq, xsQ, xsT, xsR, xsD, ↓reduceIte, reduceCtorEq, eq_self, ne_eq, imp_self, forall_const, Nat.reduceEqDiff, Nat.reduceAdd, Nat.reduceSub, Nat.reduceMul, Nat.reduceLT, Nat.reduceLeDiff, Nat.reduceBEq, Nat.reduceDiv, Nat.reduceMod, Int.reduceToNat, Int.reduceNeg, Int.reduceAdd, Int.reduceSub, Int.reduceMul, Int.reduceEq, Int.reduceNe, Int.reduceLT, Int.reduceLE, Int.reduceGT, Int.reduceGE]
  refine callI_gs (GStep.frz (Mem.set_eq _ _ _)) ?_
  rw [Mem.set_set]
  have hh1 : (Q0.set j1 (.cells 3 [[.int .i64 1], [.int .i64 0]] (max 0 ([[.int .i64 1], [.int .i64 0]] : List (List Lf)).length))) (n0 + 10) = some (.cells 65 (hist9.map Evt.row) 3) := by rw [Mem.set_ne _ _ _ _ (by omega)]; exact hh0
  have hl1 := Mem.set_eq Q0 j1 (.cells 3 [[.int .i64 1], [.int .i64 0]] (max 0 ([[.int .i64 1], [.int .i64 0]] : List (List Lf)).length))
  have hle1 : M.le (Q0.set j1 (.cells 3 [[.int .i64 1], [.int .i64 0]] (max 0 ([[.int .i64 1], [.int .i64 0]] : List (List Lf)).length))) := fun k bk hk => by
    have := hMlt _ _ hk
    rw [Mem.set_ne _ _ _ _ (by omega)]
    exact hle0 _ _ hk
  generalize Q0.set j1 (.cells 3 [[.int .i64 1], [.int .i64 0]] (max 0 ([[.int .i64 1], [.int .i64 0]] : List (List Lf)).length)) = Q1 at hh1 hl1 hle1 ⊢
  refine call_of (XCalls.rd (.cons (.inr ⟨_, _, rfl, rfl, Rd.nils _⟩) (.cons (.inr ⟨_, _, rfl, rfl, Rd.ms hh1 (by decide) rfl⟩) (.cons (.inr ⟨_, _, rfl, rfl, Rd.ms hl1 (by decide) rfl⟩) .nil))) (oright_spec [] hist9 [1, 0] (by decide) small9 (by decide) (by decide) Q1)) ?_
  simp only [right9b, Option.isSome_some, Option.isSome_none]
  simp -implicitDefEqProofs (maxSteps := 1000000) (disch := omega) only [↓xsP, ↓vc_seq, xsQ, xsT, xsR, xsD, ↓reduceIte, reduceCtorEq, eq_self, ne_eq, imp_self, forall_const, Nat.reduceEqDiff, Nat.reduceAdd, Nat.reduceSub, Nat.reduceMul, Nat.reduceLT, Nat.reduceLeDiff, Nat.reduceBEq, Nat.reduceDiv, Nat.reduceMod, Int.reduceToNat, Int.reduceNeg, Int.reduceAdd, Int.reduceSub, Int.reduceMul, Int.reduceEq, Int.reduceNe, Int.reduceLT, Int.reduceLE, Int.reduceGT, Int.reduceGE]
  refine newI_intro fun j2 hj2 => ?_
  have hjl2 := lt_of_bnd hj2 hh1
  simp -implicitDefEqProofs (maxSteps := 1000000) (disch := omega) only [↓xsP, ↓vc_seq, xsQ, xsT, xsR, xsD, ↓reduceIte, reduceCtorEq, eq_self, ne_eq, imp_self, forall_const, Nat.reduceEqDiff, Nat.reduceAdd, Nat.reduceSub, Nat.reduceMul, Nat.reduceLT, Nat.reduceLeDiff, Nat.reduceBEq, Nat.reduceDiv, Nat.reduceMod, Int.reduceToNat, Int.reduceNeg, Int.reduceAdd, Int.reduceSub, Int.reduceMul, Int.reduceEq, Int.reduceNe, Int.reduceLT, Int.reduceLE, Int.reduceGT, Int.reduceGE]
  refine callI_gs (GStep.frz (Mem.set_eq _ _ _)) ?_
  rw [Mem.set_set]
  have hh2 : (Q1.set j2 (.cells 3 [[.int .i64 1]] (max 0 ([[.int .i64 1]] : List (List Lf)).length))) (n0 + 10) = some (.cells 65 (hist9.map Evt.row) 3) := by rw [Mem.set_ne _ _ _ _ (by omega)]; exact hh1
  have hl2 := Mem.set_eq Q1 j2 (.cells 3 [[.int .i64 1]] (max 0 ([[.int .i64 1]] : List (List Lf)).length))
  have hle2 : M.le (Q1.set j2 (.cells 3 [[.int .i64 1]] (max 0 ([[.int .i64 1]] : List (List Lf)).length))) := fun k bk hk => by
    have := hMlt _ _ hk
    rw [Mem.set_ne _ _ _ _ (by omega)]
    exact hle1 _ _ hk
  generalize Q1.set j2 (.cells 3 [[.int .i64 1]] (max 0 ([[.int .i64 1]] : List (List Lf)).length)) = Q2 at hh2 hl2 hle2 ⊢
  refine call_of (XCalls.rd (.cons (.inr ⟨_, _, rfl, rfl, Rd.nils _⟩) (.cons (.inr ⟨_, _, rfl, rfl, Rd.ms hh2 (by decide) rfl⟩) (.cons (.inr ⟨_, _, rfl, rfl, Rd.ms hl2 (by decide) rfl⟩) .nil))) (oright_spec [] hist9 [1] (by decide) small9 (by decide) (by decide) Q2)) ?_
  simp only [right9b, Option.isSome_some, Option.isSome_none]
  simp -implicitDefEqProofs (maxSteps := 1000000) (disch := omega) only [↓xsP, ↓vc_seq, xsQ, xsT, xsR, xsD, ↓reduceIte, reduceCtorEq, eq_self, ne_eq, imp_self, forall_const, Nat.reduceEqDiff, Nat.reduceAdd, Nat.reduceSub, Nat.reduceMul, Nat.reduceLT, Nat.reduceLeDiff, Nat.reduceBEq, Nat.reduceDiv, Nat.reduceMod, Int.reduceToNat, Int.reduceNeg, Int.reduceAdd, Int.reduceSub, Int.reduceMul, Int.reduceEq, Int.reduceNe, Int.reduceLT, Int.reduceLE, Int.reduceGT, Int.reduceGE]
  exact fin_ok hle2 ⟨rfl, rfl⟩
end Go.X
