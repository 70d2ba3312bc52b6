/- What layer 21's awake does: it says yes. -/
import Derived.Test.YtjhpfaiiknpnmaaGdm
import Derived.Test.YtjhpfaiiknpnmaaZ5
set_option linter.unusedVariables false
set_option linter.unusedSimpArgs false
set_option maxHeartbeats 20000000
set_option maxRecDepth 100000
namespace Go.X
open Go.Proofs.Try (prog)

theorem put21 : putL [⟨1, 5⟩] = [⟨1, 5⟩] := by
  show doL [] ⟨1, 1, 0, 5⟩ = _
  rw [doL_upd (by simp [Asc]) (by decide) (by decide)]
  decide
theorem get21 : doA [⟨1, 5⟩] ⟨4, 1, 0, 0⟩ = ⟨0, true, ⟨1, 5⟩, 0, []⟩ := by
  rw [doA_one (asc1 _) (by decide) (by decide)]
  decide
def Wa : Wit := ⟨[⟨1, 5⟩], List.replicate 6 wk0, 0, []⟩
theorem awake21_spec (M : Mem) : XCalls Go.Proofs.Try.prog 13 [] M fun r M' => r = .l (.bool true) ∧ M' = M := by
  refine xcalls_intro (rs := [.tmp 0]) Go.Proofs.Try.func13 rfl (by kernel_rfl) rfl rfl (by kernel_rfl) (by simp) ?_
  simp -implicitDefEqProofs (maxSteps := 1000000) (disch := omega) only [↓xsP, ↓vc_seq, xsQ, xsT, xsR, xsD, ↓reduceIte, reduceCtorEq, eq_self, ne_eq, imp_self, forall_const, Nat.reduceEqDiff, Nat.reduceAdd, Nat.reduceSub, Nat.reduceMul, Nat.reduceLT, Nat.reduceLeDiff, Nat.reduceBEq, Nat.reduceDiv, Nat.reduceMod, Int.reduceToNat, Int.reduceNeg, Int.reduceAdd, Int.reduceSub, Int.reduceMul, Int.reduceEq, Int.reduceNe, Int.reduceLT, Int.reduceLE, Int.reduceGT, Int.reduceGE]
  refine newI_intro fun pa hpa => ?_
  simp -implicitDefEqProofs (maxSteps := 1000000) (disch := omega) only [↓xsP, ↓vc_seq, xsQ, xsT, xsR, xsD, ↓reduceIte, reduceCtorEq, eq_self, ne_eq, imp_self, forall_const, Nat.reduceEqDiff, Nat.reduceAdd, Nat.reduceSub, Nat.reduceMul, Nat.reduceLT, Nat.reduceLeDiff, Nat.reduceBEq, Nat.reduceDiv, Nat.reduceMod, Int.reduceToNat, Int.reduceNeg, Int.reduceAdd, Int.reduceSub, Int.reduceMul, Int.reduceEq, Int.reduceNe, Int.reduceLT, Int.reduceLE, Int.reduceGT, Int.reduceGE]
  refine callI_gs (GStep.keep (rows' := ([⟨1, 5⟩] : List Pr).map Pr.row) rfl) ?_
  have hM1 := Mem.set_eq M pa (.cells 26 (([⟨1, 5⟩] : List Pr).map Pr.row) (([⟨1, 5⟩] : List Pr).map Pr.row).length)
  have hle := le_new (b := .cells 26 (([⟨1, 5⟩] : List Pr).map Pr.row) (([⟨1, 5⟩] : List Pr).map Pr.row).length) (Mem.le_refl M) hpa
  generalize M.set pa _ = B at hM1 hle ⊢
  refine callI_of ((XCalls.rd (.cons (.inr ⟨_, _, rfl, rfl, Rd.ms hM1 (Nat.le_refl _) rfl⟩) .nil) (wnew_spec [⟨1, 5⟩] (by decide) B)).mono ?_)
  rintro _ N0 ⟨id, mid, rfl, hW⟩
  rw [put21] at hW
  simp -implicitDefEqProofs (maxSteps := 1000000) (disch := omega) only [↓xsP, ↓vc_seq, xsQ, xsT, xsR, xsD, ↓reduceIte, reduceCtorEq, eq_self, ne_eq, imp_self, forall_const, Nat.reduceEqDiff, Nat.reduceAdd, Nat.reduceSub, Nat.reduceMul, Nat.reduceLT, Nat.reduceLeDiff, Nat.reduceBEq, Nat.reduceDiv, Nat.reduceMod, Int.reduceToNat, Int.reduceNeg, Int.reduceAdd, Int.reduceSub, Int.reduceMul, Int.reduceEq, Int.reduceNe, Int.reduceLT, Int.reduceLE, Int.reduceGT, Int.reduceGE]
  have c1 : ((1 : Nat) : Int) = 1 := rfl
  refine callI_of ((call_in hW (by decide) 0 (by decide) ⟨4, 1, 0, 0⟩).mono ?_)
  rintro _ N1 ⟨rfl, hW1⟩
  rw [show canCall ⟨[⟨1, 5⟩], List.replicate 6 wk0, 0, []⟩ 0 ⟨4, 1, 0, 0⟩ = true from rfl, if_pos rfl] at hW1
  rw [show canCall ⟨[⟨1, 5⟩], List.replicate 6 wk0, 0, []⟩ 0 ⟨4, 1, 0, 0⟩ = true from rfl]
  obtain ⟨W1, hV1⟩ : ∃ W1, W1 = callW ⟨[⟨1, 5⟩], List.replicate 6 wk0, 0, []⟩ 0 ⟨4, 1, 0, 0⟩ := ⟨_, rfl⟩
  rw [← hV1] at hW1
  simp -implicitDefEqProofs (maxSteps := 1000000) (disch := omega) only [↓xsP, ↓vc_seq, xsQ, xsT, xsR, xsD, ↓reduceIte, reduceCtorEq, eq_self, ne_eq, imp_self, forall_const, Nat.reduceEqDiff, Nat.reduceAdd, Nat.reduceSub, Nat.reduceMul, Nat.reduceLT, Nat.reduceLeDiff, Nat.reduceBEq, Nat.reduceDiv, Nat.reduceMod, Int.reduceToNat, Int.reduceNeg, Int.reduceAdd, Int.reduceSub, Int.reduceMul, Int.reduceEq, Int.reduceNe, Int.reduceLT, Int.reduceLE, Int.reduceGT, Int.reduceGE]
  have e1 : canTook W1 0 = true := by rw [hV1]; rfl
  refine callI_of ((took_in hW1 0 (by decide) (by rw [hV1]; decide) (by rw [hV1]; decide)).mono ?_)
  rintro _ N2 ⟨rfl, o2, hW2⟩
  rw [e1, if_pos rfl] at hW2
  rw [e1]
  obtain ⟨W2, hV2⟩ : ∃ W2, W2 = tookW W1 0 := ⟨_, rfl⟩
  have hg1 : W1.ws.getD 0 default = ⟨true, ⟨4, 1, 0, 0⟩, 0, false, ans0⟩ := by rw [hV1]; rfl
  have hs1 : W1.s = [⟨1, 5⟩] := by rw [hV1]; rfl
  have h61 : W1.ws.length = 6 := by rw [hV1]; rfl
  have ho1 : W1.ord = [] := by rw [hV1]; rfl
  have hs2 : W2.s = [⟨1, 5⟩] := by rw [hV2, tookW, hg1, hs1]; exact doL_read (by decide)
  have ho2 : W2.ord = [0] := by rw [hV2, tookW, hg1, ho1]; rfl
  have hg2 : W2.ws.getD 0 default = ⟨true, ⟨4, 1, 0, 0⟩, 0, true, ⟨0, true, ⟨1, 5⟩, 0, []⟩⟩ := by
    rw [hV2, tookW, hg1, hs1, get21]
    exact (getD_set _ _ _ _ _ (by omega)).trans (if_pos rfl)
  have h62 : W2.ws.length = 6 := by rw [hV2, tookW]; simpa using h61
  rw [← hV2] at hW2
  simp -implicitDefEqProofs (maxSteps := 1000000) (disch := omega) only [↓xsP, ↓vc_seq, xsQ, xsT, xsR, xsD, ↓reduceIte, reduceCtorEq, eq_self, ne_eq, imp_self, forall_const, Nat.reduceEqDiff, Nat.reduceAdd, Nat.reduceSub, Nat.reduceMul, Nat.reduceLT, Nat.reduceLeDiff, Nat.reduceBEq, Nat.reduceDiv, Nat.reduceMod, Int.reduceToNat, Int.reduceNeg, Int.reduceAdd, Int.reduceSub, Int.reduceMul, Int.reduceEq, Int.reduceNe, Int.reduceLT, Int.reduceLE, Int.reduceGT, Int.reduceGE]
  refine callI_of (XCalls.wk ((ret_in hW2 0 (by decide) ⟨0, true, ⟨1, 5⟩, 0, []⟩ (by rw [hg2]; decide)).mono ?_))
  rintro _ N3 ⟨rfl, hW3⟩
  have e3 : retB W2 0 ⟨0, true, ⟨1, 5⟩, 0, []⟩ = true := by rw [retB, hg2]; exact bof_true rfl
  rw [e3]
  have hV3 : retW W2 0 = { W2 with ws := W2.ws.set 0 wk0 } := by rw [retW, hg2, if_pos rfl]
  rw [hV3] at hW3
  have hg3 : (W2.ws.set 0 wk0).getD 0 default = wk0 := (getD_set _ _ _ _ _ (by omega)).trans (if_pos rfl)
  simp -implicitDefEqProofs (maxSteps := 1000000) (disch := omega) only [↓xsP, ↓vc_seq, xsQ, xsT, xsR, xsD, ↓reduceIte, reduceCtorEq, eq_self, ne_eq, imp_self, forall_const, Nat.reduceEqDiff, Nat.reduceAdd, Nat.reduceSub, Nat.reduceMul, Nat.reduceLT, Nat.reduceLeDiff, Nat.reduceBEq, Nat.reduceDiv, Nat.reduceMod, Int.reduceToNat, Int.reduceNeg, Int.reduceAdd, Int.reduceSub, Int.reduceMul, Int.reduceEq, Int.reduceNe, Int.reduceLT, Int.reduceLE, Int.reduceGT, Int.reduceGE]
  refine call_of (worder_spec hW3 (by show W2.ord.length ≤ _; rw [ho2]; decide)) ?_
  rw [show ({ W2 with ws := W2.ws.set 0 wk0 } : Wit).ord = [0] from ho2]
  simp -implicitDefEqProofs (maxSteps := 1000000) (disch := omega) only [↓xsP, ↓vc_seq, xsQ, xsT, xsR, xsD, ↓reduceIte, reduceCtorEq, eq_self, ne_eq, imp_self, forall_const, Nat.reduceEqDiff, Nat.reduceAdd, Nat.reduceSub, Nat.reduceMul, Nat.reduceLT, Nat.reduceLeDiff, Nat.reduceBEq, Nat.reduceDiv, Nat.reduceMod, Int.reduceToNat, Int.reduceNeg, Int.reduceAdd, Int.reduceSub, Int.reduceMul, Int.reduceEq, Int.reduceNe, Int.reduceLT, Int.reduceLE, Int.reduceGT, Int.reduceGE, c1]
  refine call_of (wpairs_spec hW3 (by show W2.s.length ≤ _; rw [hs2]; decide)) ?_
  rw [show ({ W2 with ws := W2.ws.set 0 wk0 } : Wit).s = [⟨1, 5⟩] from hs2]
  simp -implicitDefEqProofs (maxSteps := 1000000) (disch := omega) only [↓xsP, ↓vc_seq, xsQ, xsT, xsR, xsD, ↓reduceIte, reduceCtorEq, eq_self, ne_eq, imp_self, forall_const, Nat.reduceEqDiff, Nat.reduceAdd, Nat.reduceSub, Nat.reduceMul, Nat.reduceLT, Nat.reduceLeDiff, Nat.reduceBEq, Nat.reduceDiv, Nat.reduceMod, Int.reduceToNat, Int.reduceNeg, Int.reduceAdd, Int.reduceSub, Int.reduceMul, Int.reduceEq, Int.reduceNe, Int.reduceLT, Int.reduceLE, Int.reduceGT, Int.reduceGE, c1]
  refine call_of (busy_in hW3 0 (by decide)) ?_
  rw [show (({ W2 with ws := W2.ws.set 0 wk0 } : Wit).ws.getD 0 default).busy = false by rw [show ({ W2 with ws := W2.ws.set 0 wk0 } : Wit).ws.getD 0 default = wk0 from hg3]; rfl]
  simp -implicitDefEqProofs (maxSteps := 1000000) (disch := omega) only [↓xsP, ↓vc_seq, xsQ, xsT, xsR, xsD, ↓reduceIte, reduceCtorEq, eq_self, ne_eq, imp_self, forall_const, Nat.reduceEqDiff, Nat.reduceAdd, Nat.reduceSub, Nat.reduceMul, Nat.reduceLT, Nat.reduceLeDiff, Nat.reduceBEq, Nat.reduceDiv, Nat.reduceMod, Int.reduceToNat, Int.reduceNeg, Int.reduceAdd, Int.reduceSub, Int.reduceMul, Int.reduceEq, Int.reduceNe, Int.reduceLT, Int.reduceLE, Int.reduceGT, Int.reduceGE]
  refine callI_of ((took_in hW3 0 (by decide) (by show W2.s.length ≤ _; rw [hs2]; decide) (by show W2.ord.length ≤ _; rw [ho2]; decide)).mono ?_)
  rintro _ N4 ⟨rfl, o4, hW4⟩
  rw [show canTook { W2 with ws := W2.ws.set 0 wk0 } 0 = false by rw [canTook, show ({ W2 with ws := W2.ws.set 0 wk0 } : Wit).ws.getD 0 default = wk0 from hg3]; rfl]
  simp -implicitDefEqProofs (maxSteps := 1000000) (disch := omega) only [↓xsP, ↓vc_seq, xsQ, xsT, xsR, xsD, ↓reduceIte, reduceCtorEq, eq_self, ne_eq, imp_self, forall_const, Nat.reduceEqDiff, Nat.reduceAdd, Nat.reduceSub, Nat.reduceMul, Nat.reduceLT, Nat.reduceLeDiff, Nat.reduceBEq, Nat.reduceDiv, Nat.reduceMod, Int.reduceToNat, Int.reduceNeg, Int.reduceAdd, Int.reduceSub, Int.reduceMul, Int.reduceEq, Int.reduceNe, Int.reduceLT, Int.reduceLE, Int.reduceGT, Int.reduceGE]
  exact fin_ok (fun k bk hk => hW4.le _ _ (hle _ _ hk)) ⟨rfl, rfl⟩
end Go.X
