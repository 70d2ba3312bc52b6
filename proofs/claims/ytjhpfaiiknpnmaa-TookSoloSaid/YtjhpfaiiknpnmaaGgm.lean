/- The walk of TookRefused. -/
import Derived.Test.YtjhpfaiiknpnmaaGfm
import Derived.Test.YtjhpfaiiknpnmaaZ5
set_option linter.unusedVariables false
set_option linter.unusedSimpArgs false
set_option maxHeartbeats 20000000
set_option maxRecDepth 100000
namespace Go.X
open Go.Proofs.Try (prog)

theorem doA_errT {l : List Pr} {op : Opn} (hl : Asc l) (hm : mayOpB op = true) : (doA l op).err = 0 := by
  have hk : okOp l op = true := by rw [okOp, hm, bof_true ((rises_asc l).2 hl)]; rfl
  rw [doA, if_neg (by simp [hk])]
  split
  · rfl
  · split
    · rfl
    · split
      · split <;> rfl
      · split
        · split <;> rfl
        · rw [ansAt]; split <;> rfl
theorem tookRefused_walk (b : List Pr) (op : Opn) (e0 : Int) (hb : b.length ≤ 140737488355328) (M : Mem) : XCalls Go.Proofs.Try.prog 5 [.l (.sl (b.map Pr.row)), .agg op.row, .l (.int .i64 e0)] M fun r M' => r = .l (.bool true) ∧ M' = M := by
  refine xcalls_intro (rs := [.tmp 6]) Go.Proofs.Try.func5 rfl (by kernel_rfl) rfl rfl (by kernel_rfl) (by simp) ?_
  simp -implicitDefEqProofs (maxSteps := 1000000) (disch := omega) only [↓xsP, ↓vc_seq, xsQ, xsT, xsR, xsD, ↓reduceIte, reduceCtorEq, eq_self, ne_eq, imp_self, forall_const, Nat.reduceEqDiff, Nat.reduceAdd, Nat.reduceSub, Nat.reduceMul, Nat.reduceLT, Nat.reduceLeDiff, Nat.reduceBEq, Nat.reduceDiv, Nat.reduceMod, Int.reduceToNat, Int.reduceNeg, Int.reduceAdd, Int.reduceSub, Int.reduceMul, Int.reduceEq, Int.reduceNe, Int.reduceLT, Int.reduceLE, Int.reduceGT, Int.reduceGE]
  refine newI_intro fun p4 hp4 => ?_
  have hN4 := Mem.set_eq M p4 (.cells 23 [op.row] 0)
  have hle := le_new (b := .cells 23 [op.row] 0) (Mem.le_refl M) hp4
  rw [row_opn] at hN4 hle
  simp -implicitDefEqProofs (maxSteps := 1000000) (disch := omega) only [↓xsP, ↓vc_seq, xsQ, xsT, xsR, xsD, ↓reduceIte, reduceCtorEq, eq_self, ne_eq, imp_self, forall_const, Nat.reduceEqDiff, Nat.reduceAdd, Nat.reduceSub, Nat.reduceMul, Nat.reduceLT, Nat.reduceLeDiff, Nat.reduceBEq, Nat.reduceDiv, Nat.reduceMod, Int.reduceToNat, Int.reduceNeg, Int.reduceAdd, Int.reduceSub, Int.reduceMul, Int.reduceEq, Int.reduceNe, Int.reduceLT, Int.reduceLE, Int.reduceGT, Int.reduceGE]
  generalize M.set p4 _ = B at hN4 hle ⊢
  refine gI_prop_f (fun h1 => ?_) (fun h1 => ?_)
  rotate_left
  · simp -implicitDefEqProofs (maxSteps := 1000000) (disch := omega) only [↓xsP, ↓vc_seq, xsQ, xsT, xsR, xsD, ↓reduceIte, reduceCtorEq, eq_self, ne_eq, imp_self, forall_const, Nat.reduceEqDiff, Nat.reduceAdd, Nat.reduceSub, Nat.reduceMul, Nat.reduceLT, Nat.reduceLeDiff, Nat.reduceBEq, Nat.reduceDiv, Nat.reduceMod, Int.reduceToNat, Int.reduceNeg, Int.reduceAdd, Int.reduceSub, Int.reduceMul, Int.reduceEq, Int.reduceNe, Int.reduceLT, Int.reduceLE, Int.reduceGT, Int.reduceGE, h1]
    refine call_of (awake21_spec _) ?_
    simp -implicitDefEqProofs (maxSteps := 1000000) (disch := omega) only [↓xsP, ↓vc_seq, xsQ, xsT, xsR, xsD, ↓reduceIte, reduceCtorEq, eq_self, ne_eq, imp_self, forall_const, Nat.reduceEqDiff, Nat.reduceAdd, Nat.reduceSub, Nat.reduceMul, Nat.reduceLT, Nat.reduceLeDiff, Nat.reduceBEq, Nat.reduceDiv, Nat.reduceMod, Int.reduceToNat, Int.reduceNeg, Int.reduceAdd, Int.reduceSub, Int.reduceMul, Int.reduceEq, Int.reduceNe, Int.reduceLT, Int.reduceLE, Int.reduceGT, Int.reduceGE]
    exact fin_ok hle ⟨rfl, rfl⟩
  simp -implicitDefEqProofs (maxSteps := 1000000) (disch := omega) only [↓xsP, ↓vc_seq, xsQ, xsT, xsR, xsD, ↓reduceIte, reduceCtorEq, eq_self, ne_eq, imp_self, forall_const, Nat.reduceEqDiff, Nat.reduceAdd, Nat.reduceSub, Nat.reduceMul, Nat.reduceLT, Nat.reduceLeDiff, Nat.reduceBEq, Nat.reduceDiv, Nat.reduceMod, Int.reduceToNat, Int.reduceNeg, Int.reduceAdd, Int.reduceSub, Int.reduceMul, Int.reduceEq, Int.reduceNe, Int.reduceLT, Int.reduceLE, Int.reduceGT, Int.reduceGE, h1, hN4]
  refine call_of (mayOpR_spec op _) ?_
  cases hmo : mayOpB op with
  | false =>
    simp -implicitDefEqProofs (maxSteps := 1000000) (disch := omega) only [↓xsP, ↓vc_seq, xsQ, xsT, xsR, xsD, ↓reduceIte, reduceCtorEq, eq_self, ne_eq, imp_self, forall_const, Nat.reduceEqDiff, Nat.reduceAdd, Nat.reduceSub, Nat.reduceMul, Nat.reduceLT, Nat.reduceLeDiff, Nat.reduceBEq, Nat.reduceDiv, Nat.reduceMod, Int.reduceToNat, Int.reduceNeg, Int.reduceAdd, Int.reduceSub, Int.reduceMul, Int.reduceEq, Int.reduceNe, Int.reduceLT, Int.reduceLE, Int.reduceGT, Int.reduceGE, h1]
    refine call_of (awake21_spec _) ?_
    simp -implicitDefEqProofs (maxSteps := 1000000) (disch := omega) only [↓xsP, ↓vc_seq, xsQ, xsT, xsR, xsD, ↓reduceIte, reduceCtorEq, eq_self, ne_eq, imp_self, forall_const, Nat.reduceEqDiff, Nat.reduceAdd, Nat.reduceSub, Nat.reduceMul, Nat.reduceLT, Nat.reduceLeDiff, Nat.reduceBEq, Nat.reduceDiv, Nat.reduceMod, Int.reduceToNat, Int.reduceNeg, Int.reduceAdd, Int.reduceSub, Int.reduceMul, Int.reduceEq, Int.reduceNe, Int.reduceLT, Int.reduceLE, Int.reduceGT, Int.reduceGE]
    exact fin_ok hle ⟨rfl, rfl⟩
  | true =>
  have r4 := rem_u64c e0 4 (by decide) (by decide) 4 rfl
  have l4 := ridx_lt e0 (n := 4) (by decide)
  have w4 : IntKind.i64.wrap ((ridx e0 4 : Nat) : Int) = ((ridx e0 4 : Nat) : Int) := wrap_in (by omega) (by omega)
  have w5 : IntKind.i64.wrap (1 + ((ridx e0 4 : Nat) : Int)) = 1 + ((ridx e0 4 : Nat) : Int) := wrap_in (by omega) (by omega)
  simp -implicitDefEqProofs (maxSteps := 1000000) (disch := omega) only [↓xsP, ↓vc_seq, xsQ, xsT, xsR, xsD, ↓reduceIte, reduceCtorEq, eq_self, ne_eq, imp_self, forall_const, Nat.reduceEqDiff, Nat.reduceAdd, Nat.reduceSub, Nat.reduceMul, Nat.reduceLT, Nat.reduceLeDiff, Nat.reduceBEq, Nat.reduceDiv, Nat.reduceMod, Int.reduceToNat, Int.reduceNeg, Int.reduceAdd, Int.reduceSub, Int.reduceMul, Int.reduceEq, Int.reduceNe, Int.reduceLT, Int.reduceLE, Int.reduceGT, Int.reduceGE, h1, r4, w4, w5]
  obtain ⟨e, he⟩ : ∃ e : Int, 1 + ((ridx e0 4 : Nat) : Int) = e := ⟨_, rfl⟩
  have he0 : e ≠ 0 := by omega
  rw [he]
  clear r4 l4 w4 w5 he
  refine callI_of ((wnew_spec b (by omega) B).mono ?_)
  rintro _ N0 ⟨id, mid, rfl, hW⟩
  have hpl := putL_len b
  have hasc := putL_asc b
  generalize putL b = s at hW hpl hasc
  have hop0 : ∀ {N : Mem} {o : Lf} {W : Wit}, WIn B N id mid o W → N p4 = some (.cells 23 [[.int .i64 op.kind, .int .i64 op.key, .int .i64 op.to, .int .i64 op.val]] 0) := fun h => h.le _ _ hN4
  simp -implicitDefEqProofs (maxSteps := 1000000) (disch := omega) only [↓xsP, ↓vc_seq, xsQ, xsT, xsR, xsD, ↓reduceIte, reduceCtorEq, eq_self, ne_eq, imp_self, forall_const, Nat.reduceEqDiff, Nat.reduceAdd, Nat.reduceSub, Nat.reduceMul, Nat.reduceLT, Nat.reduceLeDiff, Nat.reduceBEq, Nat.reduceDiv, Nat.reduceMod, Int.reduceToNat, Int.reduceNeg, Int.reduceAdd, Int.reduceSub, Int.reduceMul, Int.reduceEq, Int.reduceNe, Int.reduceLT, Int.reduceLE, Int.reduceGT, Int.reduceGE]
  refine call_of (wpairs_spec hW (by show s.length ≤ _; omega)) ?_
  simp -implicitDefEqProofs (maxSteps := 1000000) (disch := omega) only [↓xsP, ↓vc_seq, xsQ, xsT, xsR, xsD, ↓reduceIte, reduceCtorEq, eq_self, ne_eq, imp_self, forall_const, Nat.reduceEqDiff, Nat.reduceAdd, Nat.reduceSub, Nat.reduceMul, Nat.reduceLT, Nat.reduceLeDiff, Nat.reduceBEq, Nat.reduceDiv, Nat.reduceMod, Int.reduceToNat, Int.reduceNeg, Int.reduceAdd, Int.reduceSub, Int.reduceMul, Int.reduceEq, Int.reduceNe, Int.reduceLT, Int.reduceLE, Int.reduceGT, Int.reduceGE, hop0 hW]
  refine callI_of ((call_in hW (Nat.zero_le _) 0 (by decide) op).mono ?_)
  rintro _ N1 ⟨rfl, hW1⟩
  have ec1 : canCall ⟨s, List.replicate 6 wk0, 0, []⟩ 0 op = true := by rw [canCall, hmo]; rfl
  rw [ec1, if_pos rfl] at hW1
  rw [ec1]
  obtain ⟨W1, hV1⟩ : ∃ W1, W1 = callW ⟨s, List.replicate 6 wk0, 0, []⟩ 0 op := ⟨_, rfl⟩
  rw [← hV1] at hW1
  have hg1 : W1.ws.getD 0 default = ⟨true, op, 0, false, ans0⟩ := by rw [hV1]; rfl
  simp -implicitDefEqProofs (maxSteps := 1000000) (disch := omega) only [↓xsP, ↓vc_seq, xsQ, xsT, xsR, xsD, ↓reduceIte, reduceCtorEq, eq_self, ne_eq, imp_self, forall_const, Nat.reduceEqDiff, Nat.reduceAdd, Nat.reduceSub, Nat.reduceMul, Nat.reduceLT, Nat.reduceLeDiff, Nat.reduceBEq, Nat.reduceDiv, Nat.reduceMod, Int.reduceToNat, Int.reduceNeg, Int.reduceAdd, Int.reduceSub, Int.reduceMul, Int.reduceEq, Int.reduceNe, Int.reduceLT, Int.reduceLE, Int.reduceGT, Int.reduceGE]
  refine callI_of (XCalls.wk ((ret_in hW1 0 (by decide) ⟨e, false, ⟨0, 0⟩, 0, []⟩ (by rw [hg1]; exact Nat.zero_le _)).mono ?_))
  rintro _ N2 ⟨rfl, hW2⟩
  have e2 : retB W1 0 ⟨e, false, ⟨0, 0⟩, 0, []⟩ = true := by rw [retB, hg1]; simpa using he0
  rw [e2]
  have hV2 : retW W1 0 = ⟨s, List.replicate 6 wk0, 1, []⟩ := by rw [retW, hg1, if_pos rfl, hV1]; rfl
  rw [hV2] at hW2
  simp -implicitDefEqProofs (maxSteps := 1000000) (disch := omega) only [↓xsP, ↓vc_seq, xsQ, xsT, xsR, xsD, ↓reduceIte, reduceCtorEq, eq_self, ne_eq, imp_self, forall_const, Nat.reduceEqDiff, Nat.reduceAdd, Nat.reduceSub, Nat.reduceMul, Nat.reduceLT, Nat.reduceLeDiff, Nat.reduceBEq, Nat.reduceDiv, Nat.reduceMod, Int.reduceToNat, Int.reduceNeg, Int.reduceAdd, Int.reduceSub, Int.reduceMul, Int.reduceEq, Int.reduceNe, Int.reduceLT, Int.reduceLE, Int.reduceGT, Int.reduceGE]
  refine call_of (wpairs_spec hW2 (by show s.length ≤ _; omega)) ?_
  simp -implicitDefEqProofs (maxSteps := 1000000) (disch := omega) only [↓xsP, ↓vc_seq, xsQ, xsT, xsR, xsD, ↓reduceIte, reduceCtorEq, eq_self, ne_eq, imp_self, forall_const, Nat.reduceEqDiff, Nat.reduceAdd, Nat.reduceSub, Nat.reduceMul, Nat.reduceLT, Nat.reduceLeDiff, Nat.reduceBEq, Nat.reduceDiv, Nat.reduceMod, Int.reduceToNat, Int.reduceNeg, Int.reduceAdd, Int.reduceSub, Int.reduceMul, Int.reduceEq, Int.reduceNe, Int.reduceLT, Int.reduceLE, Int.reduceGT, Int.reduceGE]
  refine call_of (samePairs_spec s s (by omega) _) ?_
  rw [bof_true (p := s = s) rfl]
  simp -implicitDefEqProofs (maxSteps := 1000000) (disch := omega) only [↓xsP, ↓vc_seq, xsQ, xsT, xsR, xsD, ↓reduceIte, reduceCtorEq, eq_self, ne_eq, imp_self, forall_const, Nat.reduceEqDiff, Nat.reduceAdd, Nat.reduceSub, Nat.reduceMul, Nat.reduceLT, Nat.reduceLeDiff, Nat.reduceBEq, Nat.reduceDiv, Nat.reduceMod, Int.reduceToNat, Int.reduceNeg, Int.reduceAdd, Int.reduceSub, Int.reduceMul, Int.reduceEq, Int.reduceNe, Int.reduceLT, Int.reduceLE, Int.reduceGT, Int.reduceGE]
  refine call_of (worder_spec hW2 (Nat.zero_le _)) ?_
  have c0 : (((0 : Nat) : Int) = 0) = True := eq_true rfl
  simp -implicitDefEqProofs (maxSteps := 1000000) (disch := omega) only [↓xsP, ↓vc_seq, xsQ, xsT, xsR, xsD, ↓reduceIte, reduceCtorEq, eq_self, ne_eq, imp_self, forall_const, Nat.reduceEqDiff, Nat.reduceAdd, Nat.reduceSub, Nat.reduceMul, Nat.reduceLT, Nat.reduceLeDiff, Nat.reduceBEq, Nat.reduceDiv, Nat.reduceMod, Int.reduceToNat, Int.reduceNeg, Int.reduceAdd, Int.reduceSub, Int.reduceMul, Int.reduceEq, Int.reduceNe, Int.reduceLT, Int.reduceLE, Int.reduceGT, Int.reduceGE, hop0 hW2, c0]
  refine callI_of ((call_in hW2 (by show 1 ≤ 1000000; decide) 1 (by decide) op).mono ?_)
  rintro _ N3 ⟨rfl, hW3⟩
  have ec3 : canCall ⟨s, List.replicate 6 wk0, 1, []⟩ 1 op = true := by rw [canCall, hmo]; rfl
  rw [ec3, if_pos rfl] at hW3
  rw [ec3]
  obtain ⟨W3, hV3⟩ : ∃ W3, W3 = callW ⟨s, List.replicate 6 wk0, 1, []⟩ 1 op := ⟨_, rfl⟩
  rw [← hV3] at hW3
  have hg3 : W3.ws.getD 1 default = ⟨true, op, 1, false, ans0⟩ := by rw [hV3]; rfl
  have hs3 : W3.s = s := by rw [hV3]; rfl
  have ho3 : W3.ord = [] := by rw [hV3]; rfl
  have h63 : W3.ws.length = 6 := by rw [hV3]; rfl
  simp -implicitDefEqProofs (maxSteps := 1000000) (disch := omega) only [↓xsP, ↓vc_seq, xsQ, xsT, xsR, xsD, ↓reduceIte, reduceCtorEq, eq_self, ne_eq, imp_self, forall_const, Nat.reduceEqDiff, Nat.reduceAdd, Nat.reduceSub, Nat.reduceMul, Nat.reduceLT, Nat.reduceLeDiff, Nat.reduceBEq, Nat.reduceDiv, Nat.reduceMod, Int.reduceToNat, Int.reduceNeg, Int.reduceAdd, Int.reduceSub, Int.reduceMul, Int.reduceEq, Int.reduceNe, Int.reduceLT, Int.reduceLE, Int.reduceGT, Int.reduceGE]
  refine callI_of ((took_in hW3 1 (by decide) (by rw [hs3]; omega) (by rw [ho3]; decide)).mono ?_)
  rintro _ N4 ⟨rfl, o4, hW4⟩
  have ec4 : canTook W3 1 = true := by rw [canTook, hg3]; rfl
  rw [ec4, if_pos rfl] at hW4
  rw [ec4]
  obtain ⟨W4, hV4⟩ : ∃ W4, W4 = tookW W3 1 := ⟨_, rfl⟩
  rw [← hV4] at hW4
  have hg4 : W4.ws.getD 1 default = ⟨true, op, 1, true, doA s op⟩ := by
    rw [hV4, tookW, hg3, hs3]
    exact (getD_set _ _ _ _ _ (by omega)).trans (if_pos rfl)
  have ho4 : W4.ord = [1] := by rw [hV4, tookW, hg3, ho3]; rfl
  have h64 : W4.ws.length = 6 := by rw [hV4, tookW]; simpa using h63
  have hda := doA_lenO s op
  simp -implicitDefEqProofs (maxSteps := 1000000) (disch := omega) only [↓xsP, ↓vc_seq, xsQ, xsT, xsR, xsD, ↓reduceIte, reduceCtorEq, eq_self, ne_eq, imp_self, forall_const, Nat.reduceEqDiff, Nat.reduceAdd, Nat.reduceSub, Nat.reduceMul, Nat.reduceLT, Nat.reduceLeDiff, Nat.reduceBEq, Nat.reduceDiv, Nat.reduceMod, Int.reduceToNat, Int.reduceNeg, Int.reduceAdd, Int.reduceSub, Int.reduceMul, Int.reduceEq, Int.reduceNe, Int.reduceLT, Int.reduceLE, Int.reduceGT, Int.reduceGE]
  refine callI_of (XCalls.wk ((ret_in hW4 1 (by decide) ⟨e, false, ⟨0, 0⟩, 0, []⟩ (by rw [hg4]; show (doA s op).pairs.length ≤ _; omega)).mono ?_))
  rintro _ N5 ⟨rfl, hW5⟩
  have e5 : retB W4 1 ⟨e, false, ⟨0, 0⟩, 0, []⟩ = false := by
    rw [retB, hg4]
    have hne : doA s op ≠ ⟨e, false, ⟨0, 0⟩, 0, []⟩ := fun h => by
      have h1 := doA_errT hasc hmo
      rw [h] at h1
      exact he0 h1
    exact bof_false hne
  rw [e5]
  have hV5 : retW W4 1 = { W4 with ws := W4.ws.set 1 wk0 } := by rw [retW, hg4, if_pos rfl]
  rw [hV5] at hW5
  have hg5 : ({ W4 with ws := W4.ws.set 1 wk0 } : Wit).ws.getD 1 default = wk0 := (getD_set _ _ _ _ _ (by omega)).trans (if_pos rfl)
  simp -implicitDefEqProofs (maxSteps := 1000000) (disch := omega) only [↓xsP, ↓vc_seq, xsQ, xsT, xsR, xsD, ↓reduceIte, reduceCtorEq, eq_self, ne_eq, imp_self, forall_const, Nat.reduceEqDiff, Nat.reduceAdd, Nat.reduceSub, Nat.reduceMul, Nat.reduceLT, Nat.reduceLeDiff, Nat.reduceBEq, Nat.reduceDiv, Nat.reduceMod, Int.reduceToNat, Int.reduceNeg, Int.reduceAdd, Int.reduceSub, Int.reduceMul, Int.reduceEq, Int.reduceNe, Int.reduceLT, Int.reduceLE, Int.reduceGT, Int.reduceGE]
  refine call_of (busy_in hW5 1 (by decide)) ?_
  rw [hg5, show wk0.busy = false from rfl]
  simp -implicitDefEqProofs (maxSteps := 1000000) (disch := omega) only [↓xsP, ↓vc_seq, xsQ, xsT, xsR, xsD, ↓reduceIte, reduceCtorEq, eq_self, ne_eq, imp_self, forall_const, Nat.reduceEqDiff, Nat.reduceAdd, Nat.reduceSub, Nat.reduceMul, Nat.reduceLT, Nat.reduceLeDiff, Nat.reduceBEq, Nat.reduceDiv, Nat.reduceMod, Int.reduceToNat, Int.reduceNeg, Int.reduceAdd, Int.reduceSub, Int.reduceMul, Int.reduceEq, Int.reduceNe, Int.reduceLT, Int.reduceLE, Int.reduceGT, Int.reduceGE]
  have c1 : (((1 : Nat) : Int) = 1) = True := eq_true rfl
  refine call_of (worder_spec hW5 (by show W4.ord.length ≤ _; rw [ho4]; decide)) ?_
  rw [show ({ W4 with ws := W4.ws.set 1 wk0 } : Wit).ord = [1] from ho4]
  simp -implicitDefEqProofs (maxSteps := 1000000) (disch := omega) only [↓xsP, ↓vc_seq, xsQ, xsT, xsR, xsD, ↓reduceIte, reduceCtorEq, eq_self, ne_eq, imp_self, forall_const, Nat.reduceEqDiff, Nat.reduceAdd, Nat.reduceSub, Nat.reduceMul, Nat.reduceLT, Nat.reduceLeDiff, Nat.reduceBEq, Nat.reduceDiv, Nat.reduceMod, Int.reduceToNat, Int.reduceNeg, Int.reduceAdd, Int.reduceSub, Int.reduceMul, Int.reduceEq, Int.reduceNe, Int.reduceLT, Int.reduceLE, Int.reduceGT, Int.reduceGE, c1]
  refine call_of (worder_spec hW5 (by show W4.ord.length ≤ _; rw [ho4]; decide)) ?_
  obtain ⟨L, hL⟩ : ∃ L : List Int, L = [1] := ⟨_, rfl⟩
  rw [show ({ W4 with ws := W4.ws.set 1 wk0 } : Wit).ord = L by rw [hL]; exact ho4]
  have hL1 : L.length = 1 := by rw [hL]; rfl
  have hL0 : L.getD 0 default = 1 := by rw [hL]; rfl
  simp -implicitDefEqProofs (maxSteps := 1000000) (disch := omega) only [↓xsP, ↓vc_seq, xsQ, xsT, xsR, xsD, ↓reduceIte, reduceCtorEq, eq_self, ne_eq, imp_self, forall_const, Nat.reduceEqDiff, Nat.reduceAdd, Nat.reduceSub, Nat.reduceMul, Nat.reduceLT, Nat.reduceLeDiff, Nat.reduceBEq, Nat.reduceDiv, Nat.reduceMod, Int.reduceToNat, Int.reduceNeg, Int.reduceAdd, Int.reduceSub, Int.reduceMul, Int.reduceEq, Int.reduceNe, Int.reduceLT, Int.reduceLE, Int.reduceGT, Int.reduceGE, c1, hL1, hL0]
  refine call_of (awake21_spec _) ?_
  simp -implicitDefEqProofs (maxSteps := 1000000) (disch := omega) only [↓xsP, ↓vc_seq, xsQ, xsT, xsR, xsD, ↓reduceIte, reduceCtorEq, eq_self, ne_eq, imp_self, forall_const, Nat.reduceEqDiff, Nat.reduceAdd, Nat.reduceSub, Nat.reduceMul, Nat.reduceLT, Nat.reduceLeDiff, Nat.reduceBEq, Nat.reduceDiv, Nat.reduceMod, Int.reduceToNat, Int.reduceNeg, Int.reduceAdd, Int.reduceSub, Int.reduceMul, Int.reduceEq, Int.reduceNe, Int.reduceLT, Int.reduceLE, Int.reduceGT, Int.reduceGE]
  exact fin_ok (fun k bk hk => hW5.le _ _ (hle _ _ hk)) ⟨rfl, rfl⟩
end Go.X
