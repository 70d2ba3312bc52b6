/- The walk of OrderPending. -/
import Derived.Test.YtjhpfaiiknpnmaaOim
import Derived.Test.YtjhpfaiiknpnmaaZ3
import Derived.Test.YtjhpfaiiknpnmaaZ5
set_option linter.unusedVariables false
set_option linter.unusedSimpArgs false
set_option maxHeartbeats 20000000
set_option maxRecDepth 100000
namespace Go.X
open Go.Proofs.Try (prog)

theorem rowsE (l : List Evt) : ∀ r ∈ l.map Evt.row, r.length = 12 := by
  intro r hr
  obtain ⟨p, _, rfl⟩ := List.mem_map.1 hr
  rfl
theorem evts_wk (l : List Evt) : (l.map Evt.row).map (fun r => r.map wkL) = l.map Evt.row := by
  simp only [List.map_map]
  exact List.map_congr_left fun p _ => by simp [Evt.row, wkL]
theorem orderPending_walk (b : List Pr) (h : List Evt) (op : Opn) (t0 : Int) (l : List Int) (hb : b.length ≤ 140737488355328) (hh : h.length ≤ 140737488355328) (hp : ∀ x ∈ h, x.ans.pairs.length ≤ 140737488355328) (hl : l.length ≤ 140737488355328) (hlr : ∀ p ∈ l, -9223372036854775808 ≤ p ∧ p ≤ 9223372036854775807) (M : Mem) :
    XCalls Go.Proofs.Try.prog 8 [.l (.sl (b.map Pr.row)), .l (.sl (h.map Evt.row)), .agg op.row, .l (.int .i64 t0), .l (.sl (l.map irow))] M fun r M' => r = .l (.bool true) ∧ M' = M := by
  refine xcalls_intro (rs := [.tmp 10]) Go.Proofs.Try.func8 rfl (by kernel_rfl) rfl rfl (by kernel_rfl) (by simp) ?_
  simp -implicitDefEqProofs (maxSteps := 1000000) (disch := omega) only [↓xsP, ↓vc_seq, xsQ, xsT, xsR, xsD, ↓reduceIte, reduceCtorEq, eq_self, ne_eq, imp_self, forall_const, Nat.reduceEqDiff, Nat.reduceAdd, Nat.reduceSub, Nat.reduceMul, Nat.reduceLT, Nat.reduceLeDiff, Nat.reduceBEq, Nat.reduceDiv, Nat.reduceMod, Int.reduceToNat, Int.reduceNeg, Int.reduceAdd, Int.reduceSub, Int.reduceMul, Int.reduceEq, Int.reduceNe, Int.reduceLT, Int.reduceLE, Int.reduceGT, Int.reduceGE]
  refine newI_intro fun p7 hp7 => ?_
  simp -implicitDefEqProofs (maxSteps := 1000000) (disch := omega) only [↓xsP, ↓vc_seq, xsQ, xsT, xsR, xsD, ↓reduceIte, reduceCtorEq, eq_self, ne_eq, imp_self, forall_const, Nat.reduceEqDiff, Nat.reduceAdd, Nat.reduceSub, Nat.reduceMul, Nat.reduceLT, Nat.reduceLeDiff, Nat.reduceBEq, Nat.reduceDiv, Nat.reduceMod, Int.reduceToNat, Int.reduceNeg, Int.reduceAdd, Int.reduceSub, Int.reduceMul, Int.reduceEq, Int.reduceNe, Int.reduceLT, Int.reduceLE, Int.reduceGT, Int.reduceGE]
  have hN7 := Mem.set_eq M p7 (.cells 23 [op.row] 0)
  have hleN := le_new (b := .cells 23 [op.row] 0) (Mem.le_refl M) hp7
  rw [row_opn] at hN7 hleN
  generalize M.set p7 _ = N at hN7 hleN ⊢
  refine callI_of ((light_spec h hh hp _).mono ?_)
  rintro _ N ⟨rfl | ⟨rfl, hlo⟩, rfl⟩
  · simp -implicitDefEqProofs (maxSteps := 1000000) (disch := omega) only [↓xsP, ↓vc_seq, xsQ, xsT, xsR, xsD, ↓reduceIte, reduceCtorEq, eq_self, ne_eq, imp_self, forall_const, Nat.reduceEqDiff, Nat.reduceAdd, Nat.reduceSub, Nat.reduceMul, Nat.reduceLT, Nat.reduceLeDiff, Nat.reduceBEq, Nat.reduceDiv, Nat.reduceMod, Int.reduceToNat, Int.reduceNeg, Int.reduceAdd, Int.reduceSub, Int.reduceMul, Int.reduceEq, Int.reduceNe, Int.reduceLT, Int.reduceLE, Int.reduceGT, Int.reduceGE]
    refine call_of (awake19_spec _) ?_
    simp -implicitDefEqProofs (maxSteps := 1000000) (disch := omega) only [↓xsP, ↓vc_seq, xsQ, xsT, xsR, xsD, ↓reduceIte, reduceCtorEq, eq_self, ne_eq, imp_self, forall_const, Nat.reduceEqDiff, Nat.reduceAdd, Nat.reduceSub, Nat.reduceMul, Nat.reduceLT, Nat.reduceLeDiff, Nat.reduceBEq, Nat.reduceDiv, Nat.reduceMod, Int.reduceToNat, Int.reduceNeg, Int.reduceAdd, Int.reduceSub, Int.reduceMul, Int.reduceEq, Int.reduceNe, Int.reduceLT, Int.reduceLE, Int.reduceGT, Int.reduceGE]
    exact fin_ok hleN ⟨rfl, rfl⟩
  simp -implicitDefEqProofs (maxSteps := 1000000) (disch := omega) only [↓xsP, ↓vc_seq, xsQ, xsT, xsR, xsD, ↓reduceIte, reduceCtorEq, eq_self, ne_eq, imp_self, forall_const, Nat.reduceEqDiff, Nat.reduceAdd, Nat.reduceSub, Nat.reduceMul, Nat.reduceLT, Nat.reduceLeDiff, Nat.reduceBEq, Nat.reduceDiv, Nat.reduceMod, Int.reduceToNat, Int.reduceNeg, Int.reduceAdd, Int.reduceSub, Int.reduceMul, Int.reduceEq, Int.reduceNe, Int.reduceLT, Int.reduceLE, Int.reduceGT, Int.reduceGE]
  refine gI_prop_f (fun h1 => ?_) (fun h1 => ?_)
  rotate_left
  · simp -implicitDefEqProofs (maxSteps := 1000000) (disch := omega) only [↓xsP, ↓vc_seq, xsQ, xsT, xsR, xsD, ↓reduceIte, reduceCtorEq, eq_self, ne_eq, imp_self, forall_const, Nat.reduceEqDiff, Nat.reduceAdd, Nat.reduceSub, Nat.reduceMul, Nat.reduceLT, Nat.reduceLeDiff, Nat.reduceBEq, Nat.reduceDiv, Nat.reduceMod, Int.reduceToNat, Int.reduceNeg, Int.reduceAdd, Int.reduceSub, Int.reduceMul, Int.reduceEq, Int.reduceNe, Int.reduceLT, Int.reduceLE, Int.reduceGT, Int.reduceGE, h1]
    refine call_of (awake19_spec _) ?_
    simp -implicitDefEqProofs (maxSteps := 1000000) (disch := omega) only [↓xsP, ↓vc_seq, xsQ, xsT, xsR, xsD, ↓reduceIte, reduceCtorEq, eq_self, ne_eq, imp_self, forall_const, Nat.reduceEqDiff, Nat.reduceAdd, Nat.reduceSub, Nat.reduceMul, Nat.reduceLT, Nat.reduceLeDiff, Nat.reduceBEq, Nat.reduceDiv, Nat.reduceMod, Int.reduceToNat, Int.reduceNeg, Int.reduceAdd, Int.reduceSub, Int.reduceMul, Int.reduceEq, Int.reduceNe, Int.reduceLT, Int.reduceLE, Int.reduceGT, Int.reduceGE]
    exact fin_ok hleN ⟨rfl, rfl⟩
  simp -implicitDefEqProofs (maxSteps := 1000000) (disch := omega) only [↓xsP, ↓vc_seq, xsQ, xsT, xsR, xsD, ↓reduceIte, reduceCtorEq, eq_self, ne_eq, imp_self, forall_const, Nat.reduceEqDiff, Nat.reduceAdd, Nat.reduceSub, Nat.reduceMul, Nat.reduceLT, Nat.reduceLeDiff, Nat.reduceBEq, Nat.reduceDiv, Nat.reduceMod, Int.reduceToNat, Int.reduceNeg, Int.reduceAdd, Int.reduceSub, Int.reduceMul, Int.reduceEq, Int.reduceNe, Int.reduceLT, Int.reduceLE, Int.reduceGT, Int.reduceGE, h1]
  refine gI_prop_f (fun h2 => ?_) (fun h2 => ?_)
  rotate_left
  · simp -implicitDefEqProofs (maxSteps := 1000000) (disch := omega) only [↓xsP, ↓vc_seq, xsQ, xsT, xsR, xsD, ↓reduceIte, reduceCtorEq, eq_self, ne_eq, imp_self, forall_const, Nat.reduceEqDiff, Nat.reduceAdd, Nat.reduceSub, Nat.reduceMul, Nat.reduceLT, Nat.reduceLeDiff, Nat.reduceBEq, Nat.reduceDiv, Nat.reduceMod, Int.reduceToNat, Int.reduceNeg, Int.reduceAdd, Int.reduceSub, Int.reduceMul, Int.reduceEq, Int.reduceNe, Int.reduceLT, Int.reduceLE, Int.reduceGT, Int.reduceGE, h2]
    refine call_of (awake19_spec _) ?_
    simp -implicitDefEqProofs (maxSteps := 1000000) (disch := omega) only [↓xsP, ↓vc_seq, xsQ, xsT, xsR, xsD, ↓reduceIte, reduceCtorEq, eq_self, ne_eq, imp_self, forall_const, Nat.reduceEqDiff, Nat.reduceAdd, Nat.reduceSub, Nat.reduceMul, Nat.reduceLT, Nat.reduceLeDiff, Nat.reduceBEq, Nat.reduceDiv, Nat.reduceMod, Int.reduceToNat, Int.reduceNeg, Int.reduceAdd, Int.reduceSub, Int.reduceMul, Int.reduceEq, Int.reduceNe, Int.reduceLT, Int.reduceLE, Int.reduceGT, Int.reduceGE]
    exact fin_ok hleN ⟨rfl, rfl⟩
  have hs := hlo.small
  have hh1 : h.length ≤ 200 := hlo.1
  simp -implicitDefEqProofs (maxSteps := 1000000) (disch := omega) only [↓xsP, ↓vc_seq, xsQ, xsT, xsR, xsD, ↓reduceIte, reduceCtorEq, eq_self, ne_eq, imp_self, forall_const, Nat.reduceEqDiff, Nat.reduceAdd, Nat.reduceSub, Nat.reduceMul, Nat.reduceLT, Nat.reduceLeDiff, Nat.reduceBEq, Nat.reduceDiv, Nat.reduceMod, Int.reduceToNat, Int.reduceNeg, Int.reduceAdd, Int.reduceSub, Int.reduceMul, Int.reduceEq, Int.reduceNe, Int.reduceLT, Int.reduceLE, Int.reduceGT, Int.reduceGE, h2]
  refine call_of (oright_spec b h l (by omega) hs (by omega) (by omega) _) ?_
  cases hr : rightO b h l with
  | none =>
    simp -implicitDefEqProofs (maxSteps := 1000000) (disch := omega) only [↓xsP, ↓vc_seq, xsQ, xsT, xsR, xsD, ↓reduceIte, reduceCtorEq, eq_self, ne_eq, imp_self, forall_const, Nat.reduceEqDiff, Nat.reduceAdd, Nat.reduceSub, Nat.reduceMul, Nat.reduceLT, Nat.reduceLeDiff, Nat.reduceBEq, Nat.reduceDiv, Nat.reduceMod, Int.reduceToNat, Int.reduceNeg, Int.reduceAdd, Int.reduceSub, Int.reduceMul, Int.reduceEq, Int.reduceNe, Int.reduceLT, Int.reduceLE, Int.reduceGT, Int.reduceGE, Option.isSome_none, h1, h2]
    refine call_of (awake19_spec _) ?_
    simp -implicitDefEqProofs (maxSteps := 1000000) (disch := omega) only [↓xsP, ↓vc_seq, xsQ, xsT, xsR, xsD, ↓reduceIte, reduceCtorEq, eq_self, ne_eq, imp_self, forall_const, Nat.reduceEqDiff, Nat.reduceAdd, Nat.reduceSub, Nat.reduceMul, Nat.reduceLT, Nat.reduceLeDiff, Nat.reduceBEq, Nat.reduceDiv, Nat.reduceMod, Int.reduceToNat, Int.reduceNeg, Int.reduceAdd, Int.reduceSub, Int.reduceMul, Int.reduceEq, Int.reduceNe, Int.reduceLT, Int.reduceLE, Int.reduceGT, Int.reduceGE]
    exact fin_ok hleN ⟨rfl, rfl⟩
  | some sE =>
    simp -implicitDefEqProofs (maxSteps := 1000000) (disch := omega) only [↓xsP, ↓vc_seq, xsQ, xsT, xsR, xsD, ↓reduceIte, reduceCtorEq, eq_self, ne_eq, imp_self, forall_const, Nat.reduceEqDiff, Nat.reduceAdd, Nat.reduceSub, Nat.reduceMul, Nat.reduceLT, Nat.reduceLeDiff, Nat.reduceBEq, Nat.reduceDiv, Nat.reduceMod, Int.reduceToNat, Int.reduceNeg, Int.reduceAdd, Int.reduceSub, Int.reduceMul, Int.reduceEq, Int.reduceNe, Int.reduceLT, Int.reduceLE, Int.reduceGT, Int.reduceGE, Option.isSome_some, h1, h2, hN7]
    refine call_of (mayOpR_spec op _) ?_
    cases hmo : mayOpB op with
    | false =>
      simp -implicitDefEqProofs (maxSteps := 1000000) (disch := omega) only [↓xsP, ↓vc_seq, xsQ, xsT, xsR, xsD, ↓reduceIte, reduceCtorEq, eq_self, ne_eq, imp_self, forall_const, Nat.reduceEqDiff, Nat.reduceAdd, Nat.reduceSub, Nat.reduceMul, Nat.reduceLT, Nat.reduceLeDiff, Nat.reduceBEq, Nat.reduceDiv, Nat.reduceMod, Int.reduceToNat, Int.reduceNeg, Int.reduceAdd, Int.reduceSub, Int.reduceMul, Int.reduceEq, Int.reduceNe, Int.reduceLT, Int.reduceLE, Int.reduceGT, Int.reduceGE, h1, h2]
      refine call_of (awake19_spec _) ?_
      simp -implicitDefEqProofs (maxSteps := 1000000) (disch := omega) only [↓xsP, ↓vc_seq, xsQ, xsT, xsR, xsD, ↓reduceIte, reduceCtorEq, eq_self, ne_eq, imp_self, forall_const, Nat.reduceEqDiff, Nat.reduceAdd, Nat.reduceSub, Nat.reduceMul, Nat.reduceLT, Nat.reduceLeDiff, Nat.reduceBEq, Nat.reduceDiv, Nat.reduceMod, Int.reduceToNat, Int.reduceNeg, Int.reduceAdd, Int.reduceSub, Int.reduceMul, Int.reduceEq, Int.reduceNe, Int.reduceLT, Int.reduceLE, Int.reduceGT, Int.reduceGE]
      exact fin_ok hleN ⟨rfl, rfl⟩
    | true =>
      have r1 := rem_u64c t0 6 (by decide) (by decide) 6 rfl
      have l1 := ridx_lt t0 (n := 6) (by decide)
      have w1 : IntKind.i64.wrap ((ridx t0 6 : Nat) : Int) = ((ridx t0 6 : Nat) : Int) := wrap_in (by omega) (by omega)
      simp -implicitDefEqProofs (maxSteps := 1000000) (disch := omega) only [↓xsP, ↓vc_seq, xsQ, xsT, xsR, xsD, ↓reduceIte, reduceCtorEq, eq_self, ne_eq, imp_self, forall_const, Nat.reduceEqDiff, Nat.reduceAdd, Nat.reduceSub, Nat.reduceMul, Nat.reduceLT, Nat.reduceLeDiff, Nat.reduceBEq, Nat.reduceDiv, Nat.reduceMod, Int.reduceToNat, Int.reduceNeg, Int.reduceAdd, Int.reduceSub, Int.reduceMul, Int.reduceEq, Int.reduceNe, Int.reduceLT, Int.reduceLE, Int.reduceGT, Int.reduceGE, h1, h2, r1, w1]
      generalize ridx t0 6 = t at l1 ⊢
      clear r1 w1
      refine xwrite (fun n0 => [ (2, n0 + 0), (7, n0 + 2)]) [2, 7] [0, 2, 6, 7] [[], [0], [], [2, 0], [2, 0], [2, 0], [2, 0], [], []] (by kernel_rfl) (by kernel_rfl) (by kernel_rfl) (by kernel_rfl) (fun n0 hn0 => ⟨rfl, ?_, ?_⟩)
      · exact TOk_cons (.inr ⟨0, by decide, by decide, rfl⟩) (TOk_cons (.inr ⟨2, by decide, by decide, rfl⟩) (TOk_nil _ _))
      have k7 := lt_of_bnd hn0 hN7
      simp -implicitDefEqProofs (maxSteps := 1000000) (disch := omega) only [↓xsP, ↓vc_seq, xsQ, xsT, xsR, xsD, ↓reduceIte, reduceCtorEq, eq_self, ne_eq, imp_self, forall_const, Nat.reduceEqDiff, Nat.reduceAdd, Nat.reduceSub, Nat.reduceMul, Nat.reduceLT, Nat.reduceLeDiff, Nat.reduceBEq, Nat.reduceDiv, Nat.reduceMod, Int.reduceToNat, Int.reduceNeg, Int.reduceAdd, Int.reduceSub, Int.reduceMul, Int.reduceEq, Int.reduceNe, Int.reduceLT, Int.reduceLE, Int.reduceGT, Int.reduceGE, hN7]
      refine ⟨.inl (by decide), ?_⟩
      refine wapp_ms _ _ _ _ _ 65 _ _ ti_53 rfl ti_65 (by kernel_rfl) (by decide) n0 0 _ (rows := []) (keep := 0) (h.map Evt.row) (Mem.set_eq _ _ _) ?_ (Nat.le_refl _) (Nat.zero_le _) ?_ ?_ ?_
      · simp -implicitDefEqProofs (maxSteps := 1000000) (disch := omega) only [↓xsP, ↓vc_seq, xsQ, xsT, xsR, xsD, ↓reduceIte, reduceCtorEq, eq_self, ne_eq, imp_self, forall_const, Nat.reduceEqDiff, Nat.reduceAdd, Nat.reduceSub, Nat.reduceMul, Nat.reduceLT, Nat.reduceLeDiff, Nat.reduceBEq, Nat.reduceDiv, Nat.reduceMod, Int.reduceToNat, Int.reduceNeg, Int.reduceAdd, Int.reduceSub, Int.reduceMul, Int.reduceEq, Int.reduceNe, Int.reduceLT, Int.reduceLE, Int.reduceGT, Int.reduceGE]
        rw [if_pos (rowsE h)]
      · exact Nat.le_trans (Nat.mul_le_mul_right _ (show 0 + (h.map Evt.row).length ≤ 1000 by simp; omega)) (by decide)
      · simp
        omega
      simp -implicitDefEqProofs (maxSteps := 1000000) (disch := omega) only [↓xsP, ↓vc_seq, xsQ, xsT, xsR, xsD, ↓reduceIte, reduceCtorEq, eq_self, ne_eq, imp_self, forall_const, Nat.reduceEqDiff, Nat.reduceAdd, Nat.reduceSub, Nat.reduceMul, Nat.reduceLT, Nat.reduceLeDiff, Nat.reduceBEq, Nat.reduceDiv, Nat.reduceMod, Int.reduceToNat, Int.reduceNeg, Int.reduceAdd, Int.reduceSub, Int.reduceMul, Int.reduceEq, Int.reduceNe, Int.reduceLT, Int.reduceLE, Int.reduceGT, Int.reduceGE, hN7]
      refine ⟨.inl (by decide), .inl (by decide), ?_⟩
      refine wapp_ms _ _ _ _ _ 65 _ _ ti_53 rfl ti_65 (by kernel_rfl) (by decide) (n0 + 2) h.length _ (rows := h.map Evt.row) (keep := 0) [[.int .i64 t, .bool false, .int .i64 op.kind, .int .i64 op.key, .int .i64 op.to, .int .i64 op.val, .int .i64 0, .bool false, .int .i64 0, .int .i64 0, .int .i64 0, .nils]] ?_ ?_ (by simp) (Nat.zero_le _) ?_ ?_ ?_
      · simp (disch := omega) only [Mem.set_ne, Mem.set_eq]
      · simp -implicitDefEqProofs (maxSteps := 1000000) (disch := omega) only [↓xsP, ↓vc_seq, xsQ, xsT, xsR, xsD, ↓reduceIte, reduceCtorEq, eq_self, ne_eq, imp_self, forall_const, Nat.reduceEqDiff, Nat.reduceAdd, Nat.reduceSub, Nat.reduceMul, Nat.reduceLT, Nat.reduceLeDiff, Nat.reduceBEq, Nat.reduceDiv, Nat.reduceMod, Int.reduceToNat, Int.reduceNeg, Int.reduceAdd, Int.reduceSub, Int.reduceMul, Int.reduceEq, Int.reduceNe, Int.reduceLT, Int.reduceLE, Int.reduceGT, Int.reduceGE]
      · exact Nat.le_trans (Nat.mul_le_mul_right _ (show h.length + 1 ≤ 1000 by omega)) (by decide)
      · show h.length + 1 ≤ 140737488355328
        omega
      simp -implicitDefEqProofs (maxSteps := 1000000) (disch := omega) only [↓xsP, ↓vc_seq, xsQ, xsT, xsR, xsD, ↓reduceIte, reduceCtorEq, eq_self, ne_eq, imp_self, forall_const, Nat.reduceEqDiff, Nat.reduceAdd, Nat.reduceSub, Nat.reduceMul, Nat.reduceLT, Nat.reduceLeDiff, Nat.reduceBEq, Nat.reduceDiv, Nat.reduceMod, Int.reduceToNat, Int.reduceNeg, Int.reduceAdd, Int.reduceSub, Int.reduceMul, Int.reduceEq, Int.reduceNe, Int.reduceLT, Int.reduceLE, Int.reduceGT, Int.reduceGE, hN7]
      refine ⟨.inl (by decide), ?_⟩
      rw [List.take_of_length_le (show (h.map Evt.row).length ≤ h.length by simp)]
      have key : ∀ (X1 X2 X3 X4 : Blk) (Q : Mem), (((((N.set n0 X1).del n0).set (n0 + 2) X2).set (n0 + 6) X3).del (n0 + 2)).set (n0 + 7) X4 = Q → Q (n0 + 7) = some X4 ∧ ∀ k bk, N k = some bk → Q k = some bk ∧ k < n0 := by
        rintro X1 X2 X3 X4 Q rfl
        refine ⟨Mem.set_eq _ _ _, fun k bk h => ?_⟩
        have := lt_of_bnd hn0 h
        exact ⟨by simp (disch := omega) only [Mem.set_ne, Mem.del_ne, h], this⟩
      generalize hQ : Mem.set (Mem.del (Mem.set (Mem.set (Mem.del (Mem.set N _ _) _) _ _) _ _) _) _ _ = Q
      obtain ⟨hQX, hQo⟩ := key _ _ _ _ _ hQ
      clear key hQ
      generalize hpm : n0 + 7 = pm at hQX
      obtain ⟨m, hm⟩ : ∃ m : List Evt, m = h ++ [⟨t, false, op, ans0⟩] := ⟨_, rfl⟩
      have hml : m.length = h.length + 1 := by rw [hm]; simp
      have hmr : (h.map Evt.row ++ ([[.int .i64 t, .bool false, .int .i64 op.kind, .int .i64 op.key, .int .i64 op.to, .int .i64 op.val, .int .i64 0, .bool false, .int .i64 0, .int .i64 0, .int .i64 0, .nils]] : List (List Lf))).map (fun r => r.map wkL) = m.map Evt.row := by
        rw [List.map_append, evts_wk, hm, List.map_append]
        simp [wkL, Evt.row, ans0]
      refine callI_gs (GStep.keep' hQX hmr) ?_
      have hQ2 : ∀ X : Blk, ∃ Q2, Q.set pm X = Q2 ∧ Q2 pm = some X ∧ Q2 p7 = N p7 ∧ M.le Q2 := fun X => by
        refine ⟨_, rfl, Mem.set_eq _ _ _, ?_, fun k bk hk => ?_⟩
        · rw [Mem.set_ne _ _ _ _ (by omega), (hQo _ _ hN7).1, hN7]
        · obtain ⟨a1, a2⟩ := hQo _ _ (hleN _ _ hk)
          rw [Mem.set_ne _ _ _ _ (by omega)]
          exact a1
      obtain ⟨Q2, e2, hQm, hQ7, hleQ⟩ := hQ2 (.cells 65 (m.map Evt.row) (m.map Evt.row).length)
      rw [e2]
      rw [hN7] at hQ7
      clear e2 hQ2 hQo hQX hN7 hleN hmr hn0
      have hsm : Small m := by
        rw [hm]
        refine ⟨by rw [List.length_append]; simp only [List.length_cons, List.length_nil]; omega, fun x hx => ?_⟩
        rcases List.mem_append.1 hx with hx | hx
        · exact hs.2 _ hx
        · rw [List.mem_singleton.1 hx]
          exact Nat.zero_le _
      have hrd : ∀ {X : Mem}, X pm = some (.cells 65 (m.map Evt.row) (m.map Evt.row).length) → Rd X (.ms pm 0 (h.length + 1)) (m.map Evt.row) := fun hX => Rd.ms hX (Nat.le_refl _) (by simp [hml])
      refine call_of (XCalls.rd (.cons (.inr ⟨_, _, rfl, rfl, hrd hQm⟩) .nil) (pmay_spec m hsm Q2)) ?_
      cases hok : okP m with
      | false =>
        simp -implicitDefEqProofs (maxSteps := 1000000) (disch := omega) only [↓xsP, ↓vc_seq, xsQ, xsT, xsR, xsD, ↓reduceIte, reduceCtorEq, eq_self, ne_eq, imp_self, forall_const, Nat.reduceEqDiff, Nat.reduceAdd, Nat.reduceSub, Nat.reduceMul, Nat.reduceLT, Nat.reduceLeDiff, Nat.reduceBEq, Nat.reduceDiv, Nat.reduceMod, Int.reduceToNat, Int.reduceNeg, Int.reduceAdd, Int.reduceSub, Int.reduceMul, Int.reduceEq, Int.reduceNe, Int.reduceLT, Int.reduceLE, Int.reduceGT, Int.reduceGE]
        refine call_of (awake19_spec _) ?_
        simp -implicitDefEqProofs (maxSteps := 1000000) (disch := omega) only [↓xsP, ↓vc_seq, xsQ, xsT, xsR, xsD, ↓reduceIte, reduceCtorEq, eq_self, ne_eq, imp_self, forall_const, Nat.reduceEqDiff, Nat.reduceAdd, Nat.reduceSub, Nat.reduceMul, Nat.reduceLT, Nat.reduceLeDiff, Nat.reduceBEq, Nat.reduceDiv, Nat.reduceMod, Int.reduceToNat, Int.reduceNeg, Int.reduceAdd, Int.reduceSub, Int.reduceMul, Int.reduceEq, Int.reduceNe, Int.reduceLT, Int.reduceLE, Int.reduceGT, Int.reduceGE]
        exact fin_ok hleQ ⟨rfl, rfl⟩
      | true =>
        have hcl := callsP_len h
        rw [hm] at hok
        obtain ⟨e1, e2⟩ := right_more hr hok
        rw [← hm] at e1 e2
        have hsl := rightO_len hr
        simp -implicitDefEqProofs (maxSteps := 1000000) (disch := omega) only [↓xsP, ↓vc_seq, xsQ, xsT, xsR, xsD, ↓reduceIte, reduceCtorEq, eq_self, ne_eq, imp_self, forall_const, Nat.reduceEqDiff, Nat.reduceAdd, Nat.reduceSub, Nat.reduceMul, Nat.reduceLT, Nat.reduceLeDiff, Nat.reduceBEq, Nat.reduceDiv, Nat.reduceMod, Int.reduceToNat, Int.reduceNeg, Int.reduceAdd, Int.reduceSub, Int.reduceMul, Int.reduceEq, Int.reduceNe, Int.reduceLT, Int.reduceLE, Int.reduceGT, Int.reduceGE]
        refine call_of (pcalls_spec h hs _) ?_
        simp -implicitDefEqProofs (maxSteps := 1000000) (disch := omega) only [↓xsP, ↓vc_seq, xsQ, xsT, xsR, xsD, ↓reduceIte, reduceCtorEq, eq_self, ne_eq, imp_self, forall_const, Nat.reduceEqDiff, Nat.reduceAdd, Nat.reduceSub, Nat.reduceMul, Nat.reduceLT, Nat.reduceLeDiff, Nat.reduceBEq, Nat.reduceDiv, Nat.reduceMod, Int.reduceToNat, Int.reduceNeg, Int.reduceAdd, Int.reduceSub, Int.reduceMul, Int.reduceEq, Int.reduceNe, Int.reduceLT, Int.reduceLE, Int.reduceGT, Int.reduceGE]
        refine call_of (ends_spec b h l (by omega) hs (by omega) (by omega) _) ?_
        simp only [hr, Option.isSome_some, Option.getD_some]
        simp -implicitDefEqProofs (maxSteps := 1000000) (disch := omega) only [↓xsP, ↓vc_seq, xsQ, xsT, xsR, xsD, ↓reduceIte, reduceCtorEq, eq_self, ne_eq, imp_self, forall_const, Nat.reduceEqDiff, Nat.reduceAdd, Nat.reduceSub, Nat.reduceMul, Nat.reduceLT, Nat.reduceLeDiff, Nat.reduceBEq, Nat.reduceDiv, Nat.reduceMod, Int.reduceToNat, Int.reduceNeg, Int.reduceAdd, Int.reduceSub, Int.reduceMul, Int.reduceEq, Int.reduceNe, Int.reduceLT, Int.reduceLE, Int.reduceGT, Int.reduceGE]
        refine newI_intro fun pb hpb => ?_
        have k1 := lt_of_bnd hpb hQm
        simp -implicitDefEqProofs (maxSteps := 1000000) (disch := omega) only [↓xsP, ↓vc_seq, xsQ, xsT, xsR, xsD, ↓reduceIte, reduceCtorEq, eq_self, ne_eq, imp_self, forall_const, Nat.reduceEqDiff, Nat.reduceAdd, Nat.reduceSub, Nat.reduceMul, Nat.reduceLT, Nat.reduceLeDiff, Nat.reduceBEq, Nat.reduceDiv, Nat.reduceMod, Int.reduceToNat, Int.reduceNeg, Int.reduceAdd, Int.reduceSub, Int.reduceMul, Int.reduceEq, Int.reduceNe, Int.reduceLT, Int.reduceLE, Int.reduceGT, Int.reduceGE]
        refine app_mk2 ti_39 rfl ti_3 (by kernel_rfl) (by decide) (by decide) (rows_i l) hpb (by simp; omega) fun idm N2 hidm hm2 hle2 => ?_
        have k2 := lt_of_bnd hidm hQm
        rw [List.length_map]
        simp -implicitDefEqProofs (maxSteps := 1000000) (disch := omega) only [↓xsP, ↓vc_seq, xsQ, xsT, xsR, xsD, ↓reduceIte, reduceCtorEq, eq_self, ne_eq, imp_self, forall_const, Nat.reduceEqDiff, Nat.reduceAdd, Nat.reduceSub, Nat.reduceMul, Nat.reduceLT, Nat.reduceLeDiff, Nat.reduceBEq, Nat.reduceDiv, Nat.reduceMod, Int.reduceToNat, Int.reduceNeg, Int.reduceAdd, Int.reduceSub, Int.reduceMul, Int.reduceEq, Int.reduceNe, Int.reduceLT, Int.reduceLE, Int.reduceGT, Int.reduceGE]
        refine newI_intro fun pc hpc => ?_
        have k3 := lt_of_bnd hpc hm2
        simp -implicitDefEqProofs (maxSteps := 1000000) (disch := omega) only [↓xsP, ↓vc_seq, xsQ, xsT, xsR, xsD, ↓reduceIte, reduceCtorEq, eq_self, ne_eq, imp_self, forall_const, Nat.reduceEqDiff, Nat.reduceAdd, Nat.reduceSub, Nat.reduceMul, Nat.reduceLT, Nat.reduceLeDiff, Nat.reduceBEq, Nat.reduceDiv, Nat.reduceMod, Int.reduceToNat, Int.reduceNeg, Int.reduceAdd, Int.reduceSub, Int.reduceMul, Int.reduceEq, Int.reduceNe, Int.reduceLT, Int.reduceLE, Int.reduceGT, Int.reduceGE]
        refine app_ms _ _ _ _ 3 _ _ ti_39 rfl ti_3 (by kernel_rfl) (by decide) idm l.length _ (rows := l.map irow) (keep := 0) [irow (callsP h).length] ?_ ?_ (by simp) (Nat.zero_le _) ?_ ?_ (fun idA hidA => ?_)
        · rw [Mem.set_ne _ _ _ _ (by omega)]
          exact hm2
        · simp -implicitDefEqProofs (maxSteps := 1000000) (disch := omega) only [↓xsP, ↓vc_seq, xsQ, xsT, xsR, xsD, ↓reduceIte, reduceCtorEq, eq_self, ne_eq, imp_self, forall_const, Nat.reduceEqDiff, Nat.reduceAdd, Nat.reduceSub, Nat.reduceMul, Nat.reduceLT, Nat.reduceLeDiff, Nat.reduceBEq, Nat.reduceDiv, Nat.reduceMod, Int.reduceToNat, Int.reduceNeg, Int.reduceAdd, Int.reduceSub, Int.reduceMul, Int.reduceEq, Int.reduceNe, Int.reduceLT, Int.reduceLE, Int.reduceGT, Int.reduceGE, irow]
        · exact Nat.le_trans (Nat.mul_le_mul_right _ (show l.length + [irow ((callsP h).length : Int)].length ≤ 1000 by simp; omega)) (by decide)
        · simp
          omega
        obtain ⟨k4, hidA⟩ := bnd_new hidA
        have k5 := lt_of_bnd hidA hm2
        rw [List.take_of_length_le (show (l.map irow).length ≤ l.length by simp), show l.map irow ++ [irow ((callsP h).length : Int)] = (l ++ [((callsP h).length : Int)]).map irow by simp]
        simp -implicitDefEqProofs (maxSteps := 1000000) (disch := omega) only [↓xsP, ↓vc_seq, xsQ, xsT, xsR, xsD, ↓reduceIte, reduceCtorEq, eq_self, ne_eq, imp_self, forall_const, Nat.reduceEqDiff, Nat.reduceAdd, Nat.reduceSub, Nat.reduceMul, Nat.reduceLT, Nat.reduceLeDiff, Nat.reduceBEq, Nat.reduceDiv, Nat.reduceMod, Int.reduceToNat, Int.reduceNeg, Int.reduceAdd, Int.reduceSub, Int.reduceMul, Int.reduceEq, Int.reduceNe, Int.reduceLT, Int.reduceLE, Int.reduceGT, Int.reduceGE]
        have h3 : ∀ X Y : Blk, ∃ N3, ((N2.set pc X).del idm).set idA Y = N3 ∧ N3 idA = some Y ∧ ∀ k bk, k ≠ idm → N2 k = some bk → N3 k = some bk := fun X Y => by
          refine ⟨_, rfl, Mem.set_eq _ _ _, fun k bk hk h => ?_⟩
          have a1 := lt_of_bnd hidA h
          have a2 := lt_of_bnd hpc h
          rw [Mem.set_ne _ _ _ _ (by omega), Mem.del_ne _ _ _ (fun e => hk e.symm), Mem.set_ne _ _ _ _ (by omega)]
          exact h
        obtain ⟨N3, en3, hN3A, hN3o⟩ := h3 (.cells 3 [irow (callsP h).length] 0) (.cells 3 ((l ++ [((callsP h).length : Int)]).map irow) 0)
        rw [row_i] at en3
        rw [en3]
        refine callI_gs (GStep.frz hN3A) ?_
        have h4 : ∀ X : Blk, ∃ N4, N3.set idA X = N4 ∧ N4 idA = some X ∧ N4 pm = some (.cells 65 (m.map Evt.row) (m.map Evt.row).length) ∧ N4 p7 = some (.cells 23 [op.row] 0) ∧ M.le N4 := fun X => by
          have hA : ∀ k bk, Q2 k = some bk → N3.set idA X k = some bk := fun k bk hk => by
            have a1 := hle2 _ _ hk
            have a2 := lt_of_bnd hidA a1
            have a3 := lt_of_bnd hidm hk
            rw [Mem.set_ne _ _ _ _ (by omega)]
            exact hN3o _ _ (by omega) a1
          exact ⟨_, rfl, Mem.set_eq _ _ _, hA _ _ hQm, hA _ _ hQ7, fun k bk hk => hA _ _ (hleQ _ _ hk)⟩
        obtain ⟨N4, en4, h4A, h4m, h47, hle4⟩ := h4 (.cells 3 ((l ++ [((callsP h).length : Int)]).map irow) (max 0 ((l ++ [((callsP h).length : Int)]).map irow).length))
        rw [en4]
        clear en4 h4 en3 h3 hN3A hN3o hidA hpc hidm hpb hm2 hle2 hQm hQ7 hleQ
        rw [row_opn] at h47
        refine call_of (XCalls.rd (.cons (.inl ⟨rfl, Fast.sl _⟩) (.cons (.inr ⟨_, _, rfl, rfl, hrd h4m⟩) (.cons (.inr ⟨_, _, rfl, rfl, Rd.ms h4A (by simp) (by simp)⟩) .nil))) (ends_spec b m (l ++ [((callsP h).length : Int)]) (by omega) hsm (by omega) (by simp; omega) N4)) ?_
        simp only [e2, Option.isSome_some, Option.getD_some]
        simp -implicitDefEqProofs (maxSteps := 1000000) (disch := omega) only [↓xsP, ↓vc_seq, xsQ, xsT, xsR, xsD, ↓reduceIte, reduceCtorEq, eq_self, ne_eq, imp_self, forall_const, Nat.reduceEqDiff, Nat.reduceAdd, Nat.reduceSub, Nat.reduceMul, Nat.reduceLT, Nat.reduceLeDiff, Nat.reduceBEq, Nat.reduceDiv, Nat.reduceMod, Int.reduceToNat, Int.reduceNeg, Int.reduceAdd, Int.reduceSub, Int.reduceMul, Int.reduceEq, Int.reduceNe, Int.reduceLT, Int.reduceLE, Int.reduceGT, Int.reduceGE, h47]
        refine call_of (doR_spec sE (by omega) op _) ?_
        simp -implicitDefEqProofs (maxSteps := 1000000) (disch := omega) only [↓xsP, ↓vc_seq, xsQ, xsT, xsR, xsD, ↓reduceIte, reduceCtorEq, eq_self, ne_eq, imp_self, forall_const, Nat.reduceEqDiff, Nat.reduceAdd, Nat.reduceSub, Nat.reduceMul, Nat.reduceLT, Nat.reduceLeDiff, Nat.reduceBEq, Nat.reduceDiv, Nat.reduceMod, Int.reduceToNat, Int.reduceNeg, Int.reduceAdd, Int.reduceSub, Int.reduceMul, Int.reduceEq, Int.reduceNe, Int.reduceLT, Int.reduceLE, Int.reduceGT, Int.reduceGE]
        refine newI_intro fun id18 hid18 => ?_
        have hid18M : ∀ j, id18 ≤ j → M j = none := fun j hj => by
          cases hm : M j with
          | none => rfl
          | some bk => have := hid18 j hj; rw [hle4 _ _ hm] at this; cases this
        simp -implicitDefEqProofs (maxSteps := 1000000) (disch := omega) only [↓xsP, ↓vc_seq, xsQ, xsT, xsR, xsD, ↓reduceIte, reduceCtorEq, eq_self, ne_eq, imp_self, forall_const, Nat.reduceEqDiff, Nat.reduceAdd, Nat.reduceSub, Nat.reduceMul, Nat.reduceLT, Nat.reduceLeDiff, Nat.reduceBEq, Nat.reduceDiv, Nat.reduceMod, Int.reduceToNat, Int.reduceNeg, Int.reduceAdd, Int.reduceSub, Int.reduceMul, Int.reduceEq, Int.reduceNe, Int.reduceLT, Int.reduceLE, Int.reduceGT, Int.reduceGE]
        have hdd := doL_len sE op
        have h5m : ∀ X : Blk, (N4.set id18 X) pm = some (.cells 65 (m.map Evt.row) (m.map Evt.row).length) := fun X => by
          have := lt_of_bnd hid18 h4m
          rw [Mem.set_ne _ _ _ _ (by omega)]
          exact h4m
        refine call_of (XCalls.rd (.cons (.inl ⟨rfl, Fast.sl _⟩) (.cons (.inr ⟨_, _, rfl, rfl, hrd (h5m _)⟩) (.cons (.inl ⟨rfl, Fast.sl _⟩) .nil))) (oright_spec b m l (by omega) hsm (by omega) (by omega) _)) ?_
        simp only [e1, Option.isSome_some]
        simp -implicitDefEqProofs (maxSteps := 1000000) (disch := omega) only [↓xsP, ↓vc_seq, xsQ, xsT, xsR, xsD, ↓reduceIte, reduceCtorEq, eq_self, ne_eq, imp_self, forall_const, Nat.reduceEqDiff, Nat.reduceAdd, Nat.reduceSub, Nat.reduceMul, Nat.reduceLT, Nat.reduceLeDiff, Nat.reduceBEq, Nat.reduceDiv, Nat.reduceMod, Int.reduceToNat, Int.reduceNeg, Int.reduceAdd, Int.reduceSub, Int.reduceMul, Int.reduceEq, Int.reduceNe, Int.reduceLT, Int.reduceLE, Int.reduceGT, Int.reduceGE]
        refine call_of (samePairs_spec _ _ (by omega) _) ?_
        rw [bof_true (p := doL sE op = doL sE op) rfl]
        simp -implicitDefEqProofs (maxSteps := 1000000) (disch := omega) only [↓xsP, ↓vc_seq, xsQ, xsT, xsR, xsD, ↓reduceIte, reduceCtorEq, eq_self, ne_eq, imp_self, forall_const, Nat.reduceEqDiff, Nat.reduceAdd, Nat.reduceSub, Nat.reduceMul, Nat.reduceLT, Nat.reduceLeDiff, Nat.reduceBEq, Nat.reduceDiv, Nat.reduceMod, Int.reduceToNat, Int.reduceNeg, Int.reduceAdd, Int.reduceSub, Int.reduceMul, Int.reduceEq, Int.reduceNe, Int.reduceLT, Int.reduceLE, Int.reduceGT, Int.reduceGE]
        refine call_of (awake19_spec _) ?_
        simp -implicitDefEqProofs (maxSteps := 1000000) (disch := omega) only [↓xsP, ↓vc_seq, xsQ, xsT, xsR, xsD, ↓reduceIte, reduceCtorEq, eq_self, ne_eq, imp_self, forall_const, Nat.reduceEqDiff, Nat.reduceAdd, Nat.reduceSub, Nat.reduceMul, Nat.reduceLT, Nat.reduceLeDiff, Nat.reduceBEq, Nat.reduceDiv, Nat.reduceMod, Int.reduceToNat, Int.reduceNeg, Int.reduceAdd, Int.reduceSub, Int.reduceMul, Int.reduceEq, Int.reduceNe, Int.reduceLT, Int.reduceLE, Int.reduceGT, Int.reduceGE]
        exact fin_ok (le_new hle4 hid18M) ⟨rfl, rfl⟩
end Go.X
