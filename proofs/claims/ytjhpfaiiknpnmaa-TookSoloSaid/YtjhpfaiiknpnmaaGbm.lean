/- Witnesses: Call, Ret. -/
import Derived.Test.YtjhpfaiiknpnmaaGam
import Derived.Test.YtjhpfaiiknpnmaaZ5
set_option linter.unusedVariables false
set_option linter.unusedSimpArgs false
set_option maxHeartbeats 20000000
set_option maxRecDepth 100000
namespace Go.X
open Go.Proofs.Try (prog)

theorem works_len : ∀ (ws : List Wk), ((ws.map Wk.row).flatten).length = 13 * ws.length
  | [] => rfl
  | w :: ws => by
    have := works_len ws
    rw [List.map_cons, List.flatten_cons, List.length_append, this, List.length_cons]
    simp only [Wk.row, List.length_cons, List.length_nil]
    omega
theorem w_len {W : Wit} {mid : Nat} {o : Lf} (h : W.ws.length = 6) : (wRow mid o W).length = 81 := by
  rw [wRow, List.length_cons, List.length_append, works_len, h]
  rfl
theorem w_tail {W : Wit} {mid : Nat} {o : Lf} (h : W.ws.length = 6) : (wRow mid o W).drop 79 = [.int .i64 W.calls, o] := by
  rw [wRow, show 79 = 78 + 1 from rfl, List.drop_succ_cons, List.drop_left' (by rw [works_len, h])]
theorem w_head {W : Wit} {mid : Nat} {o : Lf} (h : W.ws.length = 6) : (wRow mid o W).take 79 = .ptr mid 0 0 :: (W.ws.map Wk.row).flatten := by
  rw [wRow, show 79 = 78 + 1 from rfl, List.take_succ_cons, List.take_left' (by rw [works_len, h])]
theorem works_set : ∀ (ws : List Wk) (t : Nat) (w : Wk) (r : List Lf), t < ws.length → ((ws.map Wk.row).flatten ++ r).take (t * 13) ++ w.row ++ ((ws.map Wk.row).flatten ++ r).drop (t * 13 + 13) = ((ws.set t w).map Wk.row).flatten ++ r
  | [], t, _, r, ht => by simp at ht
  | x :: ws, 0, w, r, _ => by simp [Wk.row]
  | x :: ws, t + 1, w, r, ht => by
    have ih := works_set ws t w r (by simpa using ht)
    have e : (t + 1) * 13 = t * 13 + 1 + 1 + 1 + 1 + 1 + 1 + 1 + 1 + 1 + 1 + 1 + 1 + 1 := by omega
    rw [e]
    simpa [Wk.row] using ih
theorem w_set {W : Wit} {mid : Nat} {o : Lf} {t : Nat} (ht : t < W.ws.length) (w : Wk) : (wRow mid o W).take (1 + t * 13) ++ w.row ++ (wRow mid o W).drop (1 + t * 13 + 13) = wRow mid o { W with ws := W.ws.set t w } := by
  rw [wRow, wRow, show 1 + t * 13 = (t * 13) + 1 by omega, List.take_succ_cons, show t * 13 + 1 + 13 = (t * 13 + 13) + 1 by omega, List.drop_succ_cons]
  have := works_set W.ws t w [.int .i64 W.calls, o] ht
  simp only [List.cons_append]
  rw [this]
theorem w_calls {W : Wit} {mid : Nat} {o : Lf} (h : W.ws.length = 6) (n : Nat) : (wRow mid o W).take 79 ++ [.int .i64 n] ++ (wRow mid o W).drop 80 = wRow mid o { W with calls := n } := by
  rw [w_head h, show 80 = 79 + 1 from rfl, ← List.drop_drop, w_tail h, wRow]
  simp
theorem WIn.upd {B M N : Mem} {id mid : Nat} {o : Lf} {W V : Wit} (h : WIn B M id mid o W) (hN : N id = some (wB mid o V)) (hk : ∀ k bk, k ≠ id → M k = some bk → N k = some bk) (h6 : V.ws.length = 6) (hs : V.s = W.s) (ho : V.ord = W.ord) : WIn B N id mid o V := by
  have hB : ∀ k, B k ≠ none → k ≠ id := fun k hk e => hk (e ▸ h.nid)
  refine ⟨fun k bk hb => hk _ _ (hB _ (by rw [hb]; simp)) (h.le _ _ hb), h.nid, h.nmid, h.ne, h6, hN, by rw [hs]; exact hk _ _ h.ne h.map, ?_⟩
  rw [ho]
  rcases h.ord with h | ⟨idO, a1, a2, a3, a4, a5⟩
  · exact .inl h
  · exact .inr ⟨idO, a1, a2, a3, a4, hk _ _ a2 a5⟩
def callW (W : Wit) (t : Nat) (op : Opn) : Wit := { W with ws := W.ws.set t ⟨true, op, W.calls, false, ans0⟩, calls := W.calls + 1 }
def canCall (W : Wit) (t : Nat) (op : Opn) : Bool := !(W.ws.getD t default).busy && mayOpB op
theorem call_nil (t : Int) (op : Opn) (M : Mem) : XCalls Go.Proofs.Try.prog 14 [.l .nilp, .l (.int .i64 t), .agg op.row] M fun r M' => r = .l (.bool false) ∧ M' = M := by
  refine xcalls_intro (rs := [.tmp 6]) Go.Proofs.Try.func14 rfl (by kernel_rfl) rfl rfl (by kernel_rfl) (by simp) ?_
  simp -implicitDefEqProofs (maxSteps := 1000000) (disch := omega) only [↓xsP, ↓vc_seq, xsQ, xsT, xsR, xsD, ↓reduceIte, reduceCtorEq, eq_self, ne_eq, imp_self, forall_const, Nat.reduceEqDiff, Nat.reduceAdd, Nat.reduceSub, Nat.reduceMul, Nat.reduceLT, Nat.reduceLeDiff, Nat.reduceBEq, Nat.reduceDiv, Nat.reduceMod, Int.reduceToNat, Int.reduceNeg, Int.reduceAdd, Int.reduceSub, Int.reduceMul, Int.reduceEq, Int.reduceNe, Int.reduceLT, Int.reduceLE, Int.reduceGT, Int.reduceGE]
  refine newI_intro fun id hid => ?_
  simp -implicitDefEqProofs (maxSteps := 1000000) (disch := omega) only [↓xsP, ↓vc_seq, xsQ, xsT, xsR, xsD, ↓reduceIte, reduceCtorEq, eq_self, ne_eq, imp_self, forall_const, Nat.reduceEqDiff, Nat.reduceAdd, Nat.reduceSub, Nat.reduceMul, Nat.reduceLT, Nat.reduceLeDiff, Nat.reduceBEq, Nat.reduceDiv, Nat.reduceMod, Int.reduceToNat, Int.reduceNeg, Int.reduceAdd, Int.reduceSub, Int.reduceMul, Int.reduceEq, Int.reduceNe, Int.reduceLT, Int.reduceLE, Int.reduceGT, Int.reduceGE]
  refine call_of (at_nil t _) ?_
  simp -implicitDefEqProofs (maxSteps := 1000000) (disch := omega) only [↓xsP, ↓vc_seq, xsQ, xsT, xsR, xsD, ↓reduceIte, reduceCtorEq, eq_self, ne_eq, imp_self, forall_const, Nat.reduceEqDiff, Nat.reduceAdd, Nat.reduceSub, Nat.reduceMul, Nat.reduceLT, Nat.reduceLeDiff, Nat.reduceBEq, Nat.reduceDiv, Nat.reduceMod, Int.reduceToNat, Int.reduceNeg, Int.reduceAdd, Int.reduceSub, Int.reduceMul, Int.reduceEq, Int.reduceNe, Int.reduceLT, Int.reduceLE, Int.reduceGT, Int.reduceGE]
  exact fin_ok (le_new (Mem.le_refl _) hid) ⟨rfl, rfl⟩
theorem call_out (id : Nat) (t : Int) (op : Opn) (M : Mem) (h : t < 0 ∨ 6 ≤ t) : XCalls Go.Proofs.Try.prog 14 [.l (.ptr id 0 0), .l (.int .i64 t), .agg op.row] M fun r M' => r = .l (.bool false) ∧ M' = M := by
  refine xcalls_intro (rs := [.tmp 6]) Go.Proofs.Try.func14 rfl (by kernel_rfl) rfl rfl (by kernel_rfl) (by simp) ?_
  simp -implicitDefEqProofs (maxSteps := 1000000) (disch := omega) only [↓xsP, ↓vc_seq, xsQ, xsT, xsR, xsD, ↓reduceIte, reduceCtorEq, eq_self, ne_eq, imp_self, forall_const, Nat.reduceEqDiff, Nat.reduceAdd, Nat.reduceSub, Nat.reduceMul, Nat.reduceLT, Nat.reduceLeDiff, Nat.reduceBEq, Nat.reduceDiv, Nat.reduceMod, Int.reduceToNat, Int.reduceNeg, Int.reduceAdd, Int.reduceSub, Int.reduceMul, Int.reduceEq, Int.reduceNe, Int.reduceLT, Int.reduceLE, Int.reduceGT, Int.reduceGE]
  refine newI_intro fun id hid => ?_
  simp -implicitDefEqProofs (maxSteps := 1000000) (disch := omega) only [↓xsP, ↓vc_seq, xsQ, xsT, xsR, xsD, ↓reduceIte, reduceCtorEq, eq_self, ne_eq, imp_self, forall_const, Nat.reduceEqDiff, Nat.reduceAdd, Nat.reduceSub, Nat.reduceMul, Nat.reduceLT, Nat.reduceLeDiff, Nat.reduceBEq, Nat.reduceDiv, Nat.reduceMod, Int.reduceToNat, Int.reduceNeg, Int.reduceAdd, Int.reduceSub, Int.reduceMul, Int.reduceEq, Int.reduceNe, Int.reduceLT, Int.reduceLE, Int.reduceGT, Int.reduceGE]
  refine call_of (at_out _ t _ h) ?_
  simp -implicitDefEqProofs (maxSteps := 1000000) (disch := omega) only [↓xsP, ↓vc_seq, xsQ, xsT, xsR, xsD, ↓reduceIte, reduceCtorEq, eq_self, ne_eq, imp_self, forall_const, Nat.reduceEqDiff, Nat.reduceAdd, Nat.reduceSub, Nat.reduceMul, Nat.reduceLT, Nat.reduceLeDiff, Nat.reduceBEq, Nat.reduceDiv, Nat.reduceMod, Int.reduceToNat, Int.reduceNeg, Int.reduceAdd, Int.reduceSub, Int.reduceMul, Int.reduceEq, Int.reduceNe, Int.reduceLT, Int.reduceLE, Int.reduceGT, Int.reduceGE]
  exact fin_ok (le_new (Mem.le_refl _) hid) ⟨rfl, rfl⟩
theorem call_in {B M : Mem} {id mid : Nat} {o : Lf} {W : Wit} (hW : WIn B M id mid o W) (hc : W.calls ≤ 1000000) (t : Nat) (ht : t < 6) (op : Opn) :
    XCalls Go.Proofs.Try.prog 14 [.l (.ptr id 0 0), .l (.int .i64 t), .agg op.row] M fun r M' => r = .l (.bool (canCall W t op)) ∧ WIn B M' id mid o (if canCall W t op = true then callW W t op else W) := by
  refine xcalls_intro (rs := [.tmp 6]) Go.Proofs.Try.func14 rfl (by kernel_rfl) rfl rfl (by kernel_rfl) (by simp) ?_
  have hM := hW.own
  rw [wB] at hM
  have ht6 : t < W.ws.length := by have := hW.six; omega
  have hd := w_drop (W := W) (mid := mid) (o := o) ht6
  rw [row_wk] at hd
  simp -implicitDefEqProofs (maxSteps := 1000000) (disch := omega) only [↓xsP, ↓vc_seq, xsQ, xsT, xsR, xsD, ↓reduceIte, reduceCtorEq, eq_self, ne_eq, imp_self, forall_const, Nat.reduceEqDiff, Nat.reduceAdd, Nat.reduceSub, Nat.reduceMul, Nat.reduceLT, Nat.reduceLeDiff, Nat.reduceBEq, Nat.reduceDiv, Nat.reduceMod, Int.reduceToNat, Int.reduceNeg, Int.reduceAdd, Int.reduceSub, Int.reduceMul, Int.reduceEq, Int.reduceNe, Int.reduceLT, Int.reduceLE, Int.reduceGT, Int.reduceGE]
  refine newI_intro fun id5 hid5 => ?_
  have k5 := lt_of_bnd hid5 hM
  simp -implicitDefEqProofs (maxSteps := 1000000) (disch := omega) only [↓xsP, ↓vc_seq, xsQ, xsT, xsR, xsD, ↓reduceIte, reduceCtorEq, eq_self, ne_eq, imp_self, forall_const, Nat.reduceEqDiff, Nat.reduceAdd, Nat.reduceSub, Nat.reduceMul, Nat.reduceLT, Nat.reduceLeDiff, Nat.reduceBEq, Nat.reduceDiv, Nat.reduceMod, Int.reduceToNat, Int.reduceNeg, Int.reduceAdd, Int.reduceSub, Int.reduceMul, Int.reduceEq, Int.reduceNe, Int.reduceLT, Int.reduceLE, Int.reduceGT, Int.reduceGE]
  refine call_of (at_in id t _ ht) ?_
  have hM2 : (M.set id5 (.cells 23 [op.row] 0)) id = some (.cells 83 [wRow mid o W] 0) := by rw [Mem.set_ne _ _ _ _ (by omega)]; exact hM
  have hno : ∀ X : Blk, WIn B (M.set id5 X) id mid o W := fun X => by
    have keep : ∀ k bk, M k = some bk → (M.set id5 X) k = some bk := fun k bk hk => by
      have := lt_of_bnd hid5 hk
      rw [Mem.set_ne _ _ _ _ (by omega)]
      exact hk
    refine ⟨fun k bk hk => keep _ _ (hW.le _ _ hk), hW.nid, hW.nmid, hW.ne, hW.six, keep _ _ hW.own, keep _ _ hW.map, ?_⟩
    rcases hW.ord with h | ⟨idO, a1, a2, a3, a4, a5⟩
    · exact .inl h
    · exact .inr ⟨idO, a1, a2, a3, a4, keep _ _ a5⟩
  rw [row_opn] at hM2
  simp -implicitDefEqProofs (maxSteps := 1000000) (disch := omega) only [↓xsP, ↓vc_seq, xsQ, xsT, xsR, xsD, ↓reduceIte, reduceCtorEq, eq_self, ne_eq, imp_self, forall_const, Nat.reduceEqDiff, Nat.reduceAdd, Nat.reduceSub, Nat.reduceMul, Nat.reduceLT, Nat.reduceLeDiff, Nat.reduceBEq, Nat.reduceDiv, Nat.reduceMod, Int.reduceToNat, Int.reduceNeg, Int.reduceAdd, Int.reduceSub, Int.reduceMul, Int.reduceEq, Int.reduceNe, Int.reduceLT, Int.reduceLE, Int.reduceGT, Int.reduceGE, hM, hd]
  cases hb : (W.ws.getD t default).busy with
  | true =>
    simp -implicitDefEqProofs (maxSteps := 1000000) (disch := omega) only [↓xsP, ↓vc_seq, xsQ, xsT, xsR, xsD, ↓reduceIte, reduceCtorEq, eq_self, ne_eq, imp_self, forall_const, Nat.reduceEqDiff, Nat.reduceAdd, Nat.reduceSub, Nat.reduceMul, Nat.reduceLT, Nat.reduceLeDiff, Nat.reduceBEq, Nat.reduceDiv, Nat.reduceMod, Int.reduceToNat, Int.reduceNeg, Int.reduceAdd, Int.reduceSub, Int.reduceMul, Int.reduceEq, Int.reduceNe, Int.reduceLT, Int.reduceLE, Int.reduceGT, Int.reduceGE]
    refine fin_ok (Mem.le_refl _) ?_
    rw [canCall, hb]
    exact ⟨rfl, hno _⟩
  | false =>
    simp -implicitDefEqProofs (maxSteps := 1000000) (disch := omega) only [↓xsP, ↓vc_seq, xsQ, xsT, xsR, xsD, ↓reduceIte, reduceCtorEq, eq_self, ne_eq, imp_self, forall_const, Nat.reduceEqDiff, Nat.reduceAdd, Nat.reduceSub, Nat.reduceMul, Nat.reduceLT, Nat.reduceLeDiff, Nat.reduceBEq, Nat.reduceDiv, Nat.reduceMod, Int.reduceToNat, Int.reduceNeg, Int.reduceAdd, Int.reduceSub, Int.reduceMul, Int.reduceEq, Int.reduceNe, Int.reduceLT, Int.reduceLE, Int.reduceGT, Int.reduceGE]
    refine call_of (mayOp_spec op _) ?_
    cases hmo : mayOpB op with
    | false =>
      simp -implicitDefEqProofs (maxSteps := 1000000) (disch := omega) only [↓xsP, ↓vc_seq, xsQ, xsT, xsR, xsD, ↓reduceIte, reduceCtorEq, eq_self, ne_eq, imp_self, forall_const, Nat.reduceEqDiff, Nat.reduceAdd, Nat.reduceSub, Nat.reduceMul, Nat.reduceLT, Nat.reduceLeDiff, Nat.reduceBEq, Nat.reduceDiv, Nat.reduceMod, Int.reduceToNat, Int.reduceNeg, Int.reduceAdd, Int.reduceSub, Int.reduceMul, Int.reduceEq, Int.reduceNe, Int.reduceLT, Int.reduceLE, Int.reduceGT, Int.reduceGE]
      refine fin_ok (Mem.le_refl _) ?_
      rw [canCall, hb, hmo]
      exact ⟨rfl, hno _⟩
    | true =>
      simp -implicitDefEqProofs (maxSteps := 1000000) (disch := omega) only [↓xsP, ↓vc_seq, xsQ, xsT, xsR, xsD, ↓reduceIte, reduceCtorEq, eq_self, ne_eq, imp_self, forall_const, Nat.reduceEqDiff, Nat.reduceAdd, Nat.reduceSub, Nat.reduceMul, Nat.reduceLT, Nat.reduceLeDiff, Nat.reduceBEq, Nat.reduceDiv, Nat.reduceMod, Int.reduceToNat, Int.reduceNeg, Int.reduceAdd, Int.reduceSub, Int.reduceMul, Int.reduceEq, Int.reduceNe, Int.reduceLT, Int.reduceLE, Int.reduceGT, Int.reduceGE]
      have htl := w_tail (W := W) (mid := mid) (o := o) hW.six
      have hln := w_len (W := W) (mid := mid) (o := o) hW.six
      have hso := w_set (W := W) (mid := mid) (o := o) ht6 ⟨true, op, W.calls, false, ans0⟩
      rw [row_wk] at hso
      simp only [Bool.false_eq_true, if_false, ans0] at hso
      have hle1 : (1 + t * 13 + 13 ≤ 81) = True := eq_true (by omega)
      refine xwrite (fun n0 => [ (8, id)]) [8] [] [[], [], [], [], [], [], [], [], []] (by kernel_rfl) (by kernel_rfl) (by kernel_rfl) (by kernel_rfl) (fun n0 hn0 => ⟨rfl, ?_, ?_⟩)
      · exact TOk_cons (.inl (by have := lt_of_bnd hn0 (Mem.set_eq _ id5 _); omega)) (TOk_nil _ _)
      · have k0 := lt_of_bnd hn0 (Mem.set_eq _ id5 _)
        simp -implicitDefEqProofs (maxSteps := 1000000) (disch := omega) only [↓xsP, ↓vc_seq, xsQ, xsT, xsR, xsD, ↓reduceIte, reduceCtorEq, eq_self, ne_eq, imp_self, forall_const, Nat.reduceEqDiff, Nat.reduceAdd, Nat.reduceSub, Nat.reduceMul, Nat.reduceLT, Nat.reduceLeDiff, Nat.reduceBEq, Nat.reduceDiv, Nat.reduceMod, Int.reduceToNat, Int.reduceNeg, Int.reduceAdd, Int.reduceSub, Int.reduceMul, Int.reduceEq, Int.reduceNe, Int.reduceLT, Int.reduceLE, Int.reduceGT, Int.reduceGE, hM, hd, htl, hln, hle1]
        rw [hso]
        obtain ⟨V, hV⟩ : ∃ V : Wit, V = { W with ws := W.ws.set t ⟨true, op, W.calls, false, ⟨0, false, ⟨0, 0⟩, 0, []⟩⟩ } := ⟨_, rfl⟩
        rw [← hV]
        have hV6 : V.ws.length = 6 := by rw [hV]; simpa using hW.six
        have hVc : V.calls = W.calls := by rw [hV]
        have htl' := w_tail (W := V) (mid := mid) (o := o) hV6
        have hln' := w_len (W := V) (mid := mid) (o := o) hV6
        have wc : IntKind.i64.wrap ((W.calls : Int) + 1) = (W.calls : Int) + 1 := wrap_in (by omega) (by omega)
        rw [hVc] at htl'
        simp -implicitDefEqProofs (maxSteps := 1000000) (disch := omega) only [↓xsP, ↓vc_seq, xsQ, xsT, xsR, xsD, ↓reduceIte, reduceCtorEq, eq_self, ne_eq, imp_self, forall_const, Nat.reduceEqDiff, Nat.reduceAdd, Nat.reduceSub, Nat.reduceMul, Nat.reduceLT, Nat.reduceLeDiff, Nat.reduceBEq, Nat.reduceDiv, Nat.reduceMod, Int.reduceToNat, Int.reduceNeg, Int.reduceAdd, Int.reduceSub, Int.reduceMul, Int.reduceEq, Int.reduceNe, Int.reduceLT, Int.reduceLE, Int.reduceGT, Int.reduceGE, htl', hln', wc]
        have ewc := w_calls (W := V) (mid := mid) (o := o) hV6 (W.calls + 1)
        rw [show (((W.calls + 1 : Nat) : Int)) = (W.calls : Int) + 1 by omega] at ewc
        rw [ewc]
        refine fin_ok (Mem.le_refl _) ?_
        have hcc : canCall W t op = true := by rw [canCall, hb, hmo]; rfl
        rw [hcc]
        refine ⟨rfl, hW.upd (by rw [Mem.set_eq, wB, hV]; rfl) (fun k bk hk h => ?_) (by simpa [callW] using hW.six) rfl rfl⟩
        have := lt_of_bnd hid5 h
        rw [Mem.set_ne _ _ _ _ (fun e => hk e.symm), Mem.set_ne _ _ _ _ (by omega)]
        exact h
end Go.X
