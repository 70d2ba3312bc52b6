/- Witnesses: what they are; New, at, Busy. -/
import Derived.Test.YtjhpfaiiknpnmaaOim
import Derived.Test.YtjhpfaiiknpnmaaZ5
set_option linter.unusedVariables false
set_option linter.unusedSimpArgs false
set_option maxHeartbeats 20000000
set_option maxRecDepth 100000
namespace Go.X
open Go.Proofs.Try (prog)

structure Wk where
  busy : Bool
  op : Opn
  call : Int
  took : Bool
  ans : Ans
  deriving DecidableEq, Inhabited
def Wk.row (w : Wk) : List Lf := [.bool w.busy, .int .i64 w.op.kind, .int .i64 w.op.key, .int .i64 w.op.to, .int .i64 w.op.val, .int .i64 w.call, .bool w.took, .int .i64 w.ans.err, .bool w.ans.ok, .int .i64 w.ans.pair.key, .int .i64 w.ans.pair.val, .int .i64 w.ans.n, if w.took = true then .sl (w.ans.pairs.map Pr.row) else .nils]
def wk0 : Wk := ⟨false, ⟨0, 0, 0, 0⟩, 0, false, ans0⟩
structure Wit where
  s : List Pr
  ws : List Wk
  calls : Nat
  ord : List Int
def wRow (mid : Nat) (o : Lf) (W : Wit) : List Lf := .ptr mid 0 0 :: ((W.ws.map Wk.row).flatten ++ [.int .i64 W.calls, o])
def wB (mid : Nat) (o : Lf) (W : Wit) : Blk := .cells 83 [wRow mid o W] 0
/-- A witness stands in the memory, beside what the caller keeps. -/
structure WIn (B M : Mem) (id mid : Nat) (o : Lf) (W : Wit) : Prop where
  le : B.le M
  nid : B id = none
  nmid : B mid = none
  ne : mid ≠ id
  six : W.ws.length = 6
  own : M id = some (wB mid o W)
  map : M mid = some (mapB W.s)
  ord : (W.ord = [] ∧ o = .nils) ∨ ∃ idO, B idO = none ∧ idO ≠ id ∧ idO ≠ mid ∧ o = .ms idO 0 W.ord.length ∧ M idO = some (.cells 3 (W.ord.map irow) 0)
theorem works_drop : ∀ (ws : List Wk) (t : Nat) (r : List Lf), t < ws.length → ((ws.map Wk.row).flatten ++ r).drop (t * 13) = (ws.getD t default).row ++ ((ws.map Wk.row).flatten ++ r).drop (t * 13 + 13)
  | [], t, r, ht => by simp at ht
  | w :: ws, 0, r, _ => by simp [Wk.row]
  | w :: ws, t + 1, r, ht => by
    have ih := works_drop ws t r (by simpa using ht)
    have e : (t + 1) * 13 = t * 13 + 1 + 1 + 1 + 1 + 1 + 1 + 1 + 1 + 1 + 1 + 1 + 1 + 1 := by omega
    rw [e]
    simpa [Wk.row] using ih
theorem w_drop {W : Wit} {mid : Nat} {o : Lf} {t : Nat} (ht : t < W.ws.length) : (wRow mid o W).drop (1 + t * 13) = (W.ws.getD t default).row ++ (wRow mid o W).drop (1 + t * 13 + 13) := by
  rw [wRow, show 1 + t * 13 = (t * 13) + 1 by omega, List.drop_succ_cons, works_drop _ _ _ ht, show t * 13 + 1 + 13 = (t * 13 + 13) + 1 by omega, List.drop_succ_cons]

theorem at_nil (t : Int) (M : Mem) : XCalls Go.Proofs.Try.prog 39 [.l .nilp, .l (.int .i64 t)] M fun r M' => r = .l .nilp ∧ M' = M := by
  refine xcalls_intro (rs := [.tmp 4]) Go.Proofs.Try.func39 rfl (by kernel_rfl) rfl rfl (by kernel_rfl) (by simp) ?_
  simp -implicitDefEqProofs (maxSteps := 1000000) (disch := omega) only [↓xsP, ↓vc_seq, xsQ, xsT, xsR, xsD, ↓reduceIte, reduceCtorEq, eq_self, ne_eq, imp_self, forall_const, Nat.reduceEqDiff, Nat.reduceAdd, Nat.reduceSub, Nat.reduceMul, Nat.reduceLT, Nat.reduceLeDiff, Nat.reduceBEq, Nat.reduceDiv, Nat.reduceMod, Int.reduceToNat, Int.reduceNeg, Int.reduceAdd, Int.reduceSub, Int.reduceMul, Int.reduceEq, Int.reduceNe, Int.reduceLT, Int.reduceLE, Int.reduceGT, Int.reduceGE]
  exact fin_ok (Mem.le_refl _) ⟨rfl, rfl⟩
theorem at_out (id : Nat) (t : Int) (M : Mem) (h : t < 0 ∨ 6 ≤ t) : XCalls Go.Proofs.Try.prog 39 [.l (.ptr id 0 0), .l (.int .i64 t)] M fun r M' => r = .l .nilp ∧ M' = M := by
  refine xcalls_intro (rs := [.tmp 4]) Go.Proofs.Try.func39 rfl (by kernel_rfl) rfl rfl (by kernel_rfl) (by simp) ?_
  simp -implicitDefEqProofs (maxSteps := 1000000) (disch := omega) only [↓xsP, ↓vc_seq, xsQ, xsT, xsR, xsD, ↓reduceIte, reduceCtorEq, eq_self, ne_eq, imp_self, forall_const, Nat.reduceEqDiff, Nat.reduceAdd, Nat.reduceSub, Nat.reduceMul, Nat.reduceLT, Nat.reduceLeDiff, Nat.reduceBEq, Nat.reduceDiv, Nat.reduceMod, Int.reduceToNat, Int.reduceNeg, Int.reduceAdd, Int.reduceSub, Int.reduceMul, Int.reduceEq, Int.reduceNe, Int.reduceLT, Int.reduceLE, Int.reduceGT, Int.reduceGE]
  refine gI_prop_f (fun h1 => ?_) (fun h1 => ?_)
  · simp -implicitDefEqProofs (maxSteps := 1000000) (disch := omega) only [↓xsP, ↓vc_seq, xsQ, xsT, xsR, xsD, ↓reduceIte, reduceCtorEq, eq_self, ne_eq, imp_self, forall_const, Nat.reduceEqDiff, Nat.reduceAdd, Nat.reduceSub, Nat.reduceMul, Nat.reduceLT, Nat.reduceLeDiff, Nat.reduceBEq, Nat.reduceDiv, Nat.reduceMod, Int.reduceToNat, Int.reduceNeg, Int.reduceAdd, Int.reduceSub, Int.reduceMul, Int.reduceEq, Int.reduceNe, Int.reduceLT, Int.reduceLE, Int.reduceGT, Int.reduceGE, h1]
    refine condI_prop (fun h2 => ?_) (fun h2 => ?_)
    · simp -implicitDefEqProofs (maxSteps := 1000000) (disch := omega) only [↓xsP, ↓vc_seq, xsQ, xsT, xsR, xsD, ↓reduceIte, reduceCtorEq, eq_self, ne_eq, imp_self, forall_const, Nat.reduceEqDiff, Nat.reduceAdd, Nat.reduceSub, Nat.reduceMul, Nat.reduceLT, Nat.reduceLeDiff, Nat.reduceBEq, Nat.reduceDiv, Nat.reduceMod, Int.reduceToNat, Int.reduceNeg, Int.reduceAdd, Int.reduceSub, Int.reduceMul, Int.reduceEq, Int.reduceNe, Int.reduceLT, Int.reduceLE, Int.reduceGT, Int.reduceGE]
      exact fin_ok (Mem.le_refl _) ⟨rfl, rfl⟩
    · omega
  · simp -implicitDefEqProofs (maxSteps := 1000000) (disch := omega) only [↓xsP, ↓vc_seq, xsQ, xsT, xsR, xsD, ↓reduceIte, reduceCtorEq, eq_self, ne_eq, imp_self, forall_const, Nat.reduceEqDiff, Nat.reduceAdd, Nat.reduceSub, Nat.reduceMul, Nat.reduceLT, Nat.reduceLeDiff, Nat.reduceBEq, Nat.reduceDiv, Nat.reduceMod, Int.reduceToNat, Int.reduceNeg, Int.reduceAdd, Int.reduceSub, Int.reduceMul, Int.reduceEq, Int.reduceNe, Int.reduceLT, Int.reduceLE, Int.reduceGT, Int.reduceGE, h1]
    exact fin_ok (Mem.le_refl _) ⟨rfl, rfl⟩
theorem at_in (id t : Nat) (M : Mem) (ht : t < 6) : XCalls Go.Proofs.Try.prog 39 [.l (.ptr id 0 0), .l (.int .i64 t)] M fun r M' => r = .l (.ptr id 0 (1 + t * 13)) ∧ M' = M := by
  refine xcalls_intro (rs := [.tmp 4]) Go.Proofs.Try.func39 rfl (by kernel_rfl) rfl rfl (by kernel_rfl) (by simp) ?_
  have h1 : ¬ ((t : Int) < 0) := by omega
  have h2 : ¬ ((t : Int) ≥ 6) := by omega
  have h3 : (0 ≤ (t : Int) ∧ (t : Int) < ((6 : Nat) : Int)) = True := eq_true (by omega)
  simp -implicitDefEqProofs (maxSteps := 1000000) (disch := omega) only [↓xsP, ↓vc_seq, xsQ, xsT, xsR, xsD, ↓reduceIte, reduceCtorEq, eq_self, ne_eq, imp_self, forall_const, Nat.reduceEqDiff, Nat.reduceAdd, Nat.reduceSub, Nat.reduceMul, Nat.reduceLT, Nat.reduceLeDiff, Nat.reduceBEq, Nat.reduceDiv, Nat.reduceMod, Int.reduceToNat, Int.reduceNeg, Int.reduceAdd, Int.reduceSub, Int.reduceMul, Int.reduceEq, Int.reduceNe, Int.reduceLT, Int.reduceLE, Int.reduceGT, Int.reduceGE, h1, h2]
  rw [if_pos ⟨by omega, by omega⟩]
  simp -implicitDefEqProofs (maxSteps := 1000000) (disch := omega) only [↓xsP, ↓vc_seq, xsQ, xsT, xsR, xsD, ↓reduceIte, reduceCtorEq, eq_self, ne_eq, imp_self, forall_const, Nat.reduceEqDiff, Nat.reduceAdd, Nat.reduceSub, Nat.reduceMul, Nat.reduceLT, Nat.reduceLeDiff, Nat.reduceBEq, Nat.reduceDiv, Nat.reduceMod, Int.reduceToNat, Int.reduceNeg, Int.reduceAdd, Int.reduceSub, Int.reduceMul, Int.reduceEq, Int.reduceNe, Int.reduceLT, Int.reduceLE, Int.reduceGT, Int.reduceGE]
  exact fin_ok (Mem.le_refl _) ⟨rfl, rfl⟩
theorem wnew_spec (b : List Pr) (hb : b.length ≤ 1000000) (M : Mem) : XCalls Go.Proofs.Try.prog 21 [.l (.sl (b.map Pr.row))] M fun r M' => ∃ id mid, r = .l (.ptr id 0 0) ∧ WIn M M' id mid .nils ⟨putL b, List.replicate 6 wk0, 0, []⟩ := by
  refine xcalls_intro (rs := [.tmp 2]) Go.Proofs.Try.func21 rfl (by kernel_rfl) rfl rfl (by kernel_rfl) (by simp) ?_
  simp -implicitDefEqProofs (maxSteps := 1000000) (disch := omega) only [↓xsP, ↓vc_seq, xsQ, xsT, xsR, xsD, ↓reduceIte, reduceCtorEq, eq_self, ne_eq, imp_self, forall_const, Nat.reduceEqDiff, Nat.reduceAdd, Nat.reduceSub, Nat.reduceMul, Nat.reduceLT, Nat.reduceLeDiff, Nat.reduceBEq, Nat.reduceDiv, Nat.reduceMod, Int.reduceToNat, Int.reduceNeg, Int.reduceAdd, Int.reduceSub, Int.reduceMul, Int.reduceEq, Int.reduceNe, Int.reduceLT, Int.reduceLE, Int.reduceGT, Int.reduceGE]
  refine callI_of ((new_spec b hb _).mono ?_)
  rintro _ _ ⟨mid, hmid, rfl, rfl⟩
  simp -implicitDefEqProofs (maxSteps := 1000000) (disch := omega) only [↓xsP, ↓vc_seq, xsQ, xsT, xsR, xsD, ↓reduceIte, reduceCtorEq, eq_self, ne_eq, imp_self, forall_const, Nat.reduceEqDiff, Nat.reduceAdd, Nat.reduceSub, Nat.reduceMul, Nat.reduceLT, Nat.reduceLeDiff, Nat.reduceBEq, Nat.reduceDiv, Nat.reduceMod, Int.reduceToNat, Int.reduceNeg, Int.reduceAdd, Int.reduceSub, Int.reduceMul, Int.reduceEq, Int.reduceNe, Int.reduceLT, Int.reduceLE, Int.reduceGT, Int.reduceGE]
  refine newI_intro fun id hid => ?_
  obtain ⟨k1, hid'⟩ := bnd_new hid
  simp -implicitDefEqProofs (maxSteps := 1000000) (disch := omega) only [↓xsP, ↓vc_seq, xsQ, xsT, xsR, xsD, ↓reduceIte, reduceCtorEq, eq_self, ne_eq, imp_self, forall_const, Nat.reduceEqDiff, Nat.reduceAdd, Nat.reduceSub, Nat.reduceMul, Nat.reduceLT, Nat.reduceLeDiff, Nat.reduceBEq, Nat.reduceDiv, Nat.reduceMod, Int.reduceToNat, Int.reduceNeg, Int.reduceAdd, Int.reduceSub, Int.reduceMul, Int.reduceEq, Int.reduceNe, Int.reduceLT, Int.reduceLE, Int.reduceGT, Int.reduceGE]
  refine fin_ok (Mem.le_refl _) ⟨id, mid, rfl, le_new (le_new (Mem.le_refl _) hmid) hid', hid' _ (Nat.le_refl _), hmid _ (Nat.le_refl _), by omega, rfl, ?_, ?_, .inl ⟨rfl, rfl⟩⟩
  · rw [Mem.set_eq]
    rfl
  · rw [Mem.set_ne _ _ _ _ (by omega), Mem.set_eq]
theorem row_wk (w : Wk) : w.row = [.bool w.busy, .int .i64 w.op.kind, .int .i64 w.op.key, .int .i64 w.op.to, .int .i64 w.op.val, .int .i64 w.call, .bool w.took, .int .i64 w.ans.err, .bool w.ans.ok, .int .i64 w.ans.pair.key, .int .i64 w.ans.pair.val, .int .i64 w.ans.n, if w.took = true then .sl (w.ans.pairs.map Pr.row) else .nils] := rfl
theorem neq_nil2 (P : Program) (t : TypeId) (x : Operand) (K : AV → Prop) : @binI P .neq t x (.const (.pointer none)) (.l .nilp) (.l .nilp) ⟨K⟩ = @optI _ (eqA P t (.l .nilp) (.l .nilp)) ⟨fun r => K (.l (.bool (!r)))⟩ := neq_nilp P t x _ _ rfl (fun _ _ h => by cases h) K
theorem busy_nil (t : Int) (M : Mem) : XCalls Go.Proofs.Try.prog 19 [.l .nilp, .l (.int .i64 t)] M fun r M' => r = .l (.bool false) ∧ M' = M := by
  refine xcalls_intro (rs := [.tmp 4]) Go.Proofs.Try.func19 rfl (by kernel_rfl) rfl rfl (by kernel_rfl) (by simp) ?_
  simp -implicitDefEqProofs (maxSteps := 1000000) (disch := omega) only [↓xsP, ↓vc_seq, xsQ, xsT, xsR, xsD, ↓reduceIte, reduceCtorEq, eq_self, ne_eq, imp_self, forall_const, Nat.reduceEqDiff, Nat.reduceAdd, Nat.reduceSub, Nat.reduceMul, Nat.reduceLT, Nat.reduceLeDiff, Nat.reduceBEq, Nat.reduceDiv, Nat.reduceMod, Int.reduceToNat, Int.reduceNeg, Int.reduceAdd, Int.reduceSub, Int.reduceMul, Int.reduceEq, Int.reduceNe, Int.reduceLT, Int.reduceLE, Int.reduceGT, Int.reduceGE]
  refine call_of (at_nil t _) ?_
  simp -implicitDefEqProofs (maxSteps := 1000000) (disch := omega) only [↓xsP, ↓vc_seq, xsQ, xsT, xsR, xsD, ↓reduceIte, reduceCtorEq, eq_self, ne_eq, imp_self, forall_const, Nat.reduceEqDiff, Nat.reduceAdd, Nat.reduceSub, Nat.reduceMul, Nat.reduceLT, Nat.reduceLeDiff, Nat.reduceBEq, Nat.reduceDiv, Nat.reduceMod, Int.reduceToNat, Int.reduceNeg, Int.reduceAdd, Int.reduceSub, Int.reduceMul, Int.reduceEq, Int.reduceNe, Int.reduceLT, Int.reduceLE, Int.reduceGT, Int.reduceGE, neq_nil2]
  exact fin_ok (Mem.le_refl _) ⟨rfl, rfl⟩
theorem busy_out (id : Nat) (t : Int) (M : Mem) (h : t < 0 ∨ 6 ≤ t) : XCalls Go.Proofs.Try.prog 19 [.l (.ptr id 0 0), .l (.int .i64 t)] M fun r M' => r = .l (.bool false) ∧ M' = M := by
  refine xcalls_intro (rs := [.tmp 4]) Go.Proofs.Try.func19 rfl (by kernel_rfl) rfl rfl (by kernel_rfl) (by simp) ?_
  simp -implicitDefEqProofs (maxSteps := 1000000) (disch := omega) only [↓xsP, ↓vc_seq, xsQ, xsT, xsR, xsD, ↓reduceIte, reduceCtorEq, eq_self, ne_eq, imp_self, forall_const, Nat.reduceEqDiff, Nat.reduceAdd, Nat.reduceSub, Nat.reduceMul, Nat.reduceLT, Nat.reduceLeDiff, Nat.reduceBEq, Nat.reduceDiv, Nat.reduceMod, Int.reduceToNat, Int.reduceNeg, Int.reduceAdd, Int.reduceSub, Int.reduceMul, Int.reduceEq, Int.reduceNe, Int.reduceLT, Int.reduceLE, Int.reduceGT, Int.reduceGE]
  refine call_of (at_out id t _ h) ?_
  simp -implicitDefEqProofs (maxSteps := 1000000) (disch := omega) only [↓xsP, ↓vc_seq, xsQ, xsT, xsR, xsD, ↓reduceIte, reduceCtorEq, eq_self, ne_eq, imp_self, forall_const, Nat.reduceEqDiff, Nat.reduceAdd, Nat.reduceSub, Nat.reduceMul, Nat.reduceLT, Nat.reduceLeDiff, Nat.reduceBEq, Nat.reduceDiv, Nat.reduceMod, Int.reduceToNat, Int.reduceNeg, Int.reduceAdd, Int.reduceSub, Int.reduceMul, Int.reduceEq, Int.reduceNe, Int.reduceLT, Int.reduceLE, Int.reduceGT, Int.reduceGE, neq_nil2]
  exact fin_ok (Mem.le_refl _) ⟨rfl, rfl⟩
theorem busy_in {B M : Mem} {id mid : Nat} {o : Lf} {W : Wit} (hW : WIn B M id mid o W) (t : Nat) (ht : t < 6) : XCalls Go.Proofs.Try.prog 19 [.l (.ptr id 0 0), .l (.int .i64 t)] M fun r M' => r = .l (.bool (W.ws.getD t default).busy) ∧ M' = M := by
  refine xcalls_intro (rs := [.tmp 4]) Go.Proofs.Try.func19 rfl (by kernel_rfl) rfl rfl (by kernel_rfl) (by simp) ?_
  have hM := hW.own
  rw [wB] at hM
  have hd := w_drop (W := W) (mid := mid) (o := o) (t := t) (by have := hW.six; omega)
  rw [row_wk] at hd
  simp -implicitDefEqProofs (maxSteps := 1000000) (disch := omega) only [↓xsP, ↓vc_seq, xsQ, xsT, xsR, xsD, ↓reduceIte, reduceCtorEq, eq_self, ne_eq, imp_self, forall_const, Nat.reduceEqDiff, Nat.reduceAdd, Nat.reduceSub, Nat.reduceMul, Nat.reduceLT, Nat.reduceLeDiff, Nat.reduceBEq, Nat.reduceDiv, Nat.reduceMod, Int.reduceToNat, Int.reduceNeg, Int.reduceAdd, Int.reduceSub, Int.reduceMul, Int.reduceEq, Int.reduceNe, Int.reduceLT, Int.reduceLE, Int.reduceGT, Int.reduceGE]
  refine call_of (at_in id t _ ht) ?_
  simp -implicitDefEqProofs (maxSteps := 1000000) (disch := omega) only [↓xsP, ↓vc_seq, xsQ, xsT, xsR, xsD, ↓reduceIte, reduceCtorEq, eq_self, ne_eq, imp_self, forall_const, Nat.reduceEqDiff, Nat.reduceAdd, Nat.reduceSub, Nat.reduceMul, Nat.reduceLT, Nat.reduceLeDiff, Nat.reduceBEq, Nat.reduceDiv, Nat.reduceMod, Int.reduceToNat, Int.reduceNeg, Int.reduceAdd, Int.reduceSub, Int.reduceMul, Int.reduceEq, Int.reduceNe, Int.reduceLT, Int.reduceLE, Int.reduceGT, Int.reduceGE, hM, hd]
  exact fin_ok (Mem.le_refl _) ⟨rfl, rfl⟩
/-- The number of a thread that is there, as a number of its own. -/
theorem in_nat {t : Int} (h : ¬ (t < 0 ∨ 6 ≤ t)) : ∃ n : Nat, t = (n : Int) ∧ n < 6 := ⟨t.toNat, by omega, by omega⟩
end Go.X
