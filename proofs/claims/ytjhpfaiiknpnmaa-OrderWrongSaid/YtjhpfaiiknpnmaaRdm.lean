/- The walk of OrderWrong. -/
import Derived.Test.YtjhpfaiiknpnmaaOjm
import Derived.Test.YtjhpfaiiknpnmaaZ3
import Derived.Test.YtjhpfaiiknpnmaaZ5
set_option linter.unusedVariables false
set_option linter.unusedSimpArgs false
set_option maxHeartbeats 20000000
set_option maxRecDepth 100000
namespace Go.X
open Go.Proofs.Try (prog)

theorem orderWrong_walk (b : List Pr) (h : List Evt) (l : List Int) (k0 n0' : Int) (hb : b.length ≤ 140737488355328) (hh : h.length ≤ 140737488355328) (hp : ∀ x ∈ h, x.ans.pairs.length ≤ 140737488355328) (hl : l.length ≤ 140737488355328) (hlr : ∀ p ∈ l, -9223372036854775808 ≤ p ∧ p ≤ 9223372036854775807) (M : Mem) :
    XCalls Go.Proofs.Try.prog 9 [.l (.sl (b.map Pr.row)), .l (.sl (h.map Evt.row)), .l (.sl (l.map irow)), .l (.int .i64 k0), .l (.int .i64 n0')] M fun r M' => r = .l (.bool true) ∧ M' = M := by
  refine xcalls_intro (rs := [.tmp 10]) Go.Proofs.Try.func9 rfl (by kernel_rfl) rfl rfl (by kernel_rfl) (by simp) ?_
  simp -implicitDefEqProofs (maxSteps := 1000000) (disch := omega) only [↓xsP, ↓vc_seq, xsQ, xsT, xsR, xsD, ↓reduceIte, reduceCtorEq, eq_self, ne_eq, imp_self, forall_const, Nat.reduceEqDiff, Nat.reduceAdd, Nat.reduceSub, Nat.reduceMul, Nat.reduceLT, Nat.reduceLeDiff, Nat.reduceBEq, Nat.reduceDiv, Nat.reduceMod, Int.reduceToNat, Int.reduceNeg, Int.reduceAdd, Int.reduceSub, Int.reduceMul, Int.reduceEq, Int.reduceNe, Int.reduceLT, Int.reduceLE, Int.reduceGT, Int.reduceGE]
  refine callI_of ((light_spec h hh hp _).mono ?_)
  rintro _ M ⟨rfl | ⟨rfl, hlo⟩, rfl⟩
  · simp -implicitDefEqProofs (maxSteps := 1000000) (disch := omega) only [↓xsP, ↓vc_seq, xsQ, xsT, xsR, xsD, ↓reduceIte, reduceCtorEq, eq_self, ne_eq, imp_self, forall_const, Nat.reduceEqDiff, Nat.reduceAdd, Nat.reduceSub, Nat.reduceMul, Nat.reduceLT, Nat.reduceLeDiff, Nat.reduceBEq, Nat.reduceDiv, Nat.reduceMod, Int.reduceToNat, Int.reduceNeg, Int.reduceAdd, Int.reduceSub, Int.reduceMul, Int.reduceEq, Int.reduceNe, Int.reduceLT, Int.reduceLE, Int.reduceGT, Int.reduceGE]
    refine call_of (awake19_spec _) ?_
    simp -implicitDefEqProofs (maxSteps := 1000000) (disch := omega) only [↓xsP, ↓vc_seq, xsQ, xsT, xsR, xsD, ↓reduceIte, reduceCtorEq, eq_self, ne_eq, imp_self, forall_const, Nat.reduceEqDiff, Nat.reduceAdd, Nat.reduceSub, Nat.reduceMul, Nat.reduceLT, Nat.reduceLeDiff, Nat.reduceBEq, Nat.reduceDiv, Nat.reduceMod, Int.reduceToNat, Int.reduceNeg, Int.reduceAdd, Int.reduceSub, Int.reduceMul, Int.reduceEq, Int.reduceNe, Int.reduceLT, Int.reduceLE, Int.reduceGT, Int.reduceGE]
    exact fin_ok (Mem.le_refl _) ⟨rfl, rfl⟩
  simp -implicitDefEqProofs (maxSteps := 1000000) (disch := omega) only [↓xsP, ↓vc_seq, xsQ, xsT, xsR, xsD, ↓reduceIte, reduceCtorEq, eq_self, ne_eq, imp_self, forall_const, Nat.reduceEqDiff, Nat.reduceAdd, Nat.reduceSub, Nat.reduceMul, Nat.reduceLT, Nat.reduceLeDiff, Nat.reduceBEq, Nat.reduceDiv, Nat.reduceMod, Int.reduceToNat, Int.reduceNeg, Int.reduceAdd, Int.reduceSub, Int.reduceMul, Int.reduceEq, Int.reduceNe, Int.reduceLT, Int.reduceLE, Int.reduceGT, Int.reduceGE]
  refine gI_prop_f (fun h1 => ?_) (fun h1 => ?_)
  rotate_left
  · simp -implicitDefEqProofs (maxSteps := 1000000) (disch := omega) only [↓xsP, ↓vc_seq, xsQ, xsT, xsR, xsD, ↓reduceIte, reduceCtorEq, eq_self, ne_eq, imp_self, forall_const, Nat.reduceEqDiff, Nat.reduceAdd, Nat.reduceSub, Nat.reduceMul, Nat.reduceLT, Nat.reduceLeDiff, Nat.reduceBEq, Nat.reduceDiv, Nat.reduceMod, Int.reduceToNat, Int.reduceNeg, Int.reduceAdd, Int.reduceSub, Int.reduceMul, Int.reduceEq, Int.reduceNe, Int.reduceLT, Int.reduceLE, Int.reduceGT, Int.reduceGE, h1]
    refine call_of (awake19_spec _) ?_
    simp -implicitDefEqProofs (maxSteps := 1000000) (disch := omega) only [↓xsP, ↓vc_seq, xsQ, xsT, xsR, xsD, ↓reduceIte, reduceCtorEq, eq_self, ne_eq, imp_self, forall_const, Nat.reduceEqDiff, Nat.reduceAdd, Nat.reduceSub, Nat.reduceMul, Nat.reduceLT, Nat.reduceLeDiff, Nat.reduceBEq, Nat.reduceDiv, Nat.reduceMod, Int.reduceToNat, Int.reduceNeg, Int.reduceAdd, Int.reduceSub, Int.reduceMul, Int.reduceEq, Int.reduceNe, Int.reduceLT, Int.reduceLE, Int.reduceGT, Int.reduceGE]
    exact fin_ok (Mem.le_refl _) ⟨rfl, rfl⟩
  simp -implicitDefEqProofs (maxSteps := 1000000) (disch := omega) only [↓xsP, ↓vc_seq, xsQ, xsT, xsR, xsD, ↓reduceIte, reduceCtorEq, eq_self, ne_eq, imp_self, forall_const, Nat.reduceEqDiff, Nat.reduceAdd, Nat.reduceSub, Nat.reduceMul, Nat.reduceLT, Nat.reduceLeDiff, Nat.reduceBEq, Nat.reduceDiv, Nat.reduceMod, Int.reduceToNat, Int.reduceNeg, Int.reduceAdd, Int.reduceSub, Int.reduceMul, Int.reduceEq, Int.reduceNe, Int.reduceLT, Int.reduceLE, Int.reduceGT, Int.reduceGE, h1]
  refine gI_prop_f (fun h2 => ?_) (fun h2 => ?_)
  rotate_left
  · simp -implicitDefEqProofs (maxSteps := 1000000) (disch := omega) only [↓xsP, ↓vc_seq, xsQ, xsT, xsR, xsD, ↓reduceIte, reduceCtorEq, eq_self, ne_eq, imp_self, forall_const, Nat.reduceEqDiff, Nat.reduceAdd, Nat.reduceSub, Nat.reduceMul, Nat.reduceLT, Nat.reduceLeDiff, Nat.reduceBEq, Nat.reduceDiv, Nat.reduceMod, Int.reduceToNat, Int.reduceNeg, Int.reduceAdd, Int.reduceSub, Int.reduceMul, Int.reduceEq, Int.reduceNe, Int.reduceLT, Int.reduceLE, Int.reduceGT, Int.reduceGE, h2]
    refine call_of (awake19_spec _) ?_
    simp -implicitDefEqProofs (maxSteps := 1000000) (disch := omega) only [↓xsP, ↓vc_seq, xsQ, xsT, xsR, xsD, ↓reduceIte, reduceCtorEq, eq_self, ne_eq, imp_self, forall_const, Nat.reduceEqDiff, Nat.reduceAdd, Nat.reduceSub, Nat.reduceMul, Nat.reduceLT, Nat.reduceLeDiff, Nat.reduceBEq, Nat.reduceDiv, Nat.reduceMod, Int.reduceToNat, Int.reduceNeg, Int.reduceAdd, Int.reduceSub, Int.reduceMul, Int.reduceEq, Int.reduceNe, Int.reduceLT, Int.reduceLE, Int.reduceGT, Int.reduceGE]
    exact fin_ok (Mem.le_refl _) ⟨rfl, rfl⟩
  simp -implicitDefEqProofs (maxSteps := 1000000) (disch := omega) only [↓xsP, ↓vc_seq, xsQ, xsT, xsR, xsD, ↓reduceIte, reduceCtorEq, eq_self, ne_eq, imp_self, forall_const, Nat.reduceEqDiff, Nat.reduceAdd, Nat.reduceSub, Nat.reduceMul, Nat.reduceLT, Nat.reduceLeDiff, Nat.reduceBEq, Nat.reduceDiv, Nat.reduceMod, Int.reduceToNat, Int.reduceNeg, Int.reduceAdd, Int.reduceSub, Int.reduceMul, Int.reduceEq, Int.reduceNe, Int.reduceLT, Int.reduceLE, Int.reduceGT, Int.reduceGE, h2]
  refine gI_prop_f (fun h3 => ?_) (fun h3 => ?_)
  rotate_left
  · simp -implicitDefEqProofs (maxSteps := 1000000) (disch := omega) only [↓xsP, ↓vc_seq, xsQ, xsT, xsR, xsD, ↓reduceIte, reduceCtorEq, eq_self, ne_eq, imp_self, forall_const, Nat.reduceEqDiff, Nat.reduceAdd, Nat.reduceSub, Nat.reduceMul, Nat.reduceLT, Nat.reduceLeDiff, Nat.reduceBEq, Nat.reduceDiv, Nat.reduceMod, Int.reduceToNat, Int.reduceNeg, Int.reduceAdd, Int.reduceSub, Int.reduceMul, Int.reduceEq, Int.reduceNe, Int.reduceLT, Int.reduceLE, Int.reduceGT, Int.reduceGE, h3]
    refine call_of (awake19_spec _) ?_
    simp -implicitDefEqProofs (maxSteps := 1000000) (disch := omega) only [↓xsP, ↓vc_seq, xsQ, xsT, xsR, xsD, ↓reduceIte, reduceCtorEq, eq_self, ne_eq, imp_self, forall_const, Nat.reduceEqDiff, Nat.reduceAdd, Nat.reduceSub, Nat.reduceMul, Nat.reduceLT, Nat.reduceLeDiff, Nat.reduceBEq, Nat.reduceDiv, Nat.reduceMod, Int.reduceToNat, Int.reduceNeg, Int.reduceAdd, Int.reduceSub, Int.reduceMul, Int.reduceEq, Int.reduceNe, Int.reduceLT, Int.reduceLE, Int.reduceGT, Int.reduceGE]
    exact fin_ok (Mem.le_refl _) ⟨rfl, rfl⟩
  have hs := hlo.small
  have hh1 : h.length ≤ 200 := hlo.1
  simp -implicitDefEqProofs (maxSteps := 1000000) (disch := omega) only [↓xsP, ↓vc_seq, xsQ, xsT, xsR, xsD, ↓reduceIte, reduceCtorEq, eq_self, ne_eq, imp_self, forall_const, Nat.reduceEqDiff, Nat.reduceAdd, Nat.reduceSub, Nat.reduceMul, Nat.reduceLT, Nat.reduceLeDiff, Nat.reduceBEq, Nat.reduceDiv, Nat.reduceMod, Int.reduceToNat, Int.reduceNeg, Int.reduceAdd, Int.reduceSub, Int.reduceMul, Int.reduceEq, Int.reduceNe, Int.reduceLT, Int.reduceLE, Int.reduceGT, Int.reduceGE, h3]
  refine call_of (oright_spec b h l (by omega) hs (by omega) (by omega) _) ?_
  cases hr : rightO b h l with
  | none =>
    simp -implicitDefEqProofs (maxSteps := 1000000) (disch := omega) only [↓xsP, ↓vc_seq, xsQ, xsT, xsR, xsD, ↓reduceIte, reduceCtorEq, eq_self, ne_eq, imp_self, forall_const, Nat.reduceEqDiff, Nat.reduceAdd, Nat.reduceSub, Nat.reduceMul, Nat.reduceLT, Nat.reduceLeDiff, Nat.reduceBEq, Nat.reduceDiv, Nat.reduceMod, Int.reduceToNat, Int.reduceNeg, Int.reduceAdd, Int.reduceSub, Int.reduceMul, Int.reduceEq, Int.reduceNe, Int.reduceLT, Int.reduceLE, Int.reduceGT, Int.reduceGE, Option.isSome_none, h1, h2, h3]
    refine call_of (awake19_spec _) ?_
    simp -implicitDefEqProofs (maxSteps := 1000000) (disch := omega) only [↓xsP, ↓vc_seq, xsQ, xsT, xsR, xsD, ↓reduceIte, reduceCtorEq, eq_self, ne_eq, imp_self, forall_const, Nat.reduceEqDiff, Nat.reduceAdd, Nat.reduceSub, Nat.reduceMul, Nat.reduceLT, Nat.reduceLeDiff, Nat.reduceBEq, Nat.reduceDiv, Nat.reduceMod, Int.reduceToNat, Int.reduceNeg, Int.reduceAdd, Int.reduceSub, Int.reduceMul, Int.reduceEq, Int.reduceNe, Int.reduceLT, Int.reduceLE, Int.reduceGT, Int.reduceGE]
    exact fin_ok (Mem.le_refl _) ⟨rfl, rfl⟩
  | some sE =>
    simp -implicitDefEqProofs (maxSteps := 1000000) (disch := omega) only [↓xsP, ↓vc_seq, xsQ, xsT, xsR, xsD, ↓reduceIte, reduceCtorEq, eq_self, ne_eq, imp_self, forall_const, Nat.reduceEqDiff, Nat.reduceAdd, Nat.reduceSub, Nat.reduceMul, Nat.reduceLT, Nat.reduceLeDiff, Nat.reduceBEq, Nat.reduceDiv, Nat.reduceMod, Int.reduceToNat, Int.reduceNeg, Int.reduceAdd, Int.reduceSub, Int.reduceMul, Int.reduceEq, Int.reduceNe, Int.reduceLT, Int.reduceLE, Int.reduceGT, Int.reduceGE, Option.isSome_some, h1, h2, h3]
    refine call_of (mayPast_spec h hs _) ?_
    obtain ⟨i1, i2, i3, i4, i5⟩ := right_inv hr
    rw [mayP_eq, i2]
    have hrk := rem_u64 k0 (n := l.length) (by omega) (by omega)
    have hkl := ridx_lt k0 (n := l.length) (by omega)
    have w1 : IntKind.i64.wrap ((ridx k0 l.length : Nat) : Int) = ((ridx k0 l.length : Nat) : Int) := wrap_in (by omega) (by omega)
    have r9 := rem_u64c n0' 9 (by decide) (by decide) 9 rfl
    have l9 := ridx_lt n0' (n := 9) (by decide)
    have w9 : IntKind.i64.wrap ((ridx n0' 9 : Nat) : Int) = ((ridx n0' 9 : Nat) : Int) := wrap_in (by omega) (by omega)
    simp -implicitDefEqProofs (maxSteps := 1000000) (disch := omega) only [↓xsP, ↓vc_seq, xsQ, xsT, xsR, xsD, ↓reduceIte, reduceCtorEq, eq_self, ne_eq, imp_self, forall_const, Nat.reduceEqDiff, Nat.reduceAdd, Nat.reduceSub, Nat.reduceMul, Nat.reduceLT, Nat.reduceLeDiff, Nat.reduceBEq, Nat.reduceDiv, Nat.reduceMod, Int.reduceToNat, Int.reduceNeg, Int.reduceAdd, Int.reduceSub, Int.reduceMul, Int.reduceEq, Int.reduceNe, Int.reduceLT, Int.reduceLE, Int.reduceGT, Int.reduceGE, h1, h2, h3]
    rw [hrk]
    simp -implicitDefEqProofs (maxSteps := 1000000) (disch := omega) only [↓xsP, ↓vc_seq, xsQ, xsT, xsR, xsD, ↓reduceIte, reduceCtorEq, eq_self, ne_eq, imp_self, forall_const, Nat.reduceEqDiff, Nat.reduceAdd, Nat.reduceSub, Nat.reduceMul, Nat.reduceLT, Nat.reduceLeDiff, Nat.reduceBEq, Nat.reduceDiv, Nat.reduceMod, Int.reduceToNat, Int.reduceNeg, Int.reduceAdd, Int.reduceSub, Int.reduceMul, Int.reduceEq, Int.reduceNe, Int.reduceLT, Int.reduceLE, Int.reduceGT, Int.reduceGE, w1]
    refine call_of (callsR_spec h hs _) ?_
    have hcl := callsP_len h
    generalize ridx k0 l.length = k at hkl ⊢
    clear hrk w1
    refine xwrite (fun n0 => [ (2, n0 + 0), (8, n0 + 2)]) [2, 8] [0, 2, 7, 8] [[], [0], [], [2, 0], [2, 0], [2, 0], [2, 0], [2, 0], [], []] (by kernel_rfl) (by kernel_rfl) (by kernel_rfl) (by kernel_rfl) (fun n0 hn0 => ⟨rfl, ?_, ?_⟩)
    · exact TOk_cons (.inr ⟨0, by decide, by decide, rfl⟩) (TOk_cons (.inr ⟨2, by decide, by decide, rfl⟩) (TOk_nil _ _))
    have hxm := getD_mem' l default hkl
    have hless := right_less (b := b) (h := h) hkl (by rw [hr]; rfl)
    have hin := named_in i3 _ hxm
    generalize hxe : l.getD k default = x at hxm hless hin
    simp -implicitDefEqProofs (maxSteps := 1000000) (disch := omega) only [↓xsP, ↓vc_seq, xsQ, xsT, xsR, xsD, ↓reduceIte, reduceCtorEq, eq_self, ne_eq, imp_self, forall_const, Nat.reduceEqDiff, Nat.reduceAdd, Nat.reduceSub, Nat.reduceMul, Nat.reduceLT, Nat.reduceLeDiff, Nat.reduceBEq, Nat.reduceDiv, Nat.reduceMod, Int.reduceToNat, Int.reduceNeg, Int.reduceAdd, Int.reduceSub, Int.reduceMul, Int.reduceEq, Int.reduceNe, Int.reduceLT, Int.reduceLE, Int.reduceGT, Int.reduceGE, hxe]
    refine ⟨.inl (by decide), ?_⟩
    refine wapp_ms _ _ _ _ _ 3 _ _ ti_39 rfl ti_3 (by kernel_rfl) (by decide) n0 0 _ (rows := []) (keep := 0) (l.map irow) (Mem.set_eq _ _ _) ?_ (Nat.le_refl _) (Nat.zero_le _) ?_ ?_ ?_
    · simp -implicitDefEqProofs (maxSteps := 1000000) (disch := omega) only [↓xsP, ↓vc_seq, xsQ, xsT, xsR, xsD, ↓reduceIte, reduceCtorEq, eq_self, ne_eq, imp_self, forall_const, Nat.reduceEqDiff, Nat.reduceAdd, Nat.reduceSub, Nat.reduceMul, Nat.reduceLT, Nat.reduceLeDiff, Nat.reduceBEq, Nat.reduceDiv, Nat.reduceMod, Int.reduceToNat, Int.reduceNeg, Int.reduceAdd, Int.reduceSub, Int.reduceMul, Int.reduceEq, Int.reduceNe, Int.reduceLT, Int.reduceLE, Int.reduceGT, Int.reduceGE]
      rw [if_pos (rows_i l)]
    · exact Nat.le_trans (Nat.mul_le_mul_right _ (show 0 + (l.map irow).length ≤ 1000 by simp; omega)) (by decide)
    · simp
      omega
    simp -implicitDefEqProofs (maxSteps := 1000000) (disch := omega) only [↓xsP, ↓vc_seq, xsQ, xsT, xsR, xsD, ↓reduceIte, reduceCtorEq, eq_self, ne_eq, imp_self, forall_const, Nat.reduceEqDiff, Nat.reduceAdd, Nat.reduceSub, Nat.reduceMul, Nat.reduceLT, Nat.reduceLeDiff, Nat.reduceBEq, Nat.reduceDiv, Nat.reduceMod, Int.reduceToNat, Int.reduceNeg, Int.reduceAdd, Int.reduceSub, Int.reduceMul, Int.reduceEq, Int.reduceNe, Int.reduceLT, Int.reduceLE, Int.reduceGT, Int.reduceGE, hxe]
    refine ⟨.inl (by decide), .inl (by decide), ?_⟩
    refine wapp_ms _ _ _ _ _ 3 _ _ ti_39 rfl ti_3 (by kernel_rfl) (by decide) (n0 + 2) l.length _ (rows := l.map irow) (keep := 0) [irow x] ?_ ?_ (by simp) (Nat.zero_le _) ?_ ?_ ?_
    · simp (disch := omega) only [Mem.set_ne, Mem.set_eq]
    · simp -implicitDefEqProofs (maxSteps := 1000000) (disch := omega) only [↓xsP, ↓vc_seq, xsQ, xsT, xsR, xsD, ↓reduceIte, reduceCtorEq, eq_self, ne_eq, imp_self, forall_const, Nat.reduceEqDiff, Nat.reduceAdd, Nat.reduceSub, Nat.reduceMul, Nat.reduceLT, Nat.reduceLeDiff, Nat.reduceBEq, Nat.reduceDiv, Nat.reduceMod, Int.reduceToNat, Int.reduceNeg, Int.reduceAdd, Int.reduceSub, Int.reduceMul, Int.reduceEq, Int.reduceNe, Int.reduceLT, Int.reduceLE, Int.reduceGT, Int.reduceGE, irow]
    · exact Nat.le_trans (Nat.mul_le_mul_right _ (show l.length + 1 ≤ 1000 by omega)) (by decide)
    · show l.length + 1 ≤ 140737488355328
      omega
    simp -implicitDefEqProofs (maxSteps := 1000000) (disch := omega) only [↓xsP, ↓vc_seq, xsQ, xsT, xsR, xsD, ↓reduceIte, reduceCtorEq, eq_self, ne_eq, imp_self, forall_const, Nat.reduceEqDiff, Nat.reduceAdd, Nat.reduceSub, Nat.reduceMul, Nat.reduceLT, Nat.reduceLeDiff, Nat.reduceBEq, Nat.reduceDiv, Nat.reduceMod, Int.reduceToNat, Int.reduceNeg, Int.reduceAdd, Int.reduceSub, Int.reduceMul, Int.reduceEq, Int.reduceNe, Int.reduceLT, Int.reduceLE, Int.reduceGT, Int.reduceGE, hxe]
    refine ⟨.inl (by decide), ?_⟩
    intro pb hpb
    rw [List.take_of_length_le (show (l.map irow).length ≤ l.length by simp), ← row_i x, show l.map irow ++ [irow x] = (l ++ [x]).map irow by simp] at hpb ⊢
    have key : ∀ (X1 X2 X3 X4 : Blk) (Q : Mem), (((((M.set n0 X1).del n0).set (n0 + 2) X2).set (n0 + 7) X3).del (n0 + 2)).set (n0 + 8) X4 = Q → Q (n0 + 8) = some X4 ∧ M.le Q := by
      rintro X1 X2 X3 X4 Q rfl
      refine ⟨Mem.set_eq _ _ _, fun k bk h => ?_⟩
      have := lt_of_bnd hn0 h
      simp (disch := omega) only [Mem.set_ne, Mem.del_ne, h]
    generalize hQ : Mem.set (Mem.del (Mem.set (Mem.set (Mem.del (Mem.set M _ _) _) _ _) _ _) _) _ _ = N1 at hpb ⊢
    obtain ⟨hN12, hle1⟩ := key _ _ _ _ _ hQ
    clear key hQ
    generalize hi12 : n0 + 8 = i12 at hN12 ⊢
    have k1 := lt_of_bnd hpb hN12
    have hN0 : ∀ k bk, M k = some bk → k < i12 := fun k bk hk => by have := lt_of_bnd hn0 hk; omega
    refine app_mk2 ti_39 rfl ti_3 (by kernel_rfl) (by decide) (by decide) (rows_i l) hpb (by simp; omega) fun idm N2 hidm hm2 hle2 => ?_
    have k2 := lt_of_bnd hidm hN12
    rw [List.length_map]
    have w10 : IntKind.i64.wrap (((callsP h).length : Int) + (ridx n0' 9 : Nat)) = ((callsP h).length : Int) + (ridx n0' 9 : Nat) := wrap_in (by omega) (by omega)
    simp -implicitDefEqProofs (maxSteps := 1000000) (disch := omega) only [↓xsP, ↓vc_seq, xsQ, xsT, xsR, xsD, ↓reduceIte, reduceCtorEq, eq_self, ne_eq, imp_self, forall_const, Nat.reduceEqDiff, Nat.reduceAdd, Nat.reduceSub, Nat.reduceMul, Nat.reduceLT, Nat.reduceLeDiff, Nat.reduceBEq, Nat.reduceDiv, Nat.reduceMod, Int.reduceToNat, Int.reduceNeg, Int.reduceAdd, Int.reduceSub, Int.reduceMul, Int.reduceEq, Int.reduceNe, Int.reduceLT, Int.reduceLE, Int.reduceGT, Int.reduceGE, r9, w9, w10]
    refine newI_intro fun pc hpc => ?_
    have k3 := lt_of_bnd hpc hm2
    simp -implicitDefEqProofs (maxSteps := 1000000) (disch := omega) only [↓xsP, ↓vc_seq, xsQ, xsT, xsR, xsD, ↓reduceIte, reduceCtorEq, eq_self, ne_eq, imp_self, forall_const, Nat.reduceEqDiff, Nat.reduceAdd, Nat.reduceSub, Nat.reduceMul, Nat.reduceLT, Nat.reduceLeDiff, Nat.reduceBEq, Nat.reduceDiv, Nat.reduceMod, Int.reduceToNat, Int.reduceNeg, Int.reduceAdd, Int.reduceSub, Int.reduceMul, Int.reduceEq, Int.reduceNe, Int.reduceLT, Int.reduceLE, Int.reduceGT, Int.reduceGE]
    obtain ⟨y, hy⟩ : ∃ y : Int, y = ((callsP h).length : Int) + (ridx n0' 9 : Nat) := ⟨_, rfl⟩
    rw [← hy]
    have hny := right_none (b := b) (h := h) (l := l) (x := y) (by omega)
    refine app_ms _ _ _ _ 3 _ _ ti_39 rfl ti_3 (by kernel_rfl) (by decide) idm l.length _ (rows := l.map irow) (keep := 0) [irow y] ?_ ?_ (by simp) (Nat.zero_le _) ?_ ?_ (fun i13 hidA => ?_)
    · rw [Mem.set_ne _ _ _ _ (by omega)]
      exact hm2
    · simp -implicitDefEqProofs (maxSteps := 1000000) (disch := omega) only [↓xsP, ↓vc_seq, xsQ, xsT, xsR, xsD, ↓reduceIte, reduceCtorEq, eq_self, ne_eq, imp_self, forall_const, Nat.reduceEqDiff, Nat.reduceAdd, Nat.reduceSub, Nat.reduceMul, Nat.reduceLT, Nat.reduceLeDiff, Nat.reduceBEq, Nat.reduceDiv, Nat.reduceMod, Int.reduceToNat, Int.reduceNeg, Int.reduceAdd, Int.reduceSub, Int.reduceMul, Int.reduceEq, Int.reduceNe, Int.reduceLT, Int.reduceLE, Int.reduceGT, Int.reduceGE, irow]
    · exact Nat.le_trans (Nat.mul_le_mul_right _ (show l.length + 1 ≤ 1000 by omega)) (by decide)
    · show l.length + 1 ≤ 140737488355328
      omega
    obtain ⟨k4, hidA⟩ := bnd_new hidA
    have k5 := lt_of_bnd hidA hm2
    rw [List.take_of_length_le (show (l.map irow).length ≤ l.length by simp), show l.map irow ++ [irow y] = (l ++ [y]).map irow by simp]
    simp -implicitDefEqProofs (maxSteps := 1000000) (disch := omega) only [↓xsP, ↓vc_seq, xsQ, xsT, xsR, xsD, ↓reduceIte, reduceCtorEq, eq_self, ne_eq, imp_self, forall_const, Nat.reduceEqDiff, Nat.reduceAdd, Nat.reduceSub, Nat.reduceMul, Nat.reduceLT, Nat.reduceLeDiff, Nat.reduceBEq, Nat.reduceDiv, Nat.reduceMod, Int.reduceToNat, Int.reduceNeg, Int.reduceAdd, Int.reduceSub, Int.reduceMul, Int.reduceEq, Int.reduceNe, Int.reduceLT, Int.reduceLE, Int.reduceGT, Int.reduceGE]
    have h3 : ∀ X Y : Blk, ∃ N3, ((N2.set pc X).del idm).set i13 Y = N3 ∧ N3 i13 = some Y ∧ N3 i12 = N2 i12 ∧ i12 < i13 ∧ M.le N3 := fun X Y => by
      have a0 := hle2 _ _ hN12
      have a1 := lt_of_bnd hidA a0
      have a2 := lt_of_bnd hpc a0
      refine ⟨_, rfl, Mem.set_eq _ _ _, ?_, a1, fun k bk hk => ?_⟩
      · rw [Mem.set_ne _ _ _ _ (by omega), Mem.del_ne _ _ _ (by omega), Mem.set_ne _ _ _ _ (by omega)]
      · have b0 := hle1 _ _ hk
        have b1 := lt_of_bnd hidm b0
        have b2 := hle2 _ _ b0
        have b3 := lt_of_bnd hpc b2
        have b4 := lt_of_bnd hidA b2
        rw [Mem.set_ne _ _ _ _ (by omega), Mem.del_ne _ _ _ (by omega), Mem.set_ne _ _ _ _ (by omega)]
        exact b2
    obtain ⟨N3, en3, hN33, hN32, h23, hle3⟩ := h3 (.cells 3 [irow y] 0) (.cells 3 ((l ++ [y]).map irow) 0)
    rw [hle2 _ _ hN12] at hN32
    rw [row_i] at en3
    rw [en3]
    clear en3 h3 hidA hpc hidm hpb hm2 hle2 hle1 hN12 k1 k2 k3 k4 k5
    refine xwrite (fun n0 => [ (4, n0 + 0), (9, n0 + 4)]) [4, 9] [0, 4, 9] [[], [0], [0], [0], [], [4, 0], [4, 0], [4, 0], [4, 0], [], []] (by kernel_rfl) (by kernel_rfl) (by kernel_rfl) (by kernel_rfl) (fun n0 hn0 => ⟨rfl, ?_, ?_⟩)
    · exact TOk_cons (.inr ⟨0, by decide, by decide, rfl⟩) (TOk_cons (.inr ⟨4, by decide, by decide, rfl⟩) (TOk_nil _ _))
    simp -implicitDefEqProofs (maxSteps := 1000000) (disch := omega) only [↓xsP, ↓vc_seq, xsQ, xsT, xsR, xsD, ↓reduceIte, reduceCtorEq, eq_self, ne_eq, imp_self, forall_const, Nat.reduceEqDiff, Nat.reduceAdd, Nat.reduceSub, Nat.reduceMul, Nat.reduceLT, Nat.reduceLeDiff, Nat.reduceBEq, Nat.reduceDiv, Nat.reduceMod, Int.reduceToNat, Int.reduceNeg, Int.reduceAdd, Int.reduceSub, Int.reduceMul, Int.reduceEq, Int.reduceNe, Int.reduceLT, Int.reduceLE, Int.reduceGT, Int.reduceGE]
    refine ⟨.inl (by decide), ?_⟩
    rw [if_pos (show (0 : Int) ≤ (k : Int) by omega)]
    simp -implicitDefEqProofs (maxSteps := 1000000) (disch := omega) only [↓xsP, ↓vc_seq, xsQ, xsT, xsR, xsD, ↓reduceIte, reduceCtorEq, eq_self, ne_eq, imp_self, forall_const, Nat.reduceEqDiff, Nat.reduceAdd, Nat.reduceSub, Nat.reduceMul, Nat.reduceLT, Nat.reduceLeDiff, Nat.reduceBEq, Nat.reduceDiv, Nat.reduceMod, Int.reduceToNat, Int.reduceNeg, Int.reduceAdd, Int.reduceSub, Int.reduceMul, Int.reduceEq, Int.reduceNe, Int.reduceLT, Int.reduceLE, Int.reduceGT, Int.reduceGE]
    rw [if_pos ⟨by omega, rows_i l⟩]
    simp -implicitDefEqProofs (maxSteps := 1000000) (disch := omega) only [↓xsP, ↓vc_seq, xsQ, xsT, xsR, xsD, ↓reduceIte, reduceCtorEq, eq_self, ne_eq, imp_self, forall_const, Nat.reduceEqDiff, Nat.reduceAdd, Nat.reduceSub, Nat.reduceMul, Nat.reduceLT, Nat.reduceLeDiff, Nat.reduceBEq, Nat.reduceDiv, Nat.reduceMod, Int.reduceToNat, Int.reduceNeg, Int.reduceAdd, Int.reduceSub, Int.reduceMul, Int.reduceEq, Int.reduceNe, Int.reduceLT, Int.reduceLE, Int.reduceGT, Int.reduceGE]
    have hkl2 : (l.take k).length = k := by rw [List.length_take]; omega
    rw [← List.map_take]
    refine wapp_ms _ _ _ _ _ 3 _ _ ti_39 rfl ti_3 (by kernel_rfl) (by decide) n0 0 _ (rows := []) (keep := 0) ((l.take k).map irow) (Mem.set_eq _ _ _) ?_ (Nat.le_refl _) (Nat.zero_le _) ?_ ?_ ?_
    · simp -implicitDefEqProofs (maxSteps := 1000000) (disch := omega) only [↓xsP, ↓vc_seq, xsQ, xsT, xsR, xsD, ↓reduceIte, reduceCtorEq, eq_self, ne_eq, imp_self, forall_const, Nat.reduceEqDiff, Nat.reduceAdd, Nat.reduceSub, Nat.reduceMul, Nat.reduceLT, Nat.reduceLeDiff, Nat.reduceBEq, Nat.reduceDiv, Nat.reduceMod, Int.reduceToNat, Int.reduceNeg, Int.reduceAdd, Int.reduceSub, Int.reduceMul, Int.reduceEq, Int.reduceNe, Int.reduceLT, Int.reduceLE, Int.reduceGT, Int.reduceGE]
      rw [if_pos (rows_i (l.take k))]
    · exact Nat.le_trans (Nat.mul_le_mul_right _ (show 0 + ((l.take k).map irow).length ≤ 1000 by simp; omega)) (by decide)
    · simp
      omega
    have wk : IntKind.i64.wrap ((k : Int) + 1) = (k : Int) + 1 := wrap_in (by omega) (by omega)
    rw [List.length_map, hkl2]
    simp -implicitDefEqProofs (maxSteps := 1000000) (disch := omega) only [↓xsP, ↓vc_seq, xsQ, xsT, xsR, xsD, ↓reduceIte, reduceCtorEq, eq_self, ne_eq, imp_self, forall_const, Nat.reduceEqDiff, Nat.reduceAdd, Nat.reduceSub, Nat.reduceMul, Nat.reduceLT, Nat.reduceLeDiff, Nat.reduceBEq, Nat.reduceDiv, Nat.reduceMod, Int.reduceToNat, Int.reduceNeg, Int.reduceAdd, Int.reduceSub, Int.reduceMul, Int.reduceEq, Int.reduceNe, Int.reduceLT, Int.reduceLE, Int.reduceGT, Int.reduceGE, wk, i_drop]
    refine ⟨.inl (by decide), ?_⟩
    rw [if_pos (show (0 : Int) ≤ (k : Int) + 1 by omega)]
    simp -implicitDefEqProofs (maxSteps := 1000000) (disch := omega) only [↓xsP, ↓vc_seq, xsQ, xsT, xsR, xsD, ↓reduceIte, reduceCtorEq, eq_self, ne_eq, imp_self, forall_const, Nat.reduceEqDiff, Nat.reduceAdd, Nat.reduceSub, Nat.reduceMul, Nat.reduceLT, Nat.reduceLeDiff, Nat.reduceBEq, Nat.reduceDiv, Nat.reduceMod, Int.reduceToNat, Int.reduceNeg, Int.reduceAdd, Int.reduceSub, Int.reduceMul, Int.reduceEq, Int.reduceNe, Int.reduceLT, Int.reduceLE, Int.reduceGT, Int.reduceGE]
    rw [if_pos ⟨by omega, rows_i l⟩]
    simp -implicitDefEqProofs (maxSteps := 1000000) (disch := omega) only [↓xsP, ↓vc_seq, xsQ, xsT, xsR, xsD, ↓reduceIte, reduceCtorEq, eq_self, ne_eq, imp_self, forall_const, Nat.reduceEqDiff, Nat.reduceAdd, Nat.reduceSub, Nat.reduceMul, Nat.reduceLT, Nat.reduceLeDiff, Nat.reduceBEq, Nat.reduceDiv, Nat.reduceMod, Int.reduceToNat, Int.reduceNeg, Int.reduceAdd, Int.reduceSub, Int.reduceMul, Int.reduceEq, Int.reduceNe, Int.reduceLT, Int.reduceLE, Int.reduceGT, Int.reduceGE]
    have hdl : (l.drop (k + 1)).length = l.length - (k + 1) := by simp
    rw [List.take_of_length_le (show ((l.drop (k + 1)).map irow).length ≤ l.length - (k + 1) by simp)]
    refine wapp_ms _ _ _ _ _ 3 _ _ ti_39 rfl ti_3 (by kernel_rfl) (by decide) (n0 + 4) k _ (rows := (l.take k).map irow) (keep := 0) ((l.drop (k + 1)).map irow) ?_ ?_ (by simp; omega) (Nat.zero_le _) ?_ ?_ ?_
    · simp (disch := omega) only [Mem.set_ne, Mem.set_eq]
    · simp -implicitDefEqProofs (maxSteps := 1000000) (disch := omega) only [↓xsP, ↓vc_seq, xsQ, xsT, xsR, xsD, ↓reduceIte, reduceCtorEq, eq_self, ne_eq, imp_self, forall_const, Nat.reduceEqDiff, Nat.reduceAdd, Nat.reduceSub, Nat.reduceMul, Nat.reduceLT, Nat.reduceLeDiff, Nat.reduceBEq, Nat.reduceDiv, Nat.reduceMod, Int.reduceToNat, Int.reduceNeg, Int.reduceAdd, Int.reduceSub, Int.reduceMul, Int.reduceEq, Int.reduceNe, Int.reduceLT, Int.reduceLE, Int.reduceGT, Int.reduceGE]
      rw [if_pos (rows_i (l.drop (k + 1)))]
    · exact Nat.le_trans (Nat.mul_le_mul_right _ (show k + ((l.drop (k + 1)).map irow).length ≤ 1000 by simp; omega)) (by decide)
    · simp
      omega
    rw [List.length_map, hdl]
    rw [List.take_of_length_le (show ((l.take k).map irow).length ≤ k by simp; omega), ← List.map_append]
    have x1 : ¬ x < 0 := by omega
    have x2 : ¬ x ≥ ((callsP h).length : Int) := by omega
    simp -implicitDefEqProofs (maxSteps := 1000000) (disch := omega) only [↓xsP, ↓vc_seq, xsQ, xsT, xsR, xsD, ↓reduceIte, reduceCtorEq, eq_self, ne_eq, imp_self, forall_const, Nat.reduceEqDiff, Nat.reduceAdd, Nat.reduceSub, Nat.reduceMul, Nat.reduceLT, Nat.reduceLeDiff, Nat.reduceBEq, Nat.reduceDiv, Nat.reduceMod, Int.reduceToNat, Int.reduceNeg, Int.reduceAdd, Int.reduceSub, Int.reduceMul, Int.reduceEq, Int.reduceNe, Int.reduceLT, Int.reduceLE, Int.reduceGT, Int.reduceGE, hxe, x1, x2]
    refine ⟨.inl (by decide), ?_⟩
    have k12 := lt_of_bnd hn0 hN32
    have k13 := lt_of_bnd hn0 hN33
    have key : ∀ (X1 X2 X3 : Blk) (Q : Mem), ((((N3.set n0 X1).del n0).set (n0 + 4) X2).del (n0 + 4)).set (n0 + 9) X3 = Q → Q (n0 + 9) = some X3 ∧ ∀ k bk, N3 k = some bk → Q k = some bk ∧ k < n0 := by
      rintro X1 X2 X3 Q rfl
      refine ⟨Mem.set_eq _ _ _, fun k bk h => ?_⟩
      have := lt_of_bnd hn0 h
      exact ⟨by simp (disch := omega) only [Mem.set_ne, Mem.del_ne, h], this⟩
    generalize hQ : Mem.set (Mem.del (Mem.set (Mem.del (Mem.set N3 _ _) _) _ _) _) _ _ = N4
    obtain ⟨hN44, hN4o⟩ := key _ _ _ _ hQ
    clear key hQ
    generalize hi14 : n0 + 9 = i14 at hN44 ⊢
    have hN42 := (hN4o _ _ hN32).1
    have hN43 := (hN4o _ _ hN33).1
    have hle4 : ∀ k bk, M k = some bk → N4 k = some bk ∧ k ≠ i12 ∧ k ≠ i13 ∧ k ≠ i14 := fun k bk hk => by
      have b0 := hle3 _ _ hk
      obtain ⟨b1, b2⟩ := hN4o _ _ b0
      have b3 := hN0 _ _ hk
      exact ⟨b1, by omega, by omega, by omega⟩
    obtain ⟨N5, hg, a2, a3, a4, hle5⟩ : ∃ N5, GStep N4 N5 ∧ N5 i12 = some (.cells 3 ((l ++ [x]).map irow) (max 0 ((l ++ [x]).map irow).length)) ∧ N5 i13 = some (.cells 3 ((l ++ [y]).map irow) (max 0 ((l ++ [y]).map irow).length)) ∧ N5 i14 = some (.cells 3 ((l.take k ++ l.drop (k + 1)).map irow) (max 0 ((l.take k ++ l.drop (k + 1)).map irow).length)) ∧ M.le N5 := by
      have g1 := GStep.frz hN42
      have g2 := GStep.frz (M := N4.set i12 (.cells 3 ((l ++ [x]).map irow) (max 0 ((l ++ [x]).map irow).length))) (id := i13) (by rw [Mem.set_ne _ _ _ _ (by omega)]; exact hN43)
      have g3 := GStep.frz (M := (N4.set i12 (.cells 3 ((l ++ [x]).map irow) (max 0 ((l ++ [x]).map irow).length))).set i13 (.cells 3 ((l ++ [y]).map irow) (max 0 ((l ++ [y]).map irow).length))) (id := i14) (by rw [Mem.set_ne _ _ _ _ (by omega), Mem.set_ne _ _ _ _ (by omega)]; exact hN44)
      refine ⟨_, (g1.trans g2).trans g3, ?_, ?_, Mem.set_eq _ _ _, fun k bk hk => ?_⟩
      · rw [Mem.set_ne _ _ _ _ (by omega), Mem.set_ne _ _ _ _ (by omega), Mem.set_eq]
      · rw [Mem.set_ne _ _ _ _ (by omega), Mem.set_eq]
      · obtain ⟨b1, b2, b3, b4⟩ := hle4 _ _ hk
        rw [Mem.set_ne _ _ _ _ (by omega), Mem.set_ne _ _ _ _ (by omega), Mem.set_ne _ _ _ _ (by omega)]
        exact b1
    refine callI_gs hg ?_
    have hl3 : (l.take k ++ l.drop (k + 1)).length = k + (l.length - (k + 1)) := by rw [List.length_append, hkl2, hdl]
    have hxr : (0 ≤ x ∧ x < ((callsP h).length : Int)) = True := eq_true hin
    refine call_of (XCalls.rd (.cons (.inl ⟨rfl, Fast.sl _⟩) (.cons (.inl ⟨rfl, Fast.sl _⟩) (.cons (.inr ⟨_, _, rfl, rfl, Rd.ms a2 (by simp) (by simp)⟩) .nil))) (oright_spec b h (l ++ [x]) (by omega) hs (by omega) (by simp; omega) N5)) ?_
    rw [right_twice hxm]
    simp -implicitDefEqProofs (maxSteps := 1000000) (disch := omega) only [↓xsP, ↓vc_seq, xsQ, xsT, xsR, xsD, ↓reduceIte, reduceCtorEq, eq_self, ne_eq, imp_self, forall_const, Nat.reduceEqDiff, Nat.reduceAdd, Nat.reduceSub, Nat.reduceMul, Nat.reduceLT, Nat.reduceLeDiff, Nat.reduceBEq, Nat.reduceDiv, Nat.reduceMod, Int.reduceToNat, Int.reduceNeg, Int.reduceAdd, Int.reduceSub, Int.reduceMul, Int.reduceEq, Int.reduceNe, Int.reduceLT, Int.reduceLE, Int.reduceGT, Int.reduceGE, Option.isSome_none]
    refine call_of (XCalls.rd (.cons (.inl ⟨rfl, Fast.sl _⟩) (.cons (.inl ⟨rfl, Fast.sl _⟩) (.cons (.inr ⟨_, _, rfl, rfl, Rd.ms a3 (by simp) (by simp)⟩) .nil))) (oright_spec b h (l ++ [y]) (by omega) hs (by omega) (by simp; omega) N5)) ?_
    rw [hny]
    obtain ⟨c, hc⟩ : ∃ c, clAt (callsP h) x = c := ⟨_, rfl⟩
    have hcr : (callsP h).getD x.toNat default = c := hc
    rw [hc] at hless
    simp -implicitDefEqProofs (maxSteps := 1000000) (disch := omega) only [↓xsP, ↓vc_seq, xsQ, xsT, xsR, xsD, ↓reduceIte, reduceCtorEq, eq_self, ne_eq, imp_self, forall_const, Nat.reduceEqDiff, Nat.reduceAdd, Nat.reduceSub, Nat.reduceMul, Nat.reduceLT, Nat.reduceLeDiff, Nat.reduceBEq, Nat.reduceDiv, Nat.reduceMod, Int.reduceToNat, Int.reduceNeg, Int.reduceAdd, Int.reduceSub, Int.reduceMul, Int.reduceEq, Int.reduceNe, Int.reduceLT, Int.reduceLE, Int.reduceGT, Int.reduceGE, Option.isSome_none, hxe, hxr, hcr]
    refine gI_prop_f (fun hf => ?_) (fun hf => ?_)
    · simp -implicitDefEqProofs (maxSteps := 1000000) (disch := omega) only [↓xsP, ↓vc_seq, xsQ, xsT, xsR, xsD, ↓reduceIte, reduceCtorEq, eq_self, ne_eq, imp_self, forall_const, Nat.reduceEqDiff, Nat.reduceAdd, Nat.reduceSub, Nat.reduceMul, Nat.reduceLT, Nat.reduceLeDiff, Nat.reduceBEq, Nat.reduceDiv, Nat.reduceMod, Int.reduceToNat, Int.reduceNeg, Int.reduceAdd, Int.reduceSub, Int.reduceMul, Int.reduceEq, Int.reduceNe, Int.reduceLT, Int.reduceLE, Int.reduceGT, Int.reduceGE, Option.isSome_none, hxe, hxr, hcr, hf]
      refine call_of (XCalls.rd (.cons (.inl ⟨rfl, Fast.sl _⟩) (.cons (.inl ⟨rfl, Fast.sl _⟩) (.cons (.inr ⟨_, _, rfl, rfl, Rd.ms a4 (by simp) (by rw [List.length_map, hl3])⟩) .nil))) (oright_spec b h (l.take k ++ l.drop (k + 1)) (by omega) hs (by omega) (by omega) N5)) ?_
      rw [hless (by omega)]
      simp -implicitDefEqProofs (maxSteps := 1000000) (disch := omega) only [↓xsP, ↓vc_seq, xsQ, xsT, xsR, xsD, ↓reduceIte, reduceCtorEq, eq_self, ne_eq, imp_self, forall_const, Nat.reduceEqDiff, Nat.reduceAdd, Nat.reduceSub, Nat.reduceMul, Nat.reduceLT, Nat.reduceLeDiff, Nat.reduceBEq, Nat.reduceDiv, Nat.reduceMod, Int.reduceToNat, Int.reduceNeg, Int.reduceAdd, Int.reduceSub, Int.reduceMul, Int.reduceEq, Int.reduceNe, Int.reduceLT, Int.reduceLE, Int.reduceGT, Int.reduceGE, Option.isSome_none, hxe, hxr, hcr, hf]
      refine call_of (awake19_spec _) ?_
      simp -implicitDefEqProofs (maxSteps := 1000000) (disch := omega) only [↓xsP, ↓vc_seq, xsQ, xsT, xsR, xsD, ↓reduceIte, reduceCtorEq, eq_self, ne_eq, imp_self, forall_const, Nat.reduceEqDiff, Nat.reduceAdd, Nat.reduceSub, Nat.reduceMul, Nat.reduceLT, Nat.reduceLeDiff, Nat.reduceBEq, Nat.reduceDiv, Nat.reduceMod, Int.reduceToNat, Int.reduceNeg, Int.reduceAdd, Int.reduceSub, Int.reduceMul, Int.reduceEq, Int.reduceNe, Int.reduceLT, Int.reduceLE, Int.reduceGT, Int.reduceGE]
      exact fin_ok hle5 ⟨rfl, rfl⟩
    · simp -implicitDefEqProofs (maxSteps := 1000000) (disch := omega) only [↓xsP, ↓vc_seq, xsQ, xsT, xsR, xsD, ↓reduceIte, reduceCtorEq, eq_self, ne_eq, imp_self, forall_const, Nat.reduceEqDiff, Nat.reduceAdd, Nat.reduceSub, Nat.reduceMul, Nat.reduceLT, Nat.reduceLeDiff, Nat.reduceBEq, Nat.reduceDiv, Nat.reduceMod, Int.reduceToNat, Int.reduceNeg, Int.reduceAdd, Int.reduceSub, Int.reduceMul, Int.reduceEq, Int.reduceNe, Int.reduceLT, Int.reduceLE, Int.reduceGT, Int.reduceGE, Option.isSome_none, hxe, hxr, hcr, hf]
      refine call_of (awake19_spec _) ?_
      simp -implicitDefEqProofs (maxSteps := 1000000) (disch := omega) only [↓xsP, ↓vc_seq, xsQ, xsT, xsR, xsD, ↓reduceIte, reduceCtorEq, eq_self, ne_eq, imp_self, forall_const, Nat.reduceEqDiff, Nat.reduceAdd, Nat.reduceSub, Nat.reduceMul, Nat.reduceLT, Nat.reduceLeDiff, Nat.reduceBEq, Nat.reduceDiv, Nat.reduceMod, Int.reduceToNat, Int.reduceNeg, Int.reduceAdd, Int.reduceSub, Int.reduceMul, Int.reduceEq, Int.reduceNe, Int.reduceLT, Int.reduceLE, Int.reduceGT, Int.reduceGE]
      exact fin_ok hle5 ⟨rfl, rfl⟩
end Go.X
